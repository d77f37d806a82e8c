/- The walks of the functions: each returns what its plain function says. -/
import Derived.Test.YtdbgmkfniichdaaDWalks2
namespace Go.Proofs.Ytdbgmkfniichdaa
open Go.Gx Go.Gx.F Go.RowKit
set_option linter.all false
set_option maxRecDepth 10000


theorem c_laws_FnLedgers (p_code : List (K .u8)) (p_more : List (K .u8)) (r : Bool) (hr : laws_FnLedgers p_code p_more = some r) (w0 : World) (m : Mem) (hv : Vis m w0) (s1 : Sl) (h1 : Rd m s1 p_code) (s2 : Sl) (h2 : Rd m s2 p_more) :
    Ret Try.prog 4 [s1.v, s2.v] w0 (fun v _ => v = (.bool r)) := by
  unfold laws_FnLedgers at hr
  refine ret_start Try.func4 rfl 145 rfl rfl m hv fun a hF hS => ?_
  refine q_seq ?_
  refine q_region ?_
  refine q_x (v := (.bool false)) hF hS (ex_assign rfl) rfl rfl fun a hF => ?_
  refine q_end (n_sq ?_)
  refine q_seq ?_
  refine q_seq ?_
  refine q_region ?_
  refine q_x (v := s1.v) hF hS (ex_move rfl) rfl rfl fun a hF => ?_
  refine q_x (v := (.int .i64 (goLen p_code))) hF hS (ex_len Try.underlying22 rfl h1.len) rfl rfl fun a hF => ?_
  refine q_x (v := s2.v) hF hS (ex_move rfl) rfl rfl fun a hF => ?_
  refine q_x (v := (.int .i64 (goLen p_more))) hF hS (ex_len Try.underlying22 rfl h2.len) rfl rfl fun a hF => ?_
  refine q_x (v := (.int .i64 (w64 ((goLen p_code) + (goLen p_more))))) hF hS (ex_ibin rfl rfl rfl) rfl rfl fun a hF => ?_
  refine q_x (v := (.bool (decide (1048576 < (w64 ((goLen p_code) + (goLen p_more))))))) hF hS (ex_ibin rfl rfl rfl) rfl rfl fun a hF => ?_
  refine q_end (n_sq ?_)
  rcases bcase (decide (1048576 < (w64 ((goLen p_code) + (goLen p_more))))) with hc1 | hc1
  · have hr := cond_f hc1 hr
    refine q_cond_f hF rfl hc1 ?_
    refine q_skipc (n_sq ?_)
    refine q_seq ?_
    refine q_region ?_
    refine q_x (v := s1.v) hF hS (ex_move rfl) rfl rfl fun a hF => ?_
    obtain ⟨t_3, ht_3, hr⟩ := bindS hr
    refine q_call (vs := [s1.v]) hF hS Try.func18 (by kernel_rfl) rfl rfl rfl (c_spec_DrawAcceptEntries p_code t_3 ht_3 _ m hS.vis s1 h1) ?_
    have hT := hS
    rintro a w _ ⟨m4, q5, s5, rfl, hm4, hR4, h5⟩ hF hS2
    have hS : St _ _ _ _ [q5] := hS.join hR4 hm4
    have hm4 := MLe.weakX (O0 := []) hT hm4
    refine q_x (v := (.tuple #[(.agg #[(.int .i64 t_3.1.Ratio.Num), (.int .i64 t_3.1.Ratio.Den), (.int .i64 t_3.1.Rho.Num), (.int .i64 t_3.1.Rho.Den)]), s5.v])) hF hS (ex_move rfl) rfl rfl fun a hF => ?_
    refine q_x (v := (.agg #[(.int .i64 t_3.1.Ratio.Num), (.int .i64 t_3.1.Ratio.Den), (.int .i64 t_3.1.Rho.Num), (.int .i64 t_3.1.Rho.Den)])) hF hS (ex_extract rfl rfl) rfl rfl fun a hF => ?_
    refine q_x (v := s5.v) hF hS (ex_extract rfl rfl) rfl rfl fun a hF => ?_
    refine q_alloc (cs := [(.int .i64 0), (.int .i64 0), (.int .i64 0), (.int .i64 0)]) hF hS rfl rfl rfl fun a w b6 hF hS => ?_
    refine q_store (vs := [(.int .i64 t_3.1.Ratio.Num), (.int .i64 t_3.1.Ratio.Den), (.int .i64 t_3.1.Rho.Num), (.int .i64 t_3.1.Rho.Den)]) (cs' := [(.int .i64 t_3.1.Ratio.Num), (.int .i64 t_3.1.Ratio.Den), (.int .i64 t_3.1.Rho.Num), (.int .i64 t_3.1.Rho.Den)]) 0 0 hF hS sz26 rfl rfl rfl rfl rfl rfl rfl rfl fun a w hF hS => ?_
    refine q_x (v := s5.v) hF hS (ex_assign rfl) rfl rfl fun a hF => ?_
    refine q_end (n_sq ?_)
    refine q_seq ?_
    refine q_region ?_
    refine q_x (v := (.agg #[(.int .i64 t_3.1.Ratio.Num), (.int .i64 t_3.1.Ratio.Den), (.int .i64 t_3.1.Rho.Num), (.int .i64 t_3.1.Rho.Den)])) hF hS (ex_loadA (vs := [(.int .i64 t_3.1.Ratio.Num), (.int .i64 t_3.1.Ratio.Den), (.int .i64 t_3.1.Rho.Num), (.int .i64 t_3.1.Rho.Den)]) 0 0 Try.underlying26 rfl sz26 rfl rfl rfl rfl) rfl rfl fun a hF => ?_
    refine q_x (v := s5.v) hF hS (ex_move rfl) rfl rfl fun a hF => ?_
    obtain ⟨m8, hl8, hv8, hz8⟩ := hS.lend
    obtain ⟨t_7, ht_7, hr⟩ := bindS hr
    refine q_call (vs := [(.agg #[(.int .i64 t_3.1.Ratio.Num), (.int .i64 t_3.1.Ratio.Den), (.int .i64 t_3.1.Rho.Num), (.int .i64 t_3.1.Rho.Den)]), s5.v]) hF hS Try.func19 (by kernel_rfl) rfl rfl rfl (c_impl_AcceptEntries t_3.1 t_3.2 t_7 ht_7 _ m8 hv8 s5 (h5.froz hl8 (hz8 1 _ rfl))) ?_
    rintro a w _ ⟨q10, s10, rfl, hR9, h10⟩ hF hS2
    have hS : St _ _ _ _ [q10, [⟨b6, [(.int .i64 t_3.1.Ratio.Num), (.int .i64 t_3.1.Ratio.Den), (.int .i64 t_3.1.Rho.Num), (.int .i64 t_3.1.Rho.Den)], 26⟩], q5] := hS.joinF hR9
    have h10 := h10.any m4
    refine q_x (v := (.tuple #[s10.v, (.bool t_7.2)])) hF hS (ex_move rfl) rfl rfl fun a hF => ?_
    refine q_x (v := s10.v) hF hS (ex_extract rfl rfl) rfl rfl fun a hF => ?_
    refine q_x (v := (.bool t_7.2)) hF hS (ex_extract rfl rfl) rfl rfl fun a hF => ?_
    refine q_x (v := s10.v) hF hS (ex_assign rfl) rfl rfl fun a hF => ?_
    refine q_x (v := (.bool t_7.2)) hF hS (ex_assign rfl) rfl rfl fun a hF => ?_
    refine q_end (n_sq ?_)
    refine q_seq ?_
    refine q_region ?_
    refine q_x (v := (.agg #[(.int .i64 t_3.1.Ratio.Num), (.int .i64 t_3.1.Ratio.Den), (.int .i64 t_3.1.Rho.Num), (.int .i64 t_3.1.Rho.Den)])) hF hS (ex_loadA (vs := [(.int .i64 t_3.1.Ratio.Num), (.int .i64 t_3.1.Ratio.Den), (.int .i64 t_3.1.Rho.Num), (.int .i64 t_3.1.Rho.Den)]) 1 0 Try.underlying26 rfl sz26 rfl rfl rfl rfl) rfl rfl fun a hF => ?_
    refine q_x (v := s5.v) hF hS (ex_move rfl) rfl rfl fun a hF => ?_
    obtain ⟨m12, hl12, hv12, hz12⟩ := hS.lend
    obtain ⟨t_11, ht_11, hr⟩ := bindS hr
    refine q_call (vs := [(.agg #[(.int .i64 t_3.1.Ratio.Num), (.int .i64 t_3.1.Ratio.Den), (.int .i64 t_3.1.Rho.Num), (.int .i64 t_3.1.Rho.Den)]), s5.v]) hF hS Try.func20 (by kernel_rfl) rfl rfl rfl (c_spec_AcceptEntries t_3.1 t_3.2 t_11 ht_11 _ m12 hv12 s5 (h5.froz hl12 (hz12 2 _ rfl))) ?_
    rintro a w _ ⟨q14, s14, rfl, hR13, h14⟩ hF hS2
    have hS : St _ _ _ _ [q14, q10, [⟨b6, [(.int .i64 t_3.1.Ratio.Num), (.int .i64 t_3.1.Ratio.Den), (.int .i64 t_3.1.Rho.Num), (.int .i64 t_3.1.Rho.Den)], 26⟩], q5] := hS.joinF hR13
    have h14 := h14.any m4
    refine q_x (v := (.tuple #[s14.v, (.bool t_11.2)])) hF hS (ex_move rfl) rfl rfl fun a hF => ?_
    refine q_x (v := s14.v) hF hS (ex_extract rfl rfl) rfl rfl fun a hF => ?_
    refine q_x (v := (.bool t_11.2)) hF hS (ex_extract rfl rfl) rfl rfl fun a hF => ?_
    refine q_x (v := s14.v) hF hS (ex_assign rfl) rfl rfl fun a hF => ?_
    refine q_x (v := (.bool t_11.2)) hF hS (ex_assign rfl) rfl rfl fun a hF => ?_
    refine q_end (n_sq ?_)
    refine q_seq ?_
    refine q_region ?_
    refine q_x (v := s2.v) hF hS (ex_move rfl) rfl rfl fun a hF => ?_
    obtain ⟨t_15, ht_15, hr⟩ := bindS hr
    refine q_call (vs := [s2.v]) hF hS Try.func21 (by kernel_rfl) rfl rfl rfl (c_spec_DrawLedgerLoss p_more t_15 ht_15 _ m4 hS.vis s2 (h2.mono hm4.le)) ?_
    have hT := hS
    rintro a w _ ⟨m16, q17, s17, rfl, hm16, hR16, h17⟩ hF hS2
    have hS : St _ _ _ _ [q17, q14, q10, [⟨b6, [(.int .i64 t_3.1.Ratio.Num), (.int .i64 t_3.1.Ratio.Den), (.int .i64 t_3.1.Rho.Num), (.int .i64 t_3.1.Rho.Den)], 26⟩], q5] := hS.join hR16 hm16
    have hm16 := MLe.weakX (O0 := []) hT hm16
    refine q_x (v := s17.v) hF hS (ex_assign rfl) rfl rfl fun a hF => ?_
    refine q_end (n_sq ?_)
    refine q_seq ?_
    refine q_region ?_
    refine q_x (v := s17.v) hF hS (ex_move rfl) rfl rfl fun a hF => ?_
    obtain ⟨m19, hl19, hv19, hz19⟩ := hS.lend
    obtain ⟨t_18, ht_18, hr⟩ := bindS hr
    refine q_call (vs := [s17.v]) hF hS Try.func22 (by kernel_rfl) rfl rfl rfl (c_impl_LedgerLoss t_15 t_18 ht_18 _ m19 hv19 s17 (h17.froz hl19 (hz19 0 _ rfl))) ?_
    rintro a w _ rfl hF hS
    refine q_x (v := (.tuple #[(.agg #[(.int .i64 t_18.1.Ratio.Num), (.int .i64 t_18.1.Ratio.Den), (.int .i64 t_18.1.Rho.Num), (.int .i64 t_18.1.Rho.Den)]), (.bool t_18.2)])) hF hS (ex_move rfl) rfl rfl fun a hF => ?_
    refine q_x (v := (.agg #[(.int .i64 t_18.1.Ratio.Num), (.int .i64 t_18.1.Ratio.Den), (.int .i64 t_18.1.Rho.Num), (.int .i64 t_18.1.Rho.Den)])) hF hS (ex_extract rfl rfl) rfl rfl fun a hF => ?_
    refine q_x (v := (.bool t_18.2)) hF hS (ex_extract rfl rfl) rfl rfl fun a hF => ?_
    refine q_alloc (cs := [(.int .i64 0), (.int .i64 0), (.int .i64 0), (.int .i64 0)]) hF hS rfl rfl rfl fun a w b20 hF hS => ?_
    refine q_store (vs := [(.int .i64 t_18.1.Ratio.Num), (.int .i64 t_18.1.Ratio.Den), (.int .i64 t_18.1.Rho.Num), (.int .i64 t_18.1.Rho.Den)]) (cs' := [(.int .i64 t_18.1.Ratio.Num), (.int .i64 t_18.1.Ratio.Den), (.int .i64 t_18.1.Rho.Num), (.int .i64 t_18.1.Rho.Den)]) 0 0 hF hS sz26 rfl rfl rfl rfl rfl rfl rfl rfl fun a w hF hS => ?_
    refine q_x (v := (.bool t_18.2)) hF hS (ex_assign rfl) rfl rfl fun a hF => ?_
    refine q_end (n_sq ?_)
    refine q_seq ?_
    refine q_region ?_
    refine q_x (v := s17.v) hF hS (ex_move rfl) rfl rfl fun a hF => ?_
    obtain ⟨m22, hl22, hv22, hz22⟩ := hS.lend
    obtain ⟨t_21, ht_21, hr⟩ := bindS hr
    refine q_call (vs := [s17.v]) hF hS Try.func23 (by kernel_rfl) rfl rfl rfl (c_spec_LedgerLoss t_15 t_21 ht_21 _ m22 hv22 s17 (h17.froz hl22 (hz22 1 _ rfl))) ?_
    rintro a w _ rfl hF hS
    refine q_x (v := (.tuple #[(.agg #[(.int .i64 t_21.1.Ratio.Num), (.int .i64 t_21.1.Ratio.Den), (.int .i64 t_21.1.Rho.Num), (.int .i64 t_21.1.Rho.Den)]), (.bool t_21.2)])) hF hS (ex_move rfl) rfl rfl fun a hF => ?_
    refine q_x (v := (.agg #[(.int .i64 t_21.1.Ratio.Num), (.int .i64 t_21.1.Ratio.Den), (.int .i64 t_21.1.Rho.Num), (.int .i64 t_21.1.Rho.Den)])) hF hS (ex_extract rfl rfl) rfl rfl fun a hF => ?_
    refine q_x (v := (.bool t_21.2)) hF hS (ex_extract rfl rfl) rfl rfl fun a hF => ?_
    refine q_alloc (cs := [(.int .i64 0), (.int .i64 0), (.int .i64 0), (.int .i64 0)]) hF hS rfl rfl rfl fun a w b23 hF hS => ?_
    refine q_store (vs := [(.int .i64 t_21.1.Ratio.Num), (.int .i64 t_21.1.Ratio.Den), (.int .i64 t_21.1.Rho.Num), (.int .i64 t_21.1.Rho.Den)]) (cs' := [(.int .i64 t_21.1.Ratio.Num), (.int .i64 t_21.1.Ratio.Den), (.int .i64 t_21.1.Rho.Num), (.int .i64 t_21.1.Rho.Den)]) 0 0 hF hS sz26 rfl rfl rfl rfl rfl rfl rfl rfl fun a w hF hS => ?_
    refine q_x (v := (.bool t_21.2)) hF hS (ex_assign rfl) rfl rfl fun a hF => ?_
    refine q_end (n_sq ?_)
    refine q_seq ?_
    refine q_seq ?_
    obtain ⟨t_26, hj2, hr⟩ := bindS hr
    refine q_join (fun a w => Fr a 145 [(5, (.pointer (some ⟨b6, 0, none⟩))), (6, s5.v), (7, s10.v), (8, (.bool t_7.2)), (11, s17.v), (12, (.pointer (some ⟨b20, 0, none⟩))), (13, (.bool t_18.2)), (80, (.bool t_26))] ∧ St [] w0 w m16 [q5, q10, q17, [⟨b20, [(.int .i64 t_18.1.Ratio.Num), (.int .i64 t_18.1.Ratio.Den), (.int .i64 t_18.1.Rho.Num), (.int .i64 t_18.1.Rho.Den)], 26⟩], [⟨b6, [(.int .i64 t_3.1.Ratio.Num), (.int .i64 t_3.1.Ratio.Den), (.int .i64 t_3.1.Rho.Num), (.int .i64 t_3.1.Rho.Den)], 26⟩]]) ?_ ?_
    · refine q_region ?_
      refine q_x (v := (.bool t_7.2)) hF hS (ex_move rfl) rfl rfl fun a hF => ?_
      refine q_x (v := (.bool t_11.2)) hF hS (ex_move rfl) rfl rfl fun a hF => ?_
      refine q_x (v := (.bool (t_7.2 != t_11.2))) hF hS (ex_bne Try.underlying4 rfl rfl) rfl rfl fun a hF => ?_
      refine q_x (v := (.bool (t_7.2 != t_11.2))) hF hS (ex_move rfl) rfl rfl fun a hF => ?_
      rcases bcase (t_7.2 != t_11.2) with hc3 | hc3
      · have hj2 := cond_f hc3 hj2
        refine q_xg (v := s10.v) hF hS (ex_move rfl) (wanted_t hF rfl rfl rfl hc3) rfl fun a hF => ?_
        refine q_xg (v := s14.v) hF hS (ex_move rfl) (wanted_t hF rfl rfl rfl hc3) rfl fun a hF => ?_
        obtain ⟨m25, hl25, hv25, hz25⟩ := hS.lend
        obtain ⟨t_24, ht_24, hj2⟩ := bindS hj2
        refine q_callg (vs := [s10.v, s14.v]) hF hS (wanted_t hF rfl rfl rfl hc3) Try.func24 (by kernel_rfl) rfl rfl rfl (c_laws_qInts t_7.1 t_11.1 t_24 ht_24 _ m25 hv25 s10 ((h10.mono hm16.le).froz hl25 (hz25 4 _ rfl)) s14 ((h14.mono hm16.le).froz hl25 (hz25 3 _ rfl))) ?_
        rintro a w _ rfl hF hS
        refine q_xg (v := (.bool (!t_24))) hF hS (ex_not rfl) (wanted_t hF rfl rfl rfl hc3) rfl fun a hF => ?_
        refine q_x (v := (.bool (!t_24))) hF hS (ex_pick_f rfl rfl hc3) rfl rfl fun a hF => ?_
        refine q_x (v := (.bool (!t_24))) hF hS (ex_move rfl) rfl rfl fun a hF => ?_
        rcases bcase (!t_24) with hc4 | hc4
        · have hj2 := cond_f hc4 hj2
          refine q_xg (v := (.bool t_18.2)) hF hS (ex_move rfl) (wanted_t hF rfl rfl rfl hc4) rfl fun a hF => ?_
          refine q_xg (v := (.bool t_21.2)) hF hS (ex_move rfl) (wanted_t hF rfl rfl rfl hc4) rfl fun a hF => ?_
          refine q_xg (v := (.bool (t_18.2 != t_21.2))) hF hS (ex_bne Try.underlying4 rfl rfl) (wanted_t hF rfl rfl rfl hc4) rfl fun a hF => ?_
          refine q_x (v := (.bool (t_18.2 != t_21.2))) hF hS (ex_pick_f rfl rfl hc4) rfl rfl fun a hF => ?_
          refine q_x (v := (.bool (t_18.2 != t_21.2))) hF hS (ex_move rfl) rfl rfl fun a hF => ?_
          rcases bcase (t_18.2 != t_21.2) with hc5 | hc5
          · have hj2 := cond_f hc5 hj2
            refine q_xg (v := (.agg #[(.int .i64 t_18.1.Ratio.Num), (.int .i64 t_18.1.Ratio.Den), (.int .i64 t_18.1.Rho.Num), (.int .i64 t_18.1.Rho.Den)])) hF hS (ex_loadA (vs := [(.int .i64 t_18.1.Ratio.Num), (.int .i64 t_18.1.Ratio.Den), (.int .i64 t_18.1.Rho.Num), (.int .i64 t_18.1.Rho.Den)]) 1 0 Try.underlying26 rfl sz26 rfl rfl rfl rfl) (wanted_t hF rfl rfl rfl hc5) rfl fun a hF => ?_
            refine q_xg (v := (.agg #[(.int .i64 t_21.1.Ratio.Num), (.int .i64 t_21.1.Ratio.Den), (.int .i64 t_21.1.Rho.Num), (.int .i64 t_21.1.Rho.Den)])) hF hS (ex_loadA (vs := [(.int .i64 t_21.1.Ratio.Num), (.int .i64 t_21.1.Ratio.Den), (.int .i64 t_21.1.Rho.Num), (.int .i64 t_21.1.Rho.Den)]) 0 0 Try.underlying26 rfl sz26 rfl rfl rfl rfl) (wanted_t hF rfl rfl rfl hc5) rfl fun a hF => ?_
            refine q_xg (v := (.bool (!(((t_18.1.Ratio.Num == t_21.1.Ratio.Num) && ((t_18.1.Ratio.Den == t_21.1.Ratio.Den) && true)) && (((t_18.1.Rho.Num == t_21.1.Rho.Num) && ((t_18.1.Rho.Den == t_21.1.Rho.Den) && true)) && true))))) hF hS (ex_neA (xs := [(.int .i64 t_18.1.Ratio.Num), (.int .i64 t_18.1.Ratio.Den), (.int .i64 t_18.1.Rho.Num), (.int .i64 t_18.1.Rho.Den)]) (ys := [(.int .i64 t_21.1.Ratio.Num), (.int .i64 t_21.1.Ratio.Den), (.int .i64 t_21.1.Rho.Num), (.int .i64 t_21.1.Rho.Den)]) rfl rfl (by kernel_rfl) (eqv_struct (xs := [(.int .i64 t_18.1.Ratio.Num), (.int .i64 t_18.1.Ratio.Den), (.int .i64 t_18.1.Rho.Num), (.int .i64 t_18.1.Rho.Den)]) (ys := [(.int .i64 t_21.1.Ratio.Num), (.int .i64 t_21.1.Ratio.Den), (.int .i64 t_21.1.Rho.Num), (.int .i64 t_21.1.Rho.Den)]) Try.underlying26 (by kernel_rfl) (eqf_cons rfl (part_agg (vs := [(.int .i64 t_18.1.Ratio.Num), (.int .i64 t_18.1.Ratio.Den)]) Try.underlying24 rfl sz24 rfl) (part_agg (vs := [(.int .i64 t_21.1.Ratio.Num), (.int .i64 t_21.1.Ratio.Den)]) Try.underlying24 rfl sz24 rfl) (eqv_struct (xs := [(.int .i64 t_18.1.Ratio.Num), (.int .i64 t_18.1.Ratio.Den)]) (ys := [(.int .i64 t_21.1.Ratio.Num), (.int .i64 t_21.1.Ratio.Den)]) Try.underlying24 (by kernel_rfl) (eqf_cons rfl (part_cell Try.underlying3 rfl rfl) (part_cell Try.underlying3 rfl rfl) (eqv_int Try.underlying3) (eqf_cons rfl (part_cell Try.underlying3 rfl rfl) (part_cell Try.underlying3 rfl rfl) (eqv_int Try.underlying3) (eqf_nil)))) (eqf_cons rfl (part_agg (vs := [(.int .i64 t_18.1.Rho.Num), (.int .i64 t_18.1.Rho.Den)]) Try.underlying24 rfl sz24 rfl) (part_agg (vs := [(.int .i64 t_21.1.Rho.Num), (.int .i64 t_21.1.Rho.Den)]) Try.underlying24 rfl sz24 rfl) (eqv_struct (xs := [(.int .i64 t_18.1.Rho.Num), (.int .i64 t_18.1.Rho.Den)]) (ys := [(.int .i64 t_21.1.Rho.Num), (.int .i64 t_21.1.Rho.Den)]) Try.underlying24 (by kernel_rfl) (eqf_cons rfl (part_cell Try.underlying3 rfl rfl) (part_cell Try.underlying3 rfl rfl) (eqv_int Try.underlying3) (eqf_cons rfl (part_cell Try.underlying3 rfl rfl) (part_cell Try.underlying3 rfl rfl) (eqv_int Try.underlying3) (eqf_nil)))) (eqf_nil))))) (wanted_t hF rfl rfl rfl hc5) rfl fun a hF => ?_
            refine q_x (v := (.bool (!(((t_18.1.Ratio.Num == t_21.1.Ratio.Num) && ((t_18.1.Ratio.Den == t_21.1.Ratio.Den) && true)) && (((t_18.1.Rho.Num == t_21.1.Rho.Num) && ((t_18.1.Rho.Den == t_21.1.Rho.Den) && true)) && true))))) hF hS (ex_pick_f rfl rfl hc5) rfl rfl fun a hF => ?_
            refine q_end (n_jn ?_)
            obtain rfl := someI hj2
            exact ⟨hF.sub ⟨rfl, rfl, rfl, rfl, rfl, rfl, rfl, rfl, trivial⟩, hS.sel [6, 4, 2, 1, 5] (by decide)⟩
          · have hj2 := cond_t hc5 hj2
            refine q_skip hF (wanted_f hF rfl rfl rfl hc5 rfl) rfl fun a hF => ?_
            refine q_skip hF (wanted_f hF rfl rfl rfl hc5 rfl) rfl fun a hF => ?_
            refine q_skip hF (wanted_f hF rfl rfl rfl hc5 rfl) rfl fun a hF => ?_
            refine q_x (v := (.bool true)) hF hS (ex_pick_t rfl rfl hc5) rfl rfl fun a hF => ?_
            refine q_end (n_jn ?_)
            obtain rfl := someI hj2
            exact ⟨hF.sub ⟨rfl, rfl, rfl, rfl, rfl, rfl, rfl, rfl, trivial⟩, hS.sel [6, 4, 2, 1, 5] (by decide)⟩
        · have hj2 := cond_t hc4 hj2
          refine q_skip hF (wanted_f hF rfl rfl rfl hc4 rfl) rfl fun a hF => ?_
          refine q_skip hF (wanted_f hF rfl rfl rfl hc4 rfl) rfl fun a hF => ?_
          refine q_skip hF (wanted_f hF rfl rfl rfl hc4 rfl) rfl fun a hF => ?_
          refine q_x (v := (.bool true)) hF hS (ex_pick_t rfl rfl hc4) rfl rfl fun a hF => ?_
          refine q_x (v := (.bool true)) hF hS (ex_move rfl) rfl rfl fun a hF => ?_
          refine q_skip hF (wanted_f hF rfl rfl rfl rfl rfl) rfl fun a hF => ?_
          refine q_skip hF (wanted_f hF rfl rfl rfl rfl rfl) rfl fun a hF => ?_
          refine q_skip hF (wanted_f hF rfl rfl rfl rfl rfl) rfl fun a hF => ?_
          refine q_x (v := (.bool true)) hF hS (ex_pick_t rfl rfl rfl) rfl rfl fun a hF => ?_
          refine q_end (n_jn ?_)
          obtain rfl := someI hj2
          exact ⟨hF.sub ⟨rfl, rfl, rfl, rfl, rfl, rfl, rfl, rfl, trivial⟩, hS.sel [6, 4, 2, 1, 5] (by decide)⟩
      · have hj2 := cond_t hc3 hj2
        refine q_skip hF (wanted_f hF rfl rfl rfl hc3 rfl) rfl fun a hF => ?_
        refine q_skip hF (wanted_f hF rfl rfl rfl hc3 rfl) rfl fun a hF => ?_
        refine q_skip hF (wanted_f hF rfl rfl rfl hc3 rfl) rfl fun a hF => ?_
        refine q_skip hF (wanted_f hF rfl rfl rfl hc3 rfl) rfl fun a hF => ?_
        refine q_x (v := (.bool true)) hF hS (ex_pick_t rfl rfl hc3) rfl rfl fun a hF => ?_
        refine q_x (v := (.bool true)) hF hS (ex_move rfl) rfl rfl fun a hF => ?_
        refine q_skip hF (wanted_f hF rfl rfl rfl rfl rfl) rfl fun a hF => ?_
        refine q_skip hF (wanted_f hF rfl rfl rfl rfl rfl) rfl fun a hF => ?_
        refine q_skip hF (wanted_f hF rfl rfl rfl rfl rfl) rfl fun a hF => ?_
        refine q_x (v := (.bool true)) hF hS (ex_pick_t rfl rfl rfl) rfl rfl fun a hF => ?_
        refine q_x (v := (.bool true)) hF hS (ex_move rfl) rfl rfl fun a hF => ?_
        refine q_skip hF (wanted_f hF rfl rfl rfl rfl rfl) rfl fun a hF => ?_
        refine q_skip hF (wanted_f hF rfl rfl rfl rfl rfl) rfl fun a hF => ?_
        refine q_skip hF (wanted_f hF rfl rfl rfl rfl rfl) rfl fun a hF => ?_
        refine q_x (v := (.bool true)) hF hS (ex_pick_t rfl rfl rfl) rfl rfl fun a hF => ?_
        refine q_end (n_jn ?_)
        obtain rfl := someI hj2
        exact ⟨hF.sub ⟨rfl, rfl, rfl, rfl, rfl, rfl, rfl, rfl, trivial⟩, hS.sel [6, 4, 2, 1, 5] (by decide)⟩
    · rintro a w ⟨hF, hS⟩
      refine n_sq ?_
      rcases bcase (t_26) with hc6 | hc6
      · have hr := cond_f hc6 hr
        refine q_cond_f hF rfl hc6 ?_
        refine q_skipc (n_sq ?_)
        refine q_seq ?_
        refine q_seq ?_
        obtain ⟨t_27, hj7, hr⟩ := bindS hr
        refine q_join (fun a w => Fr a 145 [(5, (.pointer (some ⟨b6, 0, none⟩))), (6, s5.v), (7, s10.v), (8, (.bool t_7.2)), (11, s17.v), (12, (.pointer (some ⟨b20, 0, none⟩))), (86, (.bool t_27))] ∧ St [] w0 w m16 [q5, q10, q17, [⟨b20, [(.int .i64 t_18.1.Ratio.Num), (.int .i64 t_18.1.Ratio.Den), (.int .i64 t_18.1.Rho.Num), (.int .i64 t_18.1.Rho.Den)], 26⟩], [⟨b6, [(.int .i64 t_3.1.Ratio.Num), (.int .i64 t_3.1.Ratio.Den), (.int .i64 t_3.1.Rho.Num), (.int .i64 t_3.1.Rho.Den)], 26⟩]]) ?_ ?_
        · refine q_region ?_
          refine q_x (v := (.bool t_18.2)) hF hS (ex_move rfl) rfl rfl fun a hF => ?_
          refine q_x (v := (.bool t_18.2)) hF hS (ex_move rfl) rfl rfl fun a hF => ?_
          rcases bcase (t_18.2) with hc8 | hc8
          · have hj7 := cond_f hc8 hj7
            refine q_skip hF (wanted_f hF rfl rfl rfl hc8 rfl) rfl fun a hF => ?_
            refine q_skip hF (wanted_f hF rfl rfl rfl hc8 rfl) rfl fun a hF => ?_
            refine q_skip hF (wanted_f hF rfl rfl rfl hc8 rfl) rfl fun a hF => ?_
            refine q_x (v := (.bool false)) hF hS (ex_pick_f rfl rfl hc8) rfl rfl fun a hF => ?_
            refine q_end (n_jn ?_)
            obtain rfl := someI hj7
            exact ⟨hF.sub ⟨rfl, rfl, rfl, rfl, rfl, rfl, rfl, trivial⟩, hS⟩
          · have hj7 := cond_t hc8 hj7
            refine q_xg (v := s17.v) hF hS (ex_move rfl) (wanted_t hF rfl rfl rfl hc8) rfl fun a hF => ?_
            refine q_xg (v := (.int .i64 (goLen t_15))) hF hS (ex_len Try.underlying39 rfl h17.len) (wanted_t hF rfl rfl rfl hc8) rfl fun a hF => ?_
            refine q_xg (v := (.bool (decide (0 < (goLen t_15))))) hF hS (ex_ibin rfl rfl rfl) (wanted_t hF rfl rfl rfl hc8) rfl fun a hF => ?_
            refine q_x (v := (.bool (decide (0 < (goLen t_15))))) hF hS (ex_pick_t rfl rfl hc8) rfl rfl fun a hF => ?_
            refine q_end (n_jn ?_)
            obtain rfl := someI hj7
            exact ⟨hF.sub ⟨rfl, rfl, rfl, rfl, rfl, rfl, rfl, trivial⟩, hS⟩
        · rintro a w ⟨hF, hS⟩
          refine n_sq ?_
          obtain ⟨j9, hj9, hr⟩ := bindS hr
          refine q_join (fun a w => j9 = .inl () ∧ Fr a 145 [(5, (.pointer (some ⟨b6, 0, none⟩))), (6, s5.v), (7, s10.v), (8, (.bool t_7.2))] ∧ St [] w0 w m16 [q5, q10, [⟨b6, [(.int .i64 t_3.1.Ratio.Num), (.int .i64 t_3.1.Ratio.Den), (.int .i64 t_3.1.Rho.Num), (.int .i64 t_3.1.Rho.Den)], 26⟩]]) ?_ ?_
          · rcases bcase (t_27) with hc10 | hc10
            · have hj9 := cond_f hc10 hj9
              refine q_cond_f hF rfl hc10 ?_
              refine q_skipc (n_jn ?_)
              obtain rfl := someI hj9
              exact ⟨rfl, hF.sub ⟨rfl, rfl, rfl, rfl, trivial⟩, hS.mask [true, true, false, false, true]⟩
            · have hj9 := cond_t hc10 hj9
              refine q_cond_t hF rfl hc10 ?_
              refine q_seq ?_
              refine q_region ?_
              refine q_x (v := s17.v) hF hS (ex_move rfl) rfl rfl fun a hF => ?_
              refine q_x (v := s17.v) hF hS (ex_move rfl) rfl rfl fun a hF => ?_
              refine q_x (v := (.int .i64 (goLen t_15))) hF hS (ex_len Try.underlying39 rfl h17.len) rfl rfl fun a hF => ?_
              refine q_x (v := (.int .i64 (w64 ((goLen t_15) - 1)))) hF hS (ex_ibin rfl rfl rfl) rfl rfl fun a hF => ?_
              obtain ⟨l_28, hl_28, hj9⟩ := bindS hj9
              have h29 : OwnL m16 49 q17 (subS s17 5 (0 : Int).toNat (w64 ((goLen t_15) - 1)).toNat s17.cap) l_28 := h17.sub0 hl_28
              refine q_x (v := (subS s17 5 (0 : Int).toNat (w64 ((goLen t_15) - 1)).toNat s17.cap).v) hF hS (ex_slice Try.underlying39 sz49 rfl rfl rfl (.inl ⟨rfl, rfl⟩) (.inr ⟨_, rfl⟩) (h17.subok hl_28)) rfl rfl fun a hF => ?_
              obtain ⟨m31, hl31, hv31, hz31⟩ := hS.lend
              obtain ⟨t_30, ht_30, hj9⟩ := bindS hj9
              refine q_call (vs := [(subS s17 5 (0 : Int).toNat (w64 ((goLen t_15) - 1)).toNat s17.cap).v]) hF hS Try.func22 (by kernel_rfl) rfl rfl rfl (c_impl_LedgerLoss l_28 t_30 ht_30 _ m31 hv31 (subS s17 5 (0 : Int).toNat (w64 ((goLen t_15) - 1)).toNat s17.cap) (h29.froz hl31 (hz31 2 _ rfl))) ?_
              rintro a w _ rfl hF hS
              refine q_x (v := (.tuple #[(.agg #[(.int .i64 t_30.1.Ratio.Num), (.int .i64 t_30.1.Ratio.Den), (.int .i64 t_30.1.Rho.Num), (.int .i64 t_30.1.Rho.Den)]), (.bool t_30.2)])) hF hS (ex_move rfl) rfl rfl fun a hF => ?_
              refine q_x (v := (.agg #[(.int .i64 t_30.1.Ratio.Num), (.int .i64 t_30.1.Ratio.Den), (.int .i64 t_30.1.Rho.Num), (.int .i64 t_30.1.Rho.Den)])) hF hS (ex_extract rfl rfl) rfl rfl fun a hF => ?_
              refine q_x (v := (.bool t_30.2)) hF hS (ex_extract rfl rfl) rfl rfl fun a hF => ?_
              refine q_alloc (cs := [(.int .i64 0), (.int .i64 0), (.int .i64 0), (.int .i64 0)]) hF hS rfl rfl rfl fun a w b32 hF hS => ?_
              refine q_store (vs := [(.int .i64 t_30.1.Ratio.Num), (.int .i64 t_30.1.Ratio.Den), (.int .i64 t_30.1.Rho.Num), (.int .i64 t_30.1.Rho.Den)]) (cs' := [(.int .i64 t_30.1.Ratio.Num), (.int .i64 t_30.1.Ratio.Den), (.int .i64 t_30.1.Rho.Num), (.int .i64 t_30.1.Rho.Den)]) 0 0 hF hS sz26 rfl rfl rfl rfl rfl rfl rfl rfl fun a w hF hS => ?_
              refine q_x (v := (.bool t_30.2)) hF hS (ex_assign rfl) rfl rfl fun a hF => ?_
              refine q_end (n_sq ?_)
              refine q_seq ?_
              refine q_region ?_
              refine q_x (v := (.agg #[(.int .i64 t_18.1.Ratio.Num), (.int .i64 t_18.1.Ratio.Den), (.int .i64 t_18.1.Rho.Num), (.int .i64 t_18.1.Rho.Den)])) hF hS (ex_loadA (vs := [(.int .i64 t_18.1.Ratio.Num), (.int .i64 t_18.1.Ratio.Den), (.int .i64 t_18.1.Rho.Num), (.int .i64 t_18.1.Rho.Den)]) 4 0 Try.underlying26 rfl sz26 rfl rfl rfl rfl) rfl rfl fun a hF => ?_
              refine q_x (v := (.agg #[(.int .i64 t_30.1.Ratio.Num), (.int .i64 t_30.1.Ratio.Den), (.int .i64 t_30.1.Rho.Num), (.int .i64 t_30.1.Rho.Den)])) hF hS (ex_loadA (vs := [(.int .i64 t_30.1.Ratio.Num), (.int .i64 t_30.1.Ratio.Den), (.int .i64 t_30.1.Rho.Num), (.int .i64 t_30.1.Rho.Den)]) 0 0 Try.underlying26 rfl sz26 rfl rfl rfl rfl) rfl rfl fun a hF => ?_
              obtain ⟨t_33, ht_33, hj9⟩ := bindS hj9
              refine q_call (vs := [(.agg #[(.int .i64 t_18.1.Ratio.Num), (.int .i64 t_18.1.Ratio.Den), (.int .i64 t_18.1.Rho.Num), (.int .i64 t_18.1.Rho.Den)]), (.agg #[(.int .i64 t_30.1.Ratio.Num), (.int .i64 t_30.1.Ratio.Den), (.int .i64 t_30.1.Rho.Num), (.int .i64 t_30.1.Rho.Den)])]) hF hS Try.func16 (by kernel_rfl) rfl rfl rfl (c_impl_IsWithin t_18.1 t_30.1 t_33 ht_33 _ m16 hS.vis) ?_
              rintro a w _ rfl hF hS
              refine q_x (v := (.tuple #[(.bool t_33.1), (.bool t_33.2)])) hF hS (ex_move rfl) rfl rfl fun a hF => ?_
              refine q_x (v := (.bool t_33.1)) hF hS (ex_extract rfl rfl) rfl rfl fun a hF => ?_
              refine q_x (v := (.bool t_33.2)) hF hS (ex_extract rfl rfl) rfl rfl fun a hF => ?_
              refine q_x (v := (.bool t_33.1)) hF hS (ex_assign rfl) rfl rfl fun a hF => ?_
              refine q_x (v := (.bool t_33.2)) hF hS (ex_assign rfl) rfl rfl fun a hF => ?_
              refine q_end (n_sq ?_)
              refine q_seq ?_
              obtain ⟨t_34, hj11, hj9⟩ := bindS hj9
              refine q_join (fun a w => Fr a 145 [(5, (.pointer (some ⟨b6, 0, none⟩))), (6, s5.v), (7, s10.v), (8, (.bool t_7.2)), (110, (.bool t_34))] ∧ St [] w0 w m16 [q5, q10, [⟨b6, [(.int .i64 t_3.1.Ratio.Num), (.int .i64 t_3.1.Ratio.Den), (.int .i64 t_3.1.Rho.Num), (.int .i64 t_3.1.Rho.Den)], 26⟩]]) ?_ ?_
              · refine q_region ?_
                refine q_x (v := (.bool t_30.2)) hF hS (ex_move rfl) rfl rfl fun a hF => ?_
                refine q_x (v := (.bool t_30.2)) hF hS (ex_move rfl) rfl rfl fun a hF => ?_
                rcases bcase (t_30.2) with hc12 | hc12
                · have hj11 := cond_f hc12 hj11
                  refine q_skip hF (wanted_f hF rfl rfl rfl hc12 rfl) rfl fun a hF => ?_
                  refine q_skip hF (wanted_f hF rfl rfl rfl hc12 rfl) rfl fun a hF => ?_
                  refine q_skip hF (wanted_f hF rfl rfl rfl hc12 rfl) rfl fun a hF => ?_
                  refine q_skip hF (wanted_u hF rfl rfl rfl) rfl fun a hF => ?_
                  refine q_skip hF (wanted_u hF rfl rfl rfl) rfl fun a hF => ?_
                  refine q_skip hF (wanted_f hF rfl rfl rfl hc12 rfl) rfl fun a hF => ?_
                  refine q_x (v := (.bool false)) hF hS (ex_pick_f rfl rfl hc12) rfl rfl fun a hF => ?_
                  refine q_end (n_jn ?_)
                  obtain rfl := someI hj11
                  exact ⟨hF.sub ⟨rfl, rfl, rfl, rfl, rfl, trivial⟩, hS.mask [false, true, true, false, false, true]⟩
                · have hj11 := cond_t hc12 hj11
                  refine q_xg (v := (.bool t_33.2)) hF hS (ex_move rfl) (wanted_t hF rfl rfl rfl hc12) rfl fun a hF => ?_
                  refine q_xg (v := (.bool (!t_33.2))) hF hS (ex_not rfl) (wanted_t hF rfl rfl rfl hc12) rfl fun a hF => ?_
                  refine q_xg (v := (.bool (!t_33.2))) hF hS (ex_move rfl) (wanted_t hF rfl rfl rfl hc12) rfl fun a hF => ?_
                  rcases bcase (!t_33.2) with hc13 | hc13
                  · have hj11 := cond_f hc13 hj11
                    refine q_xg (v := (.bool t_33.1)) hF hS (ex_move rfl) (wanted_t hF rfl rfl rfl hc13) rfl fun a hF => ?_
                    refine q_xg (v := (.bool (!t_33.1))) hF hS (ex_not rfl) (wanted_t hF rfl rfl rfl hc13) rfl fun a hF => ?_
                    refine q_xg (v := (.bool (!t_33.1))) hF hS (ex_pick_f rfl rfl hc13) (wanted_t hF rfl rfl rfl hc12) rfl fun a hF => ?_
                    refine q_x (v := (.bool (!t_33.1))) hF hS (ex_pick_t rfl rfl hc12) rfl rfl fun a hF => ?_
                    refine q_end (n_jn ?_)
                    obtain rfl := someI hj11
                    exact ⟨hF.sub ⟨rfl, rfl, rfl, rfl, rfl, trivial⟩, hS.mask [false, true, true, false, false, true]⟩
                  · have hj11 := cond_t hc13 hj11
                    refine q_skip hF (wanted_f hF rfl rfl rfl hc13 rfl) rfl fun a hF => ?_
                    refine q_skip hF (wanted_f hF rfl rfl rfl hc13 rfl) rfl fun a hF => ?_
                    refine q_xg (v := (.bool true)) hF hS (ex_pick_t rfl rfl hc13) (wanted_t hF rfl rfl rfl hc12) rfl fun a hF => ?_
                    refine q_x (v := (.bool true)) hF hS (ex_pick_t rfl rfl hc12) rfl rfl fun a hF => ?_
                    refine q_end (n_jn ?_)
                    obtain rfl := someI hj11
                    exact ⟨hF.sub ⟨rfl, rfl, rfl, rfl, rfl, trivial⟩, hS.mask [false, true, true, false, false, true]⟩
              · rintro a w ⟨hF, hS⟩
                refine n_sq ?_
                rcases bcase (t_34) with hc14 | hc14
                · have hj9 := cond_f hc14 hj9
                  refine q_cond_f hF rfl hc14 ?_
                  refine q_skipc (n_jn ?_)
                  obtain rfl := someI hj9
                  exact ⟨rfl, hF.sub ⟨rfl, rfl, rfl, rfl, trivial⟩, hS⟩
                · have hj9 := cond_t hc14 hj9
                  refine q_cond_t hF rfl hc14 ?_
                  refine q_seq ?_
                  refine q_region ?_
                  refine q_x (v := (.bool false)) hF hS (ex_assign rfl) rfl rfl fun a hF => ?_
                  refine q_end (n_sq (q_ret (r_jn ?_)))
                  obtain rfl := someI hj9
                  refine r_sq ?_
                  obtain rfl := someI hr
                  exact ret_of hF hS rfl (.tmp rfl .nil) rfl
          · rintro a w ⟨rfl, hF, hS⟩
            refine n_sq ?_
            refine q_seq ?_
            refine q_seq ?_
            refine q_region ?_
            refine q_x (v := (.bool t_7.2)) hF hS (ex_move rfl) rfl rfl fun a hF => ?_
            refine q_x (v := (.bool (!t_7.2))) hF hS (ex_not rfl) rfl rfl fun a hF => ?_
            refine q_end (n_sq ?_)
            rcases bcase (!t_7.2) with hc15 | hc15
            · have hr := cond_f hc15 hr
              refine q_cond_f hF rfl hc15 ?_
              refine q_skipc (n_sq ?_)
              refine q_seq ?_
              refine q_region ?_
              refine q_x (v := nilS.v) hF hS (ex_assign rfl) rfl rfl fun a hF => ?_
              refine q_end (n_sq ?_)
              refine q_seq ?_
              refine q_seq ?_
              refine q_region ?_
              refine q_x (v := s10.v) hF hS (ex_move rfl) rfl rfl fun a hF => ?_
              refine q_x (v := (.int .i64 (goLen t_7.1))) hF hS (ex_len Try.underlying42 rfl (h10.mono hm16.le).len) rfl rfl fun a hF => ?_
              refine q_x (v := (.int .i64 0)) hF hS (ex_move rfl) rfl rfl fun a hF => ?_
              refine q_end (n_sq ?_)
              refine q_block ?_
              obtain ⟨kept_45, hl16, hr⟩ := bindS hr
              refine q_loop (fun (s : (List impl_Entry) × Int) a w => ∃ (q36 : Piece), ∃ (s36 : Sl), ∃ kept_35, ∃ t_37, s = (kept_35, t_37) ∧ Fr a 145 [(5, (.pointer (some ⟨b6, 0, none⟩))), (6, s5.v), (20, s36.v), (113, s10.v), (114, (.int .i64 (goLen t_7.1))), (115, (.int .i64 t_37))] ∧ St [] w0 w m16 [q36, q5, q10, [⟨b6, [(.int .i64 t_3.1.Ratio.Num), (.int .i64 t_3.1.Ratio.Den), (.int .i64 t_3.1.Rho.Num), (.int .i64 t_3.1.Rho.Den)], 26⟩]] ∧ OwnL m16 49 q36 s36 kept_35) (fun (kept_45 : (List impl_Entry)) e a w => ∃ (q46 : Piece), ∃ (s46 : Sl), e = .exit 0 ∧ Fr a 145 [(5, (.pointer (some ⟨b6, 0, none⟩))), (20, s46.v)] ∧ St [] w0 w m16 [q46, [⟨b6, [(.int .i64 t_3.1.Ratio.Num), (.int .i64 t_3.1.Ratio.Den), (.int .i64 t_3.1.Rho.Num), (.int .i64 t_3.1.Rho.Den)], 26⟩]] ∧ OwnL m16 49 q46 s46 kept_45) hl16 ⟨[], nilS, _, _, rfl, hF.sub ⟨rfl, rfl, rfl, rfl, rfl, rfl, trivial⟩, hS.sel [3, 0, 1, 2] (by decide), (OwnL.nil (α := impl_Entry) m16 49)⟩ ?_ ?_
              · clear hF hS
                rintro s a w st ⟨q36, s36, kept_35, t_37, rfl, hF, hS, h36⟩ hb16
                unfold laws_FnLedgers_l1 at hb16
                refine q_seq ?_
                refine q_region ?_
                refine q_x (v := (.bool (decide (t_37 < (goLen t_7.1))))) hF hS (ex_ibin rfl rfl rfl) rfl rfl fun a hF => ?_
                refine q_end (n_sq ?_)
                refine q_seq ?_
                rcases bcase (decide (t_37 < (goLen t_7.1))) with hc17 | hc17
                · have hb16 := cond_f hc17 hb16
                  refine q_cond_f hF rfl hc17 ?_
                  refine q_exit (x_sq ?_)
                  obtain rfl := someI hb16
                  exact ⟨nofun, .inl ⟨q36, s36, rfl, hF.sub ⟨rfl, rfl, trivial⟩, hS.mask [true, false, false, true], h36⟩⟩
                · have hb16 := cond_t hc17 hb16
                  refine q_cond_t hF rfl hc17 ?_
                  refine q_skipc (n_sq ?_)
                  refine q_seq ?_
                  refine q_block ?_
                  refine q_seq ?_
                  refine q_region ?_
                  obtain ⟨e_38, he_38, hb16⟩ := bindS hb16
                  obtain ⟨vs39, at39, d39⟩ := (h10.mono hm16.le).at he_38 1 rfl
                  obtain rfl : vs39 = [(.int .i64 e_38)] := d39
                  refine q_x (v := (elP s10 (t_37.toNat * 1))) hF hS (ex_indexAddr Try.underlying42 sz3 rfl rfl ((h10.mono hm16.le).idx he_38)) rfl rfl fun a hF => ?_
                  refine q_x (v := (.int .i64 e_38)) hF hS (ex_loadE1 0 Try.underlying3 rfl rfl (at39.at 2 rfl) rfl rfl) rfl rfl fun a hF => ?_
                  refine q_x (v := (.int .i64 e_38)) hF hS (ex_assign rfl) rfl rfl fun a hF => ?_
                  refine q_end (n_sq ?_)
                  refine q_region ?_
                  refine q_x (v := s36.v) hF hS (ex_move rfl) rfl rfl fun a hF => ?_
                  refine q_x (v := s5.v) hF hS (ex_move rfl) rfl rfl fun a hF => ?_
                  refine q_x (v := (.int .i64 e_38)) hF hS (ex_move rfl) rfl rfl fun a hF => ?_
                  obtain ⟨e_40, he_40, hb16⟩ := bindS hb16
                  obtain ⟨vs41, at41, d41⟩ := (h5.mono hm16.le).at he_40 5 rfl
                  obtain rfl : vs41 = [(.int .i64 e_40.Scope), (.int .i64 e_40.Loss.Ratio.Num), (.int .i64 e_40.Loss.Ratio.Den), (.int .i64 e_40.Loss.Rho.Num), (.int .i64 e_40.Loss.Rho.Den)] := d41
                  refine q_x (v := (elP s5 (e_38.toNat * 5))) hF hS (ex_indexAddr Try.underlying39 sz49 rfl rfl ((h5.mono hm16.le).idx he_40)) rfl rfl fun a hF => ?_
                  refine q_x (v := (.agg #[(.int .i64 e_40.Scope), (.int .i64 e_40.Loss.Ratio.Num), (.int .i64 e_40.Loss.Ratio.Den), (.int .i64 e_40.Loss.Rho.Num), (.int .i64 e_40.Loss.Rho.Den)])) hF hS (ex_loadEA (us := [(.int .i64 e_40.Scope), (.int .i64 e_40.Loss.Ratio.Num), (.int .i64 e_40.Loss.Ratio.Den), (.int .i64 e_40.Loss.Rho.Num), (.int .i64 e_40.Loss.Rho.Den)]) 0 Try.underlying49 rfl sz49 rfl (at41.at 1 rfl) rfl rfl rfl) rfl rfl fun a hF => ?_
                  refine q_do rfl fun _ hK => wp_buildSlice' (l := ([e_40] : List impl_Entry)) (cells := [(.int .i64 e_40.Scope), (.int .i64 e_40.Loss.Ratio.Num), (.int .i64 e_40.Loss.Ratio.Den), (.int .i64 e_40.Loss.Rho.Num), (.int .i64 e_40.Loss.Rho.Den)]) hF hS Try.underlying39 inf49 rfl rfl (by kernel_rfl) rfl rfl rfl ⟨rfl, rfl⟩ rfl rfl fun a w q42 s42 hF hS h42 _ => hK _ _ ?_
                  have hS : St _ _ _ _ [q36, q42, q5, q10, [⟨b6, [(.int .i64 t_3.1.Ratio.Num), (.int .i64 t_3.1.Ratio.Den), (.int .i64 t_3.1.Rho.Num), (.int .i64 t_3.1.Rho.Den)], 26⟩]] := hS.sel [1, 0, 2, 3, 4] (by decide)
                  obtain ⟨l_43, hl_43, hb16⟩ := bindS hb16
                  refine q_do rfl fun _ hK => wp_append hF hS h36 Try.underlying39 inf49 rfl rfl rfl rfl (h42.vw hS (j := 1) rfl) rfl (by decide) hl_43 rfl fun a w q44 s44 hF hS h44 => hK _ _ ?_
                  refine q_x (v := s44.v) hF hS (ex_assign rfl) rfl rfl fun a hF => ?_
                  refine q_end (n_ib (n_sq ?_))
                  refine q_region ?_
                  refine q_x (v := (.int .i64 (w64 (t_37 + 1)))) hF hS (ex_ibin rfl rfl rfl) rfl rfl fun a hF => ?_
                  refine q_x (v := (.int .i64 (w64 (t_37 + 1)))) hF hS (ex_move rfl) rfl rfl fun a hF => ?_
                  refine q_end ?_
                  obtain rfl := someI hb16
                  exact ⟨rfl, q44, s44, _, _, rfl, hF.sub ⟨rfl, rfl, rfl, rfl, rfl, rfl, trivial⟩, hS.mask [true, false, true, true, true], h44⟩
              · rintro e a w ⟨q46, s46, rfl, hF, hS, h46⟩
                refine x_ib (n_sq ?_)
                refine q_seq ?_
                refine q_region ?_
                refine q_x (v := s46.v) hF hS (ex_move rfl) rfl rfl fun a hF => ?_
                obtain ⟨m48, hl48, hv48, hz48⟩ := hS.lend
                obtain ⟨t_47, ht_47, hr⟩ := bindS hr
                refine q_call (vs := [s46.v]) hF hS Try.func22 (by kernel_rfl) rfl rfl rfl (c_impl_LedgerLoss kept_45 t_47 ht_47 _ m48 hv48 s46 (h46.froz hl48 (hz48 0 _ rfl))) ?_
                rintro a w _ rfl hF hS
                refine q_x (v := (.tuple #[(.agg #[(.int .i64 t_47.1.Ratio.Num), (.int .i64 t_47.1.Ratio.Den), (.int .i64 t_47.1.Rho.Num), (.int .i64 t_47.1.Rho.Den)]), (.bool t_47.2)])) hF hS (ex_move rfl) rfl rfl fun a hF => ?_
                refine q_x (v := (.agg #[(.int .i64 t_47.1.Ratio.Num), (.int .i64 t_47.1.Ratio.Den), (.int .i64 t_47.1.Rho.Num), (.int .i64 t_47.1.Rho.Den)])) hF hS (ex_extract rfl rfl) rfl rfl fun a hF => ?_
                refine q_x (v := (.bool t_47.2)) hF hS (ex_extract rfl rfl) rfl rfl fun a hF => ?_
                refine q_alloc (cs := [(.int .i64 0), (.int .i64 0), (.int .i64 0), (.int .i64 0)]) hF hS rfl rfl rfl fun a w b49 hF hS => ?_
                refine q_store (vs := [(.int .i64 t_47.1.Ratio.Num), (.int .i64 t_47.1.Ratio.Den), (.int .i64 t_47.1.Rho.Num), (.int .i64 t_47.1.Rho.Den)]) (cs' := [(.int .i64 t_47.1.Ratio.Num), (.int .i64 t_47.1.Ratio.Den), (.int .i64 t_47.1.Rho.Num), (.int .i64 t_47.1.Rho.Den)]) 0 0 hF hS sz26 rfl rfl rfl rfl rfl rfl rfl rfl fun a w hF hS => ?_
                refine q_x (v := (.bool t_47.2)) hF hS (ex_assign rfl) rfl rfl fun a hF => ?_
                refine q_end (n_sq ?_)
                refine q_seq ?_
                refine q_region ?_
                refine q_x (v := (.agg #[(.int .i64 t_3.1.Ratio.Num), (.int .i64 t_3.1.Ratio.Den), (.int .i64 t_3.1.Rho.Num), (.int .i64 t_3.1.Rho.Den)])) hF hS (ex_loadA (vs := [(.int .i64 t_3.1.Ratio.Num), (.int .i64 t_3.1.Ratio.Den), (.int .i64 t_3.1.Rho.Num), (.int .i64 t_3.1.Rho.Den)]) 2 0 Try.underlying26 rfl sz26 rfl rfl rfl rfl) rfl rfl fun a hF => ?_
                refine q_x (v := (.agg #[(.int .i64 t_47.1.Ratio.Num), (.int .i64 t_47.1.Ratio.Den), (.int .i64 t_47.1.Rho.Num), (.int .i64 t_47.1.Rho.Den)])) hF hS (ex_loadA (vs := [(.int .i64 t_47.1.Ratio.Num), (.int .i64 t_47.1.Ratio.Den), (.int .i64 t_47.1.Rho.Num), (.int .i64 t_47.1.Rho.Den)]) 0 0 Try.underlying26 rfl sz26 rfl rfl rfl rfl) rfl rfl fun a hF => ?_
                obtain ⟨t_50, ht_50, hr⟩ := bindS hr
                refine q_call (vs := [(.agg #[(.int .i64 t_3.1.Ratio.Num), (.int .i64 t_3.1.Ratio.Den), (.int .i64 t_3.1.Rho.Num), (.int .i64 t_3.1.Rho.Den)]), (.agg #[(.int .i64 t_47.1.Ratio.Num), (.int .i64 t_47.1.Ratio.Den), (.int .i64 t_47.1.Rho.Num), (.int .i64 t_47.1.Rho.Den)])]) hF hS Try.func16 (by kernel_rfl) rfl rfl rfl (c_impl_IsWithin t_3.1 t_47.1 t_50 ht_50 _ m16 hS.vis) ?_
                rintro a w _ rfl hF hS
                refine q_x (v := (.tuple #[(.bool t_50.1), (.bool t_50.2)])) hF hS (ex_move rfl) rfl rfl fun a hF => ?_
                refine q_x (v := (.bool t_50.1)) hF hS (ex_extract rfl rfl) rfl rfl fun a hF => ?_
                refine q_x (v := (.bool t_50.2)) hF hS (ex_extract rfl rfl) rfl rfl fun a hF => ?_
                refine q_x (v := (.bool t_50.1)) hF hS (ex_assign rfl) rfl rfl fun a hF => ?_
                refine q_x (v := (.bool t_50.2)) hF hS (ex_assign rfl) rfl rfl fun a hF => ?_
                refine q_end (n_sq ?_)
                refine q_seq ?_
                obtain ⟨t_51, hj18, hr⟩ := bindS hr
                refine q_join (fun a w => Fr a 145 [(4, (.bool t_51))] ∧ St [] w0 w m16 []) ?_ ?_
                · refine q_region ?_
                  refine q_x (v := (.bool t_47.2)) hF hS (ex_move rfl) rfl rfl fun a hF => ?_
                  refine q_x (v := (.bool t_47.2)) hF hS (ex_move rfl) rfl rfl fun a hF => ?_
                  rcases bcase (t_47.2) with hc19 | hc19
                  · have hj18 := cond_f hc19 hj18
                    refine q_skip hF (wanted_f hF rfl rfl rfl hc19 rfl) rfl fun a hF => ?_
                    refine q_x (v := (.bool false)) hF hS (ex_pick_f rfl rfl hc19) rfl rfl fun a hF => ?_
                    refine q_x (v := (.bool false)) hF hS (ex_move rfl) rfl rfl fun a hF => ?_
                    refine q_skip hF (wanted_f hF rfl rfl rfl rfl rfl) rfl fun a hF => ?_
                    refine q_x (v := (.bool false)) hF hS (ex_pick_f rfl rfl rfl) rfl rfl fun a hF => ?_
                    refine q_x (v := (.bool false)) hF hS (ex_assign rfl) rfl rfl fun a hF => ?_
                    refine q_end (n_jn ?_)
                    obtain rfl := someI hj18
                    exact ⟨hF.sub ⟨rfl, trivial⟩, hS.mask [false, false, false]⟩
                  · have hj18 := cond_t hc19 hj18
                    refine q_xg (v := (.bool t_50.2)) hF hS (ex_move rfl) (wanted_t hF rfl rfl rfl hc19) rfl fun a hF => ?_
                    refine q_x (v := (.bool t_50.2)) hF hS (ex_pick_t rfl rfl hc19) rfl rfl fun a hF => ?_
                    refine q_x (v := (.bool t_50.2)) hF hS (ex_move rfl) rfl rfl fun a hF => ?_
                    rcases bcase (t_50.2) with hc20 | hc20
                    · have hj18 := cond_f hc20 hj18
                      refine q_skip hF (wanted_f hF rfl rfl rfl hc20 rfl) rfl fun a hF => ?_
                      refine q_x (v := (.bool false)) hF hS (ex_pick_f rfl rfl hc20) rfl rfl fun a hF => ?_
                      refine q_x (v := (.bool false)) hF hS (ex_assign rfl) rfl rfl fun a hF => ?_
                      refine q_end (n_jn ?_)
                      obtain rfl := someI hj18
                      exact ⟨hF.sub ⟨rfl, trivial⟩, hS.mask [false, false, false]⟩
                    · have hj18 := cond_t hc20 hj18
                      refine q_xg (v := (.bool t_50.1)) hF hS (ex_move rfl) (wanted_t hF rfl rfl rfl hc20) rfl fun a hF => ?_
                      refine q_x (v := (.bool t_50.1)) hF hS (ex_pick_t rfl rfl hc20) rfl rfl fun a hF => ?_
                      refine q_x (v := (.bool t_50.1)) hF hS (ex_assign rfl) rfl rfl fun a hF => ?_
                      refine q_end (n_jn ?_)
                      obtain rfl := someI hj18
                      exact ⟨hF.sub ⟨rfl, trivial⟩, hS.mask [false, false, false]⟩
                · rintro a w ⟨hF, hS⟩
                  refine n_sq (q_ret ?_)
                  obtain rfl := someI hr
                  exact ret_of hF hS rfl (.tmp rfl .nil) rfl
            · have hr := cond_t hc15 hr
              refine q_cond_t hF rfl hc15 ?_
              refine q_seq ?_
              refine q_region ?_
              refine q_x (v := (.bool true)) hF hS (ex_assign rfl) rfl rfl fun a hF => ?_
              refine q_end (n_sq (q_ret (r_sq ?_)))
              obtain rfl := someI hr
              exact ret_of hF hS rfl (.tmp rfl .nil) rfl
      · have hr := cond_t hc6 hr
        refine q_cond_t hF rfl hc6 ?_
        refine q_seq ?_
        refine q_region ?_
        refine q_x (v := (.bool false)) hF hS (ex_assign rfl) rfl rfl fun a hF => ?_
        refine q_end (n_sq (q_ret (r_sq ?_)))
        obtain rfl := someI hr
        exact ret_of hF hS rfl (.tmp rfl .nil) rfl
  · have hr := cond_t hc1 hr
    refine q_cond_t hF rfl hc1 ?_
    refine q_seq ?_
    refine q_region ?_
    refine q_x (v := (.bool true)) hF hS (ex_assign rfl) rfl rfl fun a hF => ?_
    refine q_end (n_sq (q_ret (r_sq ?_)))
    obtain rfl := someI hr
    exact ret_of hF hS rfl (.tmp rfl .nil) rfl

end Go.Proofs.Ytdbgmkfniichdaa
