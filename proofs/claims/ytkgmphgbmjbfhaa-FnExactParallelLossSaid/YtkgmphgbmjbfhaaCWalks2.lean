/- The walks of the functions: each returns what its plain function says. -/
import Derived.Test.YtkgmphgbmjbfhaaCWalks1
namespace Go.Proofs.Ytkgmphgbmjbfhaa
open Go.Gx Go.Gx.F Go.RowKit
set_option linter.all false
set_option maxRecDepth 10000


theorem c_impl_ComposeLosses (p_l : List impl_Loss) (r : impl_Loss × Bool) (hr : impl_ComposeLosses p_l = some r) (w0 : World) (m : Mem) (hv : Vis m w0) (s1 : Sl) (h1 : Rd m s1 p_l) :
    Ret Try.prog 46 [s1.v] w0 (fun v _ => v = (.tuple #[(.agg #[(.int .i64 r.1.Ratio.Num), (.int .i64 r.1.Ratio.Den), (.int .i64 r.1.Rho.Num), (.int .i64 r.1.Rho.Den)]), (.bool r.2)])) := by
  unfold impl_ComposeLosses at hr
  refine ret_start Try.func46 rfl 30 rfl rfl m hv fun a hF hS => ?_
  refine q_seq ?_
  refine q_region ?_
  refine q_alloc (cs := [(.int .i64 0), (.int .i64 0), (.int .i64 0), (.int .i64 0)]) hF hS rfl rfl rfl fun a w b2 hF hS => ?_
  refine q_x (v := (.bool false)) hF hS (ex_assign rfl) rfl rfl fun a hF => ?_
  refine q_end (n_sq ?_)
  refine q_seq ?_
  refine q_seq ?_
  refine q_region ?_
  refine q_x (v := s1.v) hF hS (ex_move rfl) rfl rfl fun a hF => ?_
  obtain ⟨t_3, ht_3, hr⟩ := bindS hr
  refine q_call (vs := [s1.v]) hF hS Try.func83 (by kernel_rfl) rfl rfl rfl (c_impl_areLosses p_l t_3 ht_3 _ m hS.vis s1 h1) ?_
  rintro a w _ rfl hF hS
  refine q_x (v := (.bool (!t_3))) hF hS (ex_not rfl) rfl rfl fun a hF => ?_
  refine q_end (n_sq ?_)
  rcases hc1 : (!t_3) with _ | _
  · have hr := cond_f hc1 hr
    refine q_cond_f hF rfl hc1 ?_
    refine q_skipc (n_sq ?_)
    refine q_seq ?_
    refine q_region ?_
    obtain ⟨t_4, ht_4, hr⟩ := bindS hr
    refine q_call (vs := []) hF hS Try.func80 (by kernel_rfl) rfl rfl rfl (c_impl_NoLoss  t_4 ht_4 _ m hS.vis) ?_
    rintro a w _ rfl hF hS
    refine q_alloc (cs := [(.int .i64 0), (.int .i64 0), (.int .i64 0), (.int .i64 0)]) hF hS rfl rfl rfl fun a w b5 hF hS => ?_
    refine q_store (vs := [(.int .i64 t_4.Ratio.Num), (.int .i64 t_4.Ratio.Den), (.int .i64 t_4.Rho.Num), (.int .i64 t_4.Rho.Den)]) (cs' := [(.int .i64 t_4.Ratio.Num), (.int .i64 t_4.Ratio.Den), (.int .i64 t_4.Rho.Num), (.int .i64 t_4.Rho.Den)]) 0 0 hF hS sz28 rfl rfl rfl rfl rfl rfl rfl rfl fun a w hF hS => ?_
    refine q_x (v := (.bool true)) hF hS (ex_assign rfl) rfl rfl fun a hF => ?_
    refine q_end (n_sq ?_)
    refine q_seq ?_
    refine q_seq ?_
    refine q_region ?_
    refine q_x (v := s1.v) hF hS (ex_move rfl) rfl rfl fun a hF => ?_
    refine q_x (v := (.int .i64 (goLen p_l))) hF hS (ex_len Try.underlying39 rfl h1.len) rfl rfl fun a hF => ?_
    refine q_x (v := (.int .i64 0)) hF hS (ex_move rfl) rfl rfl fun a hF => ?_
    refine q_end (n_sq ?_)
    refine q_block ?_
    obtain ⟨o2, hl2, hr⟩ := bindS hr
    refine q_loop (fun (s : Int × impl_Loss) a w => ∃ t_6, ∃ sum_7, s = (t_6, sum_7) ∧ Fr a 30 [(2, (.pointer (some ⟨b2, 0, none⟩))), (4, (.pointer (some ⟨b5, 0, none⟩))), (13, s1.v), (14, (.int .i64 (goLen p_l))), (15, (.int .i64 t_6))] ∧ St [] w0 w m [[⟨b5, [(.int .i64 sum_7.Ratio.Num), (.int .i64 sum_7.Ratio.Den), (.int .i64 sum_7.Rho.Num), (.int .i64 sum_7.Rho.Den)], 28⟩], [⟨b2, [(.int .i64 0), (.int .i64 0), (.int .i64 0), (.int .i64 0)], 28⟩]]) (fun (o : (impl_Loss) ⊕ (impl_Loss × Bool)) e a w => ∃ sum_12, o = .inl sum_12 ∧ e = .exit 0 ∧ Fr a 30 [(2, (.pointer (some ⟨b2, 0, none⟩))), (4, (.pointer (some ⟨b5, 0, none⟩)))] ∧ St [] w0 w m [[⟨b5, [(.int .i64 sum_12.Ratio.Num), (.int .i64 sum_12.Ratio.Den), (.int .i64 sum_12.Rho.Num), (.int .i64 sum_12.Rho.Den)], 28⟩], [⟨b2, [(.int .i64 0), (.int .i64 0), (.int .i64 0), (.int .i64 0)], 28⟩]]) hl2 ⟨_, _, rfl, hF.sub ⟨rfl, rfl, rfl, rfl, rfl, trivial⟩, hS⟩ ?_ ?_
    · clear hF hS
      rintro s a w st ⟨t_6, sum_7, rfl, hF, hS⟩ hb2
      unfold impl_ComposeLosses_l1 at hb2
      refine q_seq ?_
      refine q_region ?_
      refine q_x (v := (.bool (decide (t_6 < (goLen p_l))))) hF hS (ex_ibin rfl rfl rfl) rfl rfl fun a hF => ?_
      refine q_end (n_sq ?_)
      refine q_seq ?_
      rcases hc3 : (decide (t_6 < (goLen p_l))) with _ | _
      · have hb2 := cond_f hc3 hb2
        refine q_cond_f hF rfl hc3 ?_
        refine q_exit (x_sq ?_)
        obtain rfl := someI hb2
        exact ⟨nofun, .inl ⟨_, rfl, rfl, hF.sub ⟨rfl, rfl, trivial⟩, hS⟩⟩
      · have hb2 := cond_t hc3 hb2
        refine q_cond_t hF rfl hc3 ?_
        refine q_skipc (n_sq ?_)
        refine q_seq ?_
        refine q_block ?_
        refine q_seq ?_
        refine q_region ?_
        obtain ⟨e_8, he_8, hb2⟩ := bindS hb2
        obtain ⟨vs9, at9, d9⟩ := h1.at he_8 4 rfl
        obtain rfl : vs9 = [(.int .i64 e_8.Ratio.Num), (.int .i64 e_8.Ratio.Den), (.int .i64 e_8.Rho.Num), (.int .i64 e_8.Rho.Den)] := d9
        refine q_x (v := (elP s1 (t_6.toNat * 4))) hF hS (ex_indexAddr Try.underlying39 sz28 rfl rfl (h1.idx he_8)) rfl rfl fun a hF => ?_
        refine q_x (v := (.agg #[(.int .i64 e_8.Ratio.Num), (.int .i64 e_8.Ratio.Den), (.int .i64 e_8.Rho.Num), (.int .i64 e_8.Rho.Den)])) hF hS (ex_loadEA (us := [(.int .i64 e_8.Ratio.Num), (.int .i64 e_8.Ratio.Den), (.int .i64 e_8.Rho.Num), (.int .i64 e_8.Rho.Den)]) 0 Try.underlying28 rfl sz28 rfl ((at9).at) rfl rfl rfl) rfl rfl fun a hF => ?_
        refine q_alloc (cs := [(.int .i64 0), (.int .i64 0), (.int .i64 0), (.int .i64 0)]) hF hS rfl rfl rfl fun a w b10 hF hS => ?_
        refine q_store (vs := [(.int .i64 e_8.Ratio.Num), (.int .i64 e_8.Ratio.Den), (.int .i64 e_8.Rho.Num), (.int .i64 e_8.Rho.Den)]) (cs' := [(.int .i64 e_8.Ratio.Num), (.int .i64 e_8.Ratio.Den), (.int .i64 e_8.Rho.Num), (.int .i64 e_8.Rho.Den)]) 0 0 hF hS sz28 rfl rfl rfl rfl rfl rfl rfl rfl fun a w hF hS => ?_
        refine q_end (n_sq ?_)
        refine q_seq ?_
        refine q_region ?_
        refine q_x (v := (.agg #[(.int .i64 sum_7.Ratio.Num), (.int .i64 sum_7.Ratio.Den), (.int .i64 sum_7.Rho.Num), (.int .i64 sum_7.Rho.Den)])) hF hS (ex_loadA (vs := [(.int .i64 sum_7.Ratio.Num), (.int .i64 sum_7.Ratio.Den), (.int .i64 sum_7.Rho.Num), (.int .i64 sum_7.Rho.Den)]) 1 0 Try.underlying28 rfl sz28 rfl rfl rfl rfl) rfl rfl fun a hF => ?_
        refine q_x (v := (.agg #[(.int .i64 e_8.Ratio.Num), (.int .i64 e_8.Ratio.Den), (.int .i64 e_8.Rho.Num), (.int .i64 e_8.Rho.Den)])) hF hS (ex_loadA (vs := [(.int .i64 e_8.Ratio.Num), (.int .i64 e_8.Ratio.Den), (.int .i64 e_8.Rho.Num), (.int .i64 e_8.Rho.Den)]) 0 0 Try.underlying28 rfl sz28 rfl rfl rfl rfl) rfl rfl fun a hF => ?_
        obtain ⟨t_11, ht_11, hb2⟩ := bindS hb2
        refine q_call (vs := [(.agg #[(.int .i64 sum_7.Ratio.Num), (.int .i64 sum_7.Ratio.Den), (.int .i64 sum_7.Rho.Num), (.int .i64 sum_7.Rho.Den)]), (.agg #[(.int .i64 e_8.Ratio.Num), (.int .i64 e_8.Ratio.Den), (.int .i64 e_8.Rho.Num), (.int .i64 e_8.Rho.Den)])]) hF hS Try.func108 (by kernel_rfl) rfl rfl rfl (c_impl_composed sum_7 e_8 t_11 ht_11 _ m hS.vis) ?_
        rintro a w _ rfl hF hS
        refine q_x (v := (.tuple #[(.agg #[(.int .i64 t_11.1.Ratio.Num), (.int .i64 t_11.1.Ratio.Den), (.int .i64 t_11.1.Rho.Num), (.int .i64 t_11.1.Rho.Den)]), (.bool t_11.2)])) hF hS (ex_move rfl) rfl rfl fun a hF => ?_
        refine q_x (v := (.agg #[(.int .i64 t_11.1.Ratio.Num), (.int .i64 t_11.1.Ratio.Den), (.int .i64 t_11.1.Rho.Num), (.int .i64 t_11.1.Rho.Den)])) hF hS (ex_extract rfl rfl) rfl rfl fun a hF => ?_
        refine q_x (v := (.bool t_11.2)) hF hS (ex_extract rfl rfl) rfl rfl fun a hF => ?_
        refine q_store (vs := [(.int .i64 t_11.1.Ratio.Num), (.int .i64 t_11.1.Ratio.Den), (.int .i64 t_11.1.Rho.Num), (.int .i64 t_11.1.Rho.Den)]) (cs' := [(.int .i64 t_11.1.Ratio.Num), (.int .i64 t_11.1.Ratio.Den), (.int .i64 t_11.1.Rho.Num), (.int .i64 t_11.1.Rho.Den)]) 1 0 hF hS sz28 rfl rfl rfl rfl rfl rfl rfl rfl fun a w hF hS => ?_
        refine q_x (v := (.bool t_11.2)) hF hS (ex_assign rfl) rfl rfl fun a hF => ?_
        refine q_end (n_sq ?_)
        refine q_seq ?_
        refine q_region ?_
        refine q_x (v := (.bool t_11.2)) hF hS (ex_move rfl) rfl rfl fun a hF => ?_
        refine q_x (v := (.bool (!t_11.2))) hF hS (ex_not rfl) rfl rfl fun a hF => ?_
        refine q_end (n_sq ?_)
        rcases hc4 : (!t_11.2) with _ | _
        · have hb2 := cond_f hc4 hb2
          refine q_cond_f hF rfl hc4 ?_
          refine q_skipc (n_ib (n_sq ?_))
          refine q_region ?_
          refine q_x (v := (.int .i64 (w64 (t_6 + 1)))) hF hS (ex_ibin rfl rfl rfl) rfl rfl fun a hF => ?_
          refine q_x (v := (.int .i64 (w64 (t_6 + 1)))) hF hS (ex_move rfl) rfl rfl fun a hF => ?_
          refine q_end ?_
          obtain rfl := someI hb2
          exact ⟨rfl, _, _, rfl, hF.sub ⟨rfl, rfl, rfl, rfl, rfl, trivial⟩, hS.mask [false, true, true]⟩
        · have hb2 := cond_t hc4 hb2
          refine q_cond_t hF rfl hc4 ?_
          refine q_seq ?_
          refine q_region ?_
          refine q_x (v := (.agg #[(.int .i64 0), (.int .i64 0), (.int .i64 0), (.int .i64 0)])) hF hS (ex_build (cells := [(.int .i64 0), (.int .i64 0), (.int .i64 0), (.int .i64 0)]) rfl (by kernel_rfl)) rfl rfl fun a hF => ?_
          refine q_store (vs := [(.int .i64 0), (.int .i64 0), (.int .i64 0), (.int .i64 0)]) (cs' := [(.int .i64 0), (.int .i64 0), (.int .i64 0), (.int .i64 0)]) 2 0 hF hS sz28 rfl rfl rfl rfl rfl rfl rfl rfl fun a w hF hS => ?_
          refine q_x (v := (.bool false)) hF hS (ex_assign rfl) rfl rfl fun a hF => ?_
          refine q_end (n_sq (q_ret (r_ib (r_sq ?_))))
          obtain rfl := someI hb2
          refine ⟨nofun, .inr fun ho => ?_⟩
          subst ho
          refine r_ib (r_sq ?_)
          obtain rfl := someI hr
          exact ret_of hF hS rfl (.cellA (us := [(.int .i64 0), (.int .i64 0), (.int .i64 0), (.int .i64 0)]) 2 0 Try.underlying28 rfl sz28 rfl rfl rfl rfl (.tmp rfl .nil)) rfl
    · rintro e a w ⟨sum_12, rfl, rfl, hF, hS⟩
      refine x_ib (n_sq ?_)
      refine q_seq ?_
      refine q_region ?_
      refine q_x (v := (.agg #[(.int .i64 sum_12.Ratio.Num), (.int .i64 sum_12.Ratio.Den), (.int .i64 sum_12.Rho.Num), (.int .i64 sum_12.Rho.Den)])) hF hS (ex_loadA (vs := [(.int .i64 sum_12.Ratio.Num), (.int .i64 sum_12.Ratio.Den), (.int .i64 sum_12.Rho.Num), (.int .i64 sum_12.Rho.Den)]) 0 0 Try.underlying28 rfl sz28 rfl rfl rfl rfl) rfl rfl fun a hF => ?_
      refine q_store (vs := [(.int .i64 sum_12.Ratio.Num), (.int .i64 sum_12.Ratio.Den), (.int .i64 sum_12.Rho.Num), (.int .i64 sum_12.Rho.Den)]) (cs' := [(.int .i64 sum_12.Ratio.Num), (.int .i64 sum_12.Ratio.Den), (.int .i64 sum_12.Rho.Num), (.int .i64 sum_12.Rho.Den)]) 1 0 hF hS sz28 rfl rfl rfl rfl rfl rfl rfl rfl fun a w hF hS => ?_
      refine q_x (v := (.bool true)) hF hS (ex_assign rfl) rfl rfl fun a hF => ?_
      refine q_end (n_sq (q_ret ?_))
      obtain rfl := someI hr
      exact ret_of hF hS rfl (.cellA (us := [(.int .i64 sum_12.Ratio.Num), (.int .i64 sum_12.Ratio.Den), (.int .i64 sum_12.Rho.Num), (.int .i64 sum_12.Rho.Den)]) 1 0 Try.underlying28 rfl sz28 rfl rfl rfl rfl (.tmp rfl .nil)) rfl
  · have hr := cond_t hc1 hr
    refine q_cond_t hF rfl hc1 ?_
    refine q_seq ?_
    refine q_region ?_
    refine q_x (v := (.agg #[(.int .i64 0), (.int .i64 0), (.int .i64 0), (.int .i64 0)])) hF hS (ex_build (cells := [(.int .i64 0), (.int .i64 0), (.int .i64 0), (.int .i64 0)]) rfl (by kernel_rfl)) rfl rfl fun a hF => ?_
    refine q_store (vs := [(.int .i64 0), (.int .i64 0), (.int .i64 0), (.int .i64 0)]) (cs' := [(.int .i64 0), (.int .i64 0), (.int .i64 0), (.int .i64 0)]) 0 0 hF hS sz28 rfl rfl rfl rfl rfl rfl rfl rfl fun a w hF hS => ?_
    refine q_x (v := (.bool false)) hF hS (ex_assign rfl) rfl rfl fun a hF => ?_
    refine q_end (n_sq (q_ret (r_sq ?_)))
    obtain rfl := someI hr
    exact ret_of hF hS rfl (.cellA (us := [(.int .i64 0), (.int .i64 0), (.int .i64 0), (.int .i64 0)]) 0 0 Try.underlying28 rfl sz28 rfl rfl rfl rfl (.tmp rfl .nil)) rfl

theorem c_laws_FnExactComposeLosses (p_aL : List laws_Loss) (r : Bool) (hr : laws_FnExactComposeLosses p_aL = some r) (w0 : World) (m : Mem) (hv : Vis m w0) (s1 : Sl) (h1 : Rd m s1 p_aL) :
    Ret Try.prog 10 [s1.v] w0 (fun v _ => v = (.bool r)) := by
  unfold laws_FnExactComposeLosses at hr
  refine ret_start Try.func10 rfl 41 rfl rfl m hv fun a hF hS => ?_
  refine q_seq ?_
  refine q_region ?_
  refine q_x (v := (.bool false)) hF hS (ex_assign rfl) rfl rfl fun a hF => ?_
  refine q_end (n_sq ?_)
  refine q_seq ?_
  refine q_region ?_
  refine q_x (v := (.int .i64 1048576)) hF hS (ex_assign rfl) rfl rfl fun a hF => ?_
  refine q_end (n_sq ?_)
  refine q_seq ?_
  refine q_region ?_
  refine q_x (v := s1.v) hF hS (ex_move rfl) rfl rfl fun a hF => ?_
  refine q_x (v := (.int .i64 1048576)) hF hS (ex_move rfl) rfl rfl fun a hF => ?_
  obtain ⟨t_2, ht_2, hr⟩ := bindS hr
  refine q_call (vs := [s1.v, (.int .i64 1048576)]) hF hS Try.func24 (by kernel_rfl) rfl rfl rfl (c_laws_szLossS p_aL 1048576 t_2 ht_2 _ m hS.vis s1 h1) ?_
  rintro a w _ rfl hF hS
  refine q_x (v := (.int .i64 t_2)) hF hS (ex_assign rfl) rfl rfl fun a hF => ?_
  refine q_end (n_sq ?_)
  refine q_seq ?_
  refine q_seq ?_
  refine q_region ?_
  refine q_x (v := (.int .i64 t_2)) hF hS (ex_move rfl) rfl rfl fun a hF => ?_
  refine q_x (v := (.bool (decide (t_2 < 0)))) hF hS (ex_ibin rfl rfl rfl) rfl rfl fun a hF => ?_
  refine q_end (n_sq ?_)
  rcases hc1 : (decide (t_2 < 0)) with _ | _
  · have hr := cond_f hc1 hr
    refine q_cond_f hF rfl hc1 ?_
    refine q_skipc (n_sq ?_)
    refine q_seq ?_
    refine q_region ?_
    refine q_x (v := s1.v) hF hS (ex_move rfl) rfl rfl fun a hF => ?_
    obtain ⟨t_3, ht_3, hr⟩ := bindS hr
    refine q_call (vs := [s1.v]) hF hS Try.func26 (by kernel_rfl) rfl rfl rfl (c_laws_toLossS p_aL t_3 ht_3 _ m hS.vis s1 h1) ?_
    rintro a w _ ⟨q5, s5, rfl, hR4, h5⟩ hF hS2
    have hS : St _ _ _ _ [q5] := hS.joinF hR4
    obtain ⟨m7, hl7, hv7, hz7⟩ := hS.lend
    obtain ⟨t_6, ht_6, hr⟩ := bindS hr
    refine q_call (vs := [s5.v]) hF hS Try.func45 (by kernel_rfl) rfl rfl rfl (c_spec_ComposeLosses t_3 t_6 ht_6 _ m7 hv7 s5 (h5.froz hl7 (hz7 0 _ rfl))) ?_
    rintro a w _ rfl hF hS
    refine q_x (v := (.tuple #[(.agg #[(.int .i64 t_6.1.Ratio.Num), (.int .i64 t_6.1.Ratio.Den), (.int .i64 t_6.1.Rho.Num), (.int .i64 t_6.1.Rho.Den)]), (.bool t_6.2)])) hF hS (ex_move rfl) rfl rfl fun a hF => ?_
    refine q_x (v := (.agg #[(.int .i64 t_6.1.Ratio.Num), (.int .i64 t_6.1.Ratio.Den), (.int .i64 t_6.1.Rho.Num), (.int .i64 t_6.1.Rho.Den)])) hF hS (ex_extract rfl rfl) rfl rfl fun a hF => ?_
    refine q_x (v := (.bool t_6.2)) hF hS (ex_extract rfl rfl) rfl rfl fun a hF => ?_
    refine q_alloc (cs := [(.int .i64 0), (.int .i64 0), (.int .i64 0), (.int .i64 0)]) hF hS rfl rfl rfl fun a w b8 hF hS => ?_
    refine q_store (vs := [(.int .i64 t_6.1.Ratio.Num), (.int .i64 t_6.1.Ratio.Den), (.int .i64 t_6.1.Rho.Num), (.int .i64 t_6.1.Rho.Den)]) (cs' := [(.int .i64 t_6.1.Ratio.Num), (.int .i64 t_6.1.Ratio.Den), (.int .i64 t_6.1.Rho.Num), (.int .i64 t_6.1.Rho.Den)]) 0 0 hF hS sz28 rfl rfl rfl rfl rfl rfl rfl rfl fun a w hF hS => ?_
    refine q_x (v := (.bool t_6.2)) hF hS (ex_assign rfl) rfl rfl fun a hF => ?_
    refine q_end (n_sq ?_)
    refine q_seq ?_
    refine q_region ?_
    refine q_x (v := s1.v) hF hS (ex_move rfl) rfl rfl fun a hF => ?_
    obtain ⟨t_9, ht_9, hr⟩ := bindS hr
    refine q_call (vs := [s1.v]) hF hS Try.func26 (by kernel_rfl) rfl rfl rfl (c_laws_toLossS p_aL t_9 ht_9 _ m hS.vis s1 h1) ?_
    rintro a w _ ⟨q11, s11, rfl, hR10, h11⟩ hF hS2
    have hS : St _ _ _ _ [q11, [⟨b8, [(.int .i64 t_6.1.Ratio.Num), (.int .i64 t_6.1.Ratio.Den), (.int .i64 t_6.1.Rho.Num), (.int .i64 t_6.1.Rho.Den)], 28⟩], q5] := hS.joinF hR10
    refine q_x (v := s11.v) hF hS (ex_assign rfl) rfl rfl fun a hF => ?_
    refine q_end (n_sq ?_)
    refine q_seq ?_
    refine q_region ?_
    refine q_x (v := s11.v) hF hS (ex_move rfl) rfl rfl fun a hF => ?_
    obtain ⟨m13, hl13, hv13, hz13⟩ := hS.lend
    obtain ⟨t_12, ht_12, hr⟩ := bindS hr
    refine q_call (vs := [s11.v]) hF hS Try.func46 (by kernel_rfl) rfl rfl rfl (c_impl_ComposeLosses t_9 t_12 ht_12 _ m13 hv13 s11 (h11.froz hl13 (hz13 0 _ rfl))) ?_
    rintro a w _ rfl hF hS
    refine q_x (v := (.tuple #[(.agg #[(.int .i64 t_12.1.Ratio.Num), (.int .i64 t_12.1.Ratio.Den), (.int .i64 t_12.1.Rho.Num), (.int .i64 t_12.1.Rho.Den)]), (.bool t_12.2)])) hF hS (ex_move rfl) rfl rfl fun a hF => ?_
    refine q_x (v := (.agg #[(.int .i64 t_12.1.Ratio.Num), (.int .i64 t_12.1.Ratio.Den), (.int .i64 t_12.1.Rho.Num), (.int .i64 t_12.1.Rho.Den)])) hF hS (ex_extract rfl rfl) rfl rfl fun a hF => ?_
    refine q_x (v := (.bool t_12.2)) hF hS (ex_extract rfl rfl) rfl rfl fun a hF => ?_
    refine q_alloc (cs := [(.int .i64 0), (.int .i64 0), (.int .i64 0), (.int .i64 0)]) hF hS rfl rfl rfl fun a w b14 hF hS => ?_
    refine q_store (vs := [(.int .i64 t_12.1.Ratio.Num), (.int .i64 t_12.1.Ratio.Den), (.int .i64 t_12.1.Rho.Num), (.int .i64 t_12.1.Rho.Den)]) (cs' := [(.int .i64 t_12.1.Ratio.Num), (.int .i64 t_12.1.Ratio.Den), (.int .i64 t_12.1.Rho.Num), (.int .i64 t_12.1.Rho.Den)]) 0 0 hF hS sz28 rfl rfl rfl rfl rfl rfl rfl rfl fun a w hF hS => ?_
    refine q_x (v := (.bool t_12.2)) hF hS (ex_assign rfl) rfl rfl fun a hF => ?_
    refine q_end (n_sq ?_)
    refine q_seq ?_
    refine q_seq ?_
    obtain ⟨t_16, hj2, hr⟩ := bindS hr
    refine q_join (fun a w => Fr a 41 [(0, s1.v), (6, s11.v), (35, (.bool t_16))] ∧ St [] w0 w m [q11]) ?_ ?_
    · refine q_region ?_
      refine q_x (v := (.agg #[(.int .i64 t_12.1.Ratio.Num), (.int .i64 t_12.1.Ratio.Den), (.int .i64 t_12.1.Rho.Num), (.int .i64 t_12.1.Rho.Den)])) hF hS (ex_loadA (vs := [(.int .i64 t_12.1.Ratio.Num), (.int .i64 t_12.1.Ratio.Den), (.int .i64 t_12.1.Rho.Num), (.int .i64 t_12.1.Rho.Den)]) 0 0 Try.underlying28 rfl sz28 rfl rfl rfl rfl) rfl rfl fun a hF => ?_
      refine q_x (v := (.agg #[(.int .i64 t_6.1.Ratio.Num), (.int .i64 t_6.1.Ratio.Den), (.int .i64 t_6.1.Rho.Num), (.int .i64 t_6.1.Rho.Den)])) hF hS (ex_loadA (vs := [(.int .i64 t_6.1.Ratio.Num), (.int .i64 t_6.1.Ratio.Den), (.int .i64 t_6.1.Rho.Num), (.int .i64 t_6.1.Rho.Den)]) 2 0 Try.underlying28 rfl sz28 rfl rfl rfl rfl) rfl rfl fun a hF => ?_
      obtain ⟨t_15, ht_15, hj2⟩ := bindS hj2
      refine q_call (vs := [(.agg #[(.int .i64 t_12.1.Ratio.Num), (.int .i64 t_12.1.Ratio.Den), (.int .i64 t_12.1.Rho.Num), (.int .i64 t_12.1.Rho.Den)]), (.agg #[(.int .i64 t_6.1.Ratio.Num), (.int .i64 t_6.1.Ratio.Den), (.int .i64 t_6.1.Rho.Num), (.int .i64 t_6.1.Rho.Den)])]) hF hS Try.func21 (by kernel_rfl) rfl rfl rfl (c_laws_eqLoss t_12.1 t_6.1 t_15 ht_15 _ m hS.vis) ?_
      rintro a w _ rfl hF hS
      refine q_x (v := (.bool (!t_15))) hF hS (ex_not rfl) rfl rfl fun a hF => ?_
      refine q_x (v := (.bool (!t_15))) hF hS (ex_move rfl) rfl rfl fun a hF => ?_
      rcases hc3 : (!t_15) with _ | _
      · have hj2 := cond_f hc3 hj2
        refine q_xg (v := (.bool t_12.2)) hF hS (ex_move rfl) (wanted_t hF rfl rfl rfl hc3) rfl fun a hF => ?_
        refine q_xg (v := (.bool t_6.2)) hF hS (ex_move rfl) (wanted_t hF rfl rfl rfl hc3) rfl fun a hF => ?_
        refine q_xg (v := (.bool (t_12.2 != t_6.2))) hF hS (ex_bne Try.underlying4 rfl rfl) (wanted_t hF rfl rfl rfl hc3) rfl fun a hF => ?_
        refine q_x (v := (.bool (t_12.2 != t_6.2))) hF hS (ex_pick_f rfl rfl hc3) rfl rfl fun a hF => ?_
        refine q_end (n_jn ?_)
        obtain rfl := someI hj2
        exact ⟨hF.sub ⟨rfl, rfl, rfl, trivial⟩, hS.mask [false, true, false, false]⟩
      · have hj2 := cond_t hc3 hj2
        refine q_skip hF (wanted_f hF rfl rfl rfl hc3 rfl) rfl fun a hF => ?_
        refine q_skip hF (wanted_f hF rfl rfl rfl hc3 rfl) rfl fun a hF => ?_
        refine q_skip hF (wanted_f hF rfl rfl rfl hc3 rfl) rfl fun a hF => ?_
        refine q_x (v := (.bool true)) hF hS (ex_pick_t rfl rfl hc3) rfl rfl fun a hF => ?_
        refine q_end (n_jn ?_)
        obtain rfl := someI hj2
        exact ⟨hF.sub ⟨rfl, rfl, rfl, trivial⟩, hS.mask [false, true, false, false]⟩
    · rintro a w ⟨hF, hS⟩
      refine n_sq ?_
      rcases hc4 : (t_16) with _ | _
      · have hr := cond_f hc4 hr
        refine q_cond_f hF rfl hc4 ?_
        refine q_skipc (n_sq ?_)
        refine q_seq ?_
        refine q_seq ?_
        refine q_region ?_
        refine q_x (v := s11.v) hF hS (ex_move rfl) rfl rfl fun a hF => ?_
        refine q_x (v := s1.v) hF hS (ex_move rfl) rfl rfl fun a hF => ?_
        obtain ⟨t_17, ht_17, hr⟩ := bindS hr
        refine q_call (vs := [s1.v]) hF hS Try.func26 (by kernel_rfl) rfl rfl rfl (c_laws_toLossS p_aL t_17 ht_17 _ m hS.vis s1 h1) ?_
        rintro a w _ ⟨q19, s19, rfl, hR18, h19⟩ hF hS2
        have hS : St _ _ _ _ [q19, q11] := hS.joinF hR18
        obtain ⟨m21, hl21, hv21, hz21⟩ := hS.lend
        obtain ⟨t_20, ht_20, hr⟩ := bindS hr
        refine q_call (vs := [s11.v, s19.v]) hF hS Try.func28 (by kernel_rfl) rfl rfl rfl (c_laws_eqLossS t_9 t_17 t_20 ht_20 _ m21 hv21 s11 (h11.froz hl21 (hz21 1 _ rfl)) s19 (h19.froz hl21 (hz21 0 _ rfl))) ?_
        rintro a w _ rfl hF hS
        refine q_x (v := (.bool (!t_20))) hF hS (ex_not rfl) rfl rfl fun a hF => ?_
        refine q_end (n_sq ?_)
        rcases hc5 : (!t_20) with _ | _
        · have hr := cond_f hc5 hr
          refine q_cond_f hF rfl hc5 ?_
          refine q_skipc (n_sq ?_)
          refine q_seq ?_
          refine q_region ?_
          refine q_x (v := (.bool true)) hF hS (ex_assign rfl) rfl rfl fun a hF => ?_
          refine q_end (n_sq (q_ret ?_))
          obtain rfl := someI hr
          exact ret_of hF hS rfl (.tmp rfl .nil) rfl
        · have hr := cond_t hc5 hr
          refine q_cond_t hF rfl hc5 ?_
          refine q_seq ?_
          refine q_region ?_
          refine q_x (v := (.bool false)) hF hS (ex_assign rfl) rfl rfl fun a hF => ?_
          refine q_end (n_sq (q_ret (r_sq ?_)))
          obtain rfl := someI hr
          exact ret_of hF hS rfl (.tmp rfl .nil) rfl
      · have hr := cond_t hc4 hr
        refine q_cond_t hF rfl hc4 ?_
        refine q_seq ?_
        refine q_region ?_
        refine q_x (v := (.bool false)) hF hS (ex_assign rfl) rfl rfl fun a hF => ?_
        refine q_end (n_sq (q_ret (r_sq ?_)))
        obtain rfl := someI hr
        exact ret_of hF hS rfl (.tmp rfl .nil) rfl
  · have hr := cond_t hc1 hr
    refine q_cond_t hF rfl hc1 ?_
    refine q_seq ?_
    refine q_region ?_
    refine q_x (v := (.bool true)) hF hS (ex_assign rfl) rfl rfl fun a hF => ?_
    refine q_end (n_sq (q_ret (r_sq ?_)))
    obtain rfl := someI hr
    exact ret_of hF hS rfl (.tmp rfl .nil) rfl

end Go.Proofs.Ytkgmphgbmjbfhaa
