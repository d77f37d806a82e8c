/- The walks of the functions: each returns what its plain function says. -/
import Derived.Test.YtdbgmkfniichdaaEWalks1
namespace Go.Proofs.Ytdbgmkfniichdaa
open Go.Gx Go.Gx.F Go.RowKit
set_option linter.all false
set_option maxRecDepth 10000


theorem c_spec_fDiv (p_a : impl_Frac) (p_b : impl_Frac) (r : impl_Frac × Bool) (hr : spec_fDiv p_a p_b = some r) (w0 : World) (m : Mem) (hv : Vis m w0) :
    Ret Try.prog 84 [(.agg #[(.int .i64 p_a.Num), (.int .i64 p_a.Den)]), (.agg #[(.int .i64 p_b.Num), (.int .i64 p_b.Den)])] w0 (fun v _ => v = (.tuple #[(.agg #[(.int .i64 r.1.Num), (.int .i64 r.1.Den)]), (.bool r.2)])) := by
  unfold spec_fDiv at hr
  refine ret_start Try.func84 rfl 23 rfl rfl m hv fun a hF hS => ?_
  refine q_seq ?_
  refine q_region ?_
  refine q_box (cs := [(.int .i64 p_a.Num), (.int .i64 p_a.Den)]) hF hS rfl rfl rfl fun a w b1 hF hS => ?_
  refine q_box (cs := [(.int .i64 p_b.Num), (.int .i64 p_b.Den)]) hF hS rfl rfl rfl fun a w b2 hF hS => ?_
  refine q_alloc (cs := [(.int .i64 0), (.int .i64 0)]) hF hS rfl rfl rfl fun a w b3 hF hS => ?_
  refine q_x (v := (.bool false)) hF hS (ex_assign rfl) rfl rfl fun a hF => ?_
  refine q_end (n_sq ?_)
  refine q_seq ?_
  refine q_seq ?_
  refine q_region ?_
  refine q_x (v := (.pointer (some ⟨b2, 0, none⟩))) hF hS (ex_fieldAddr Try.underlying24 rfl sz3 rfl rfl) rfl rfl fun a hF => ?_
  refine q_x (v := (.int .i64 p_b.Num)) hF hS (ex_load1 1 0 Try.underlying3 rfl rfl rfl rfl) rfl rfl fun a hF => ?_
  refine q_x (v := (.bool (p_b.Num == 0))) hF hS (ex_ibin rfl rfl rfl) rfl rfl fun a hF => ?_
  refine q_end (n_sq ?_)
  rcases bcase (p_b.Num == 0) with hc1 | hc1
  · have hr := cond_f hc1 hr
    refine q_cond_f hF rfl hc1 ?_
    refine q_skipc (n_sq ?_)
    refine q_seq ?_
    refine q_region ?_
    refine q_x (v := (.pointer (some ⟨b1, 0, none⟩))) hF hS (ex_fieldAddr Try.underlying24 rfl sz3 rfl rfl) rfl rfl fun a hF => ?_
    refine q_x (v := (.int .i64 p_a.Num)) hF hS (ex_load1 2 0 Try.underlying3 rfl rfl rfl rfl) rfl rfl fun a hF => ?_
    refine q_x (v := (.pointer (some ⟨b2, 1, none⟩))) hF hS (ex_fieldAddr Try.underlying24 rfl sz3 rfl rfl) rfl rfl fun a hF => ?_
    refine q_x (v := (.int .i64 p_b.Den)) hF hS (ex_load1 1 0 Try.underlying3 rfl rfl rfl rfl) rfl rfl fun a hF => ?_
    refine q_x (v := (.int .i64 (w64 (p_a.Num * p_b.Den)))) hF hS (ex_ibin rfl rfl rfl) rfl rfl fun a hF => ?_
    refine q_x (v := (.pointer (some ⟨b1, 1, none⟩))) hF hS (ex_fieldAddr Try.underlying24 rfl sz3 rfl rfl) rfl rfl fun a hF => ?_
    refine q_x (v := (.int .i64 p_a.Den)) hF hS (ex_load1 2 0 Try.underlying3 rfl rfl rfl rfl) rfl rfl fun a hF => ?_
    refine q_x (v := (.pointer (some ⟨b2, 0, none⟩))) hF hS (ex_fieldAddr Try.underlying24 rfl sz3 rfl rfl) rfl rfl fun a hF => ?_
    refine q_x (v := (.int .i64 p_b.Num)) hF hS (ex_load1 1 0 Try.underlying3 rfl rfl rfl rfl) rfl rfl fun a hF => ?_
    refine q_x (v := (.int .i64 (w64 (p_a.Den * p_b.Num)))) hF hS (ex_ibin rfl rfl rfl) rfl rfl fun a hF => ?_
    obtain ⟨t_4, ht_4, hr⟩ := bindS hr
    refine q_call (vs := [(.int .i64 (w64 (p_a.Num * p_b.Den))), (.int .i64 (w64 (p_a.Den * p_b.Num)))]) hF hS Try.func117 (by kernel_rfl) rfl rfl rfl (c_spec_fMake (w64 (p_a.Num * p_b.Den)) (w64 (p_a.Den * p_b.Num)) t_4 ht_4 _ m hS.vis) ?_
    rintro a w _ rfl hF hS
    refine q_x (v := (.agg #[(.int .i64 t_4.1.Num), (.int .i64 t_4.1.Den)])) hF hS (ex_extract rfl rfl) rfl rfl fun a hF => ?_
    refine q_x (v := (.bool t_4.2)) hF hS (ex_extract rfl rfl) rfl rfl fun a hF => ?_
    refine q_store (vs := [(.int .i64 t_4.1.Num), (.int .i64 t_4.1.Den)]) (cs' := [(.int .i64 t_4.1.Num), (.int .i64 t_4.1.Den)]) 0 0 hF hS sz24 rfl rfl rfl rfl rfl rfl rfl rfl fun a w hF hS => ?_
    refine q_x (v := (.bool t_4.2)) hF hS (ex_assign rfl) rfl rfl fun a hF => ?_
    refine q_end (n_sq (q_ret ?_))
    obtain rfl := someI hr
    exact ret_of hF hS rfl (.cellA (us := [(.int .i64 t_4.1.Num), (.int .i64 t_4.1.Den)]) 0 0 Try.underlying24 rfl sz24 rfl rfl rfl rfl (.tmp rfl .nil)) rfl
  · have hr := cond_t hc1 hr
    refine q_cond_t hF rfl hc1 ?_
    refine q_seq ?_
    refine q_region ?_
    refine q_x (v := (.agg #[(.int .i64 0), (.int .i64 0)])) hF hS (ex_build (cells := [(.int .i64 0), (.int .i64 0)]) rfl (by kernel_rfl)) rfl rfl fun a hF => ?_
    refine q_store (vs := [(.int .i64 0), (.int .i64 0)]) (cs' := [(.int .i64 0), (.int .i64 0)]) 0 0 hF hS sz24 rfl rfl rfl rfl rfl rfl rfl rfl fun a w hF hS => ?_
    refine q_x (v := (.bool false)) hF hS (ex_assign rfl) rfl rfl fun a hF => ?_
    refine q_end (n_sq (q_ret (r_sq ?_)))
    obtain rfl := someI hr
    exact ret_of hF hS rfl (.cellA (us := [(.int .i64 0), (.int .i64 0)]) 0 0 Try.underlying24 rfl sz24 rfl rfl rfl rfl (.tmp rfl .nil)) rfl

theorem c_spec_zBase (p_a : impl_Frac) (r : impl_Frac × Bool) (hr : spec_zBase p_a = some r) (w0 : World) (m : Mem) (hv : Vis m w0) :
    Ret Try.prog 166 [(.agg #[(.int .i64 p_a.Num), (.int .i64 p_a.Den)])] w0 (fun v _ => v = (.tuple #[(.agg #[(.int .i64 r.1.Num), (.int .i64 r.1.Den)]), (.bool r.2)])) := by
  unfold spec_zBase at hr
  refine ret_start Try.func166 rfl 32 rfl rfl m hv fun a hF hS => ?_
  refine q_seq ?_
  refine q_region ?_
  refine q_box (cs := [(.int .i64 p_a.Num), (.int .i64 p_a.Den)]) hF hS rfl rfl rfl fun a w b1 hF hS => ?_
  refine q_alloc (cs := [(.int .i64 0), (.int .i64 0)]) hF hS rfl rfl rfl fun a w b2 hF hS => ?_
  refine q_x (v := (.bool false)) hF hS (ex_assign rfl) rfl rfl fun a hF => ?_
  refine q_end (n_sq ?_)
  refine q_seq ?_
  obtain ⟨j1, hj1, hr⟩ := bindS hr
  refine q_join (fun a w => ∃ b7, ∃ one_8, ∃ x_9, j1 = (one_8, x_9) ∧ Fr a 32 [(1, (.pointer (some ⟨b1, 0, none⟩))), (2, (.pointer (some ⟨b2, 0, none⟩))), (4, (.pointer (some ⟨b7, 0, none⟩))), (5, (.bool one_8))] ∧ St [] w0 w m [[⟨b7, [(.int .i64 x_9.Num), (.int .i64 x_9.Den)], 24⟩], [⟨b2, [(.int .i64 0), (.int .i64 0)], 24⟩], [⟨b1, [(.int .i64 p_a.Num), (.int .i64 p_a.Den)], 24⟩]]) ?_ ?_
  · refine e_region [7] mixed fun w' hw' => ?_
    have hS := hS.below hw'
    refine e_x (v := (.agg #[(.int .i64 p_a.Num), (.int .i64 p_a.Den)])) 1 hF hS rfl (ex_loadA (vs := [(.int .i64 p_a.Num), (.int .i64 p_a.Den)]) 1 0 Try.underlying24 rfl sz24 rfl rfl rfl rfl) rfl rfl (by kernel_rfl) (by kernel_rfl) (by kernel_rfl) (by kernel_rfl) fun a hF => ?_
    obtain ⟨t_5, ht_5, hj1⟩ := bindS hj1
    obtain ⟨t_6, ht_6, hj1⟩ := bindS hj1
    refine e_all [0, 6] (by kernel_rfl) rfl ⟨?_, ?_, trivial⟩
    · refine e_call (vs := [(.int .i64 1)]) hF hS rfl Try.func107 (by kernel_rfl) rfl rfl rfl (c_spec_fInt 1 t_5 ht_5 _ m hS.vis) ?_
      rintro a w _ rfl hF hS
      refine e_all [2, 6] (by kernel_rfl) rfl ⟨?_, ?_, trivial⟩
      · refine e_call (vs := [(.agg #[(.int .i64 t_5.Num), (.int .i64 t_5.Den)]), (.agg #[(.int .i64 p_a.Num), (.int .i64 p_a.Den)])]) hF hS rfl Try.func85 (by kernel_rfl) rfl rfl rfl (c_spec_fSub t_5 p_a t_6 ht_6 _ m hS.vis) ?_
        rintro a w _ rfl hF hS
        refine e_p (v := (.tuple #[(.agg #[(.int .i64 t_6.1.Num), (.int .i64 t_6.1.Den)]), (.bool t_6.2)])) 3 hF rfl (ex_move rfl) rfl rfl (by kernel_rfl) (by kernel_rfl) (by kernel_rfl) fun a hF => ?_
        refine e_p (v := (.agg #[(.int .i64 t_6.1.Num), (.int .i64 t_6.1.Den)])) 4 hF rfl (ex_extract rfl rfl) rfl rfl (by kernel_rfl) (by kernel_rfl) (by kernel_rfl) fun a hF => ?_
        refine e_p (v := (.bool t_6.2)) 5 hF rfl (ex_extract rfl rfl) rfl rfl (by kernel_rfl) (by kernel_rfl) (by kernel_rfl) fun a hF => ?_
        refine e_one 6 (by kernel_rfl) ?_
        refine e_alloc (cs := [(.int .i64 0), (.int .i64 0)]) hF hS rfl rfl rfl rfl fun a w b7 hF hS => ?_
        refine e_one 7 (by kernel_rfl) ?_
        refine e_store (vs := [(.int .i64 t_6.1.Num), (.int .i64 t_6.1.Den)]) (cs' := [(.int .i64 t_6.1.Num), (.int .i64 t_6.1.Den)]) 0 0 hF hS rfl rfl sz24 rfl rfl rfl rfl rfl rfl rfl rfl fun a w hF hS => ?_
        refine e_p (v := (.bool t_6.2)) 8 hF rfl (ex_assign rfl) rfl rfl (by kernel_rfl) (by kernel_rfl) (by kernel_rfl) fun a hF => ?_
        refine e_end (by kernel_rfl) (n_jn ?_) _
        obtain rfl := someI hj1
        exact ⟨b7, _, _, rfl, hF.sub ⟨rfl, rfl, rfl, rfl, trivial⟩, hS⟩
      · refine e_alloc (cs := [(.int .i64 0), (.int .i64 0)]) hF hS rfl rfl rfl rfl fun a w b7 hF hS => ?_
        refine e_one 2 (by kernel_rfl) ?_
        refine e_call (vs := [(.agg #[(.int .i64 t_5.Num), (.int .i64 t_5.Den)]), (.agg #[(.int .i64 p_a.Num), (.int .i64 p_a.Den)])]) hF hS rfl Try.func85 (by kernel_rfl) rfl rfl rfl (c_spec_fSub t_5 p_a t_6 ht_6 _ m hS.vis) ?_
        rintro a w _ rfl hF hS
        refine e_p (v := (.tuple #[(.agg #[(.int .i64 t_6.1.Num), (.int .i64 t_6.1.Den)]), (.bool t_6.2)])) 3 hF rfl (ex_move rfl) rfl rfl (by kernel_rfl) (by kernel_rfl) (by kernel_rfl) fun a hF => ?_
        refine e_p (v := (.agg #[(.int .i64 t_6.1.Num), (.int .i64 t_6.1.Den)])) 4 hF rfl (ex_extract rfl rfl) rfl rfl (by kernel_rfl) (by kernel_rfl) (by kernel_rfl) fun a hF => ?_
        refine e_p (v := (.bool t_6.2)) 5 hF rfl (ex_extract rfl rfl) rfl rfl (by kernel_rfl) (by kernel_rfl) (by kernel_rfl) fun a hF => ?_
        refine e_one 7 (by kernel_rfl) ?_
        refine e_store (vs := [(.int .i64 t_6.1.Num), (.int .i64 t_6.1.Den)]) (cs' := [(.int .i64 t_6.1.Num), (.int .i64 t_6.1.Den)]) 0 0 hF hS rfl rfl sz24 rfl rfl rfl rfl rfl rfl rfl rfl fun a w hF hS => ?_
        refine e_p (v := (.bool t_6.2)) 8 hF rfl (ex_assign rfl) rfl rfl (by kernel_rfl) (by kernel_rfl) (by kernel_rfl) fun a hF => ?_
        refine e_end (by kernel_rfl) (n_jn ?_) _
        obtain rfl := someI hj1
        exact ⟨b7, _, _, rfl, hF.sub ⟨rfl, rfl, rfl, rfl, trivial⟩, hS⟩
    · refine e_alloc (cs := [(.int .i64 0), (.int .i64 0)]) hF hS rfl rfl rfl rfl fun a w b7 hF hS => ?_
      refine e_one 0 (by kernel_rfl) ?_
      refine e_call (vs := [(.int .i64 1)]) hF hS rfl Try.func107 (by kernel_rfl) rfl rfl rfl (c_spec_fInt 1 t_5 ht_5 _ m hS.vis) ?_
      rintro a w _ rfl hF hS
      refine e_one 2 (by kernel_rfl) ?_
      refine e_call (vs := [(.agg #[(.int .i64 t_5.Num), (.int .i64 t_5.Den)]), (.agg #[(.int .i64 p_a.Num), (.int .i64 p_a.Den)])]) hF hS rfl Try.func85 (by kernel_rfl) rfl rfl rfl (c_spec_fSub t_5 p_a t_6 ht_6 _ m hS.vis) ?_
      rintro a w _ rfl hF hS
      refine e_p (v := (.tuple #[(.agg #[(.int .i64 t_6.1.Num), (.int .i64 t_6.1.Den)]), (.bool t_6.2)])) 3 hF rfl (ex_move rfl) rfl rfl (by kernel_rfl) (by kernel_rfl) (by kernel_rfl) fun a hF => ?_
      refine e_p (v := (.agg #[(.int .i64 t_6.1.Num), (.int .i64 t_6.1.Den)])) 4 hF rfl (ex_extract rfl rfl) rfl rfl (by kernel_rfl) (by kernel_rfl) (by kernel_rfl) fun a hF => ?_
      refine e_p (v := (.bool t_6.2)) 5 hF rfl (ex_extract rfl rfl) rfl rfl (by kernel_rfl) (by kernel_rfl) (by kernel_rfl) fun a hF => ?_
      refine e_one 7 (by kernel_rfl) ?_
      refine e_store (vs := [(.int .i64 t_6.1.Num), (.int .i64 t_6.1.Den)]) (cs' := [(.int .i64 t_6.1.Num), (.int .i64 t_6.1.Den)]) 0 0 hF hS rfl rfl sz24 rfl rfl rfl rfl rfl rfl rfl rfl fun a w hF hS => ?_
      refine e_p (v := (.bool t_6.2)) 8 hF rfl (ex_assign rfl) rfl rfl (by kernel_rfl) (by kernel_rfl) (by kernel_rfl) fun a hF => ?_
      refine e_end (by kernel_rfl) (n_jn ?_) _
      obtain rfl := someI hj1
      exact ⟨b7, _, _, rfl, hF.sub ⟨rfl, rfl, rfl, rfl, trivial⟩, hS⟩
  · rintro a w ⟨b7, one_8, x_9, rfl, hF, hS⟩
    refine n_sq ?_
    refine q_seq ?_
    obtain ⟨j2, hj2, hr⟩ := bindS hr
    refine q_join (fun a w => ∃ b14, ∃ two_15, ∃ y_16, j2 = (two_15, y_16) ∧ Fr a 32 [(2, (.pointer (some ⟨b2, 0, none⟩))), (4, (.pointer (some ⟨b7, 0, none⟩))), (5, (.bool one_8)), (6, (.pointer (some ⟨b14, 0, none⟩))), (7, (.bool two_15))] ∧ St [] w0 w m [[⟨b14, [(.int .i64 y_16.Num), (.int .i64 y_16.Den)], 24⟩], [⟨b7, [(.int .i64 x_9.Num), (.int .i64 x_9.Den)], 24⟩], [⟨b2, [(.int .i64 0), (.int .i64 0)], 24⟩]]) ?_ ?_
    · refine e_region [7] mixed fun w' hw' => ?_
      have hS := hS.below hw'
      refine e_x (v := (.agg #[(.int .i64 p_a.Num), (.int .i64 p_a.Den)])) 1 hF hS rfl (ex_loadA (vs := [(.int .i64 p_a.Num), (.int .i64 p_a.Den)]) 2 0 Try.underlying24 rfl sz24 rfl rfl rfl rfl) rfl rfl (by kernel_rfl) (by kernel_rfl) (by kernel_rfl) (by kernel_rfl) fun a hF => ?_
      obtain ⟨t_12, ht_12, hj2⟩ := bindS hj2
      obtain ⟨t_13, ht_13, hj2⟩ := bindS hj2
      refine e_all [0, 6] (by kernel_rfl) rfl ⟨?_, ?_, trivial⟩
      · refine e_call (vs := [(.int .i64 1)]) hF hS rfl Try.func107 (by kernel_rfl) rfl rfl rfl (c_spec_fInt 1 t_12 ht_12 _ m hS.vis) ?_
        rintro a w _ rfl hF hS
        refine e_all [2, 6] (by kernel_rfl) rfl ⟨?_, ?_, trivial⟩
        · refine e_call (vs := [(.agg #[(.int .i64 t_12.Num), (.int .i64 t_12.Den)]), (.agg #[(.int .i64 p_a.Num), (.int .i64 p_a.Den)])]) hF hS rfl Try.func156 (by kernel_rfl) rfl rfl rfl (c_spec_fAdd t_12 p_a t_13 ht_13 _ m hS.vis) ?_
          rintro a w _ rfl hF hS
          refine e_p (v := (.tuple #[(.agg #[(.int .i64 t_13.1.Num), (.int .i64 t_13.1.Den)]), (.bool t_13.2)])) 3 hF rfl (ex_move rfl) rfl rfl (by kernel_rfl) (by kernel_rfl) (by kernel_rfl) fun a hF => ?_
          refine e_p (v := (.agg #[(.int .i64 t_13.1.Num), (.int .i64 t_13.1.Den)])) 4 hF rfl (ex_extract rfl rfl) rfl rfl (by kernel_rfl) (by kernel_rfl) (by kernel_rfl) fun a hF => ?_
          refine e_p (v := (.bool t_13.2)) 5 hF rfl (ex_extract rfl rfl) rfl rfl (by kernel_rfl) (by kernel_rfl) (by kernel_rfl) fun a hF => ?_
          refine e_one 6 (by kernel_rfl) ?_
          refine e_alloc (cs := [(.int .i64 0), (.int .i64 0)]) hF hS rfl rfl rfl rfl fun a w b14 hF hS => ?_
          refine e_one 7 (by kernel_rfl) ?_
          refine e_store (vs := [(.int .i64 t_13.1.Num), (.int .i64 t_13.1.Den)]) (cs' := [(.int .i64 t_13.1.Num), (.int .i64 t_13.1.Den)]) 0 0 hF hS rfl rfl sz24 rfl rfl rfl rfl rfl rfl rfl rfl fun a w hF hS => ?_
          refine e_p (v := (.bool t_13.2)) 8 hF rfl (ex_assign rfl) rfl rfl (by kernel_rfl) (by kernel_rfl) (by kernel_rfl) fun a hF => ?_
          refine e_end (by kernel_rfl) (n_jn ?_) _
          obtain rfl := someI hj2
          exact ⟨b14, _, _, rfl, hF.sub ⟨rfl, rfl, rfl, rfl, rfl, trivial⟩, hS.mask [true, true, true, false]⟩
        · refine e_alloc (cs := [(.int .i64 0), (.int .i64 0)]) hF hS rfl rfl rfl rfl fun a w b14 hF hS => ?_
          refine e_one 2 (by kernel_rfl) ?_
          refine e_call (vs := [(.agg #[(.int .i64 t_12.Num), (.int .i64 t_12.Den)]), (.agg #[(.int .i64 p_a.Num), (.int .i64 p_a.Den)])]) hF hS rfl Try.func156 (by kernel_rfl) rfl rfl rfl (c_spec_fAdd t_12 p_a t_13 ht_13 _ m hS.vis) ?_
          rintro a w _ rfl hF hS
          refine e_p (v := (.tuple #[(.agg #[(.int .i64 t_13.1.Num), (.int .i64 t_13.1.Den)]), (.bool t_13.2)])) 3 hF rfl (ex_move rfl) rfl rfl (by kernel_rfl) (by kernel_rfl) (by kernel_rfl) fun a hF => ?_
          refine e_p (v := (.agg #[(.int .i64 t_13.1.Num), (.int .i64 t_13.1.Den)])) 4 hF rfl (ex_extract rfl rfl) rfl rfl (by kernel_rfl) (by kernel_rfl) (by kernel_rfl) fun a hF => ?_
          refine e_p (v := (.bool t_13.2)) 5 hF rfl (ex_extract rfl rfl) rfl rfl (by kernel_rfl) (by kernel_rfl) (by kernel_rfl) fun a hF => ?_
          refine e_one 7 (by kernel_rfl) ?_
          refine e_store (vs := [(.int .i64 t_13.1.Num), (.int .i64 t_13.1.Den)]) (cs' := [(.int .i64 t_13.1.Num), (.int .i64 t_13.1.Den)]) 0 0 hF hS rfl rfl sz24 rfl rfl rfl rfl rfl rfl rfl rfl fun a w hF hS => ?_
          refine e_p (v := (.bool t_13.2)) 8 hF rfl (ex_assign rfl) rfl rfl (by kernel_rfl) (by kernel_rfl) (by kernel_rfl) fun a hF => ?_
          refine e_end (by kernel_rfl) (n_jn ?_) _
          obtain rfl := someI hj2
          exact ⟨b14, _, _, rfl, hF.sub ⟨rfl, rfl, rfl, rfl, rfl, trivial⟩, hS.mask [true, true, true, false]⟩
      · refine e_alloc (cs := [(.int .i64 0), (.int .i64 0)]) hF hS rfl rfl rfl rfl fun a w b14 hF hS => ?_
        refine e_one 0 (by kernel_rfl) ?_
        refine e_call (vs := [(.int .i64 1)]) hF hS rfl Try.func107 (by kernel_rfl) rfl rfl rfl (c_spec_fInt 1 t_12 ht_12 _ m hS.vis) ?_
        rintro a w _ rfl hF hS
        refine e_one 2 (by kernel_rfl) ?_
        refine e_call (vs := [(.agg #[(.int .i64 t_12.Num), (.int .i64 t_12.Den)]), (.agg #[(.int .i64 p_a.Num), (.int .i64 p_a.Den)])]) hF hS rfl Try.func156 (by kernel_rfl) rfl rfl rfl (c_spec_fAdd t_12 p_a t_13 ht_13 _ m hS.vis) ?_
        rintro a w _ rfl hF hS
        refine e_p (v := (.tuple #[(.agg #[(.int .i64 t_13.1.Num), (.int .i64 t_13.1.Den)]), (.bool t_13.2)])) 3 hF rfl (ex_move rfl) rfl rfl (by kernel_rfl) (by kernel_rfl) (by kernel_rfl) fun a hF => ?_
        refine e_p (v := (.agg #[(.int .i64 t_13.1.Num), (.int .i64 t_13.1.Den)])) 4 hF rfl (ex_extract rfl rfl) rfl rfl (by kernel_rfl) (by kernel_rfl) (by kernel_rfl) fun a hF => ?_
        refine e_p (v := (.bool t_13.2)) 5 hF rfl (ex_extract rfl rfl) rfl rfl (by kernel_rfl) (by kernel_rfl) (by kernel_rfl) fun a hF => ?_
        refine e_one 7 (by kernel_rfl) ?_
        refine e_store (vs := [(.int .i64 t_13.1.Num), (.int .i64 t_13.1.Den)]) (cs' := [(.int .i64 t_13.1.Num), (.int .i64 t_13.1.Den)]) 0 0 hF hS rfl rfl sz24 rfl rfl rfl rfl rfl rfl rfl rfl fun a w hF hS => ?_
        refine e_p (v := (.bool t_13.2)) 8 hF rfl (ex_assign rfl) rfl rfl (by kernel_rfl) (by kernel_rfl) (by kernel_rfl) fun a hF => ?_
        refine e_end (by kernel_rfl) (n_jn ?_) _
        obtain rfl := someI hj2
        exact ⟨b14, _, _, rfl, hF.sub ⟨rfl, rfl, rfl, rfl, rfl, trivial⟩, hS.mask [true, true, true, false]⟩
    · rintro a w ⟨b14, two_15, y_16, rfl, hF, hS⟩
      refine n_sq ?_
      refine q_seq ?_
      refine q_seq ?_
      obtain ⟨t_17, hj3, hr⟩ := bindS hr
      refine q_join (fun a w => Fr a 32 [(2, (.pointer (some ⟨b2, 0, none⟩))), (4, (.pointer (some ⟨b7, 0, none⟩))), (6, (.pointer (some ⟨b14, 0, none⟩))), (25, (.bool t_17))] ∧ St [] w0 w m [[⟨b14, [(.int .i64 y_16.Num), (.int .i64 y_16.Den)], 24⟩], [⟨b7, [(.int .i64 x_9.Num), (.int .i64 x_9.Den)], 24⟩], [⟨b2, [(.int .i64 0), (.int .i64 0)], 24⟩]]) ?_ ?_
      · refine q_region ?_
        refine q_x (v := (.bool one_8)) hF hS (ex_move rfl) rfl rfl fun a hF => ?_
        refine q_x (v := (.bool (!one_8))) hF hS (ex_not rfl) rfl rfl fun a hF => ?_
        refine q_x (v := (.bool (!one_8))) hF hS (ex_move rfl) rfl rfl fun a hF => ?_
        rcases bcase (!one_8) with hc4 | hc4
        · have hj3 := cond_f hc4 hj3
          refine q_xg (v := (.bool two_15)) hF hS (ex_move rfl) (wanted_t hF rfl rfl rfl hc4) rfl fun a hF => ?_
          refine q_xg (v := (.bool (!two_15))) hF hS (ex_not rfl) (wanted_t hF rfl rfl rfl hc4) rfl fun a hF => ?_
          refine q_x (v := (.bool (!two_15))) hF hS (ex_pick_f rfl rfl hc4) rfl rfl fun a hF => ?_
          refine q_end (n_jn ?_)
          obtain rfl := someI hj3
          exact ⟨hF.sub ⟨rfl, rfl, rfl, rfl, trivial⟩, hS⟩
        · have hj3 := cond_t hc4 hj3
          refine q_skip hF (wanted_f hF rfl rfl rfl hc4 rfl) rfl fun a hF => ?_
          refine q_skip hF (wanted_f hF rfl rfl rfl hc4 rfl) rfl fun a hF => ?_
          refine q_x (v := (.bool true)) hF hS (ex_pick_t rfl rfl hc4) rfl rfl fun a hF => ?_
          refine q_end (n_jn ?_)
          obtain rfl := someI hj3
          exact ⟨hF.sub ⟨rfl, rfl, rfl, rfl, trivial⟩, hS⟩
      · rintro a w ⟨hF, hS⟩
        refine n_sq ?_
        rcases bcase (t_17) with hc5 | hc5
        · have hr := cond_f hc5 hr
          refine q_cond_f hF rfl hc5 ?_
          refine q_skipc (n_sq ?_)
          refine q_seq ?_
          refine q_region ?_
          refine q_x (v := (.agg #[(.int .i64 x_9.Num), (.int .i64 x_9.Den)])) hF hS (ex_loadA (vs := [(.int .i64 x_9.Num), (.int .i64 x_9.Den)]) 1 0 Try.underlying24 rfl sz24 rfl rfl rfl rfl) rfl rfl fun a hF => ?_
          refine q_x (v := (.agg #[(.int .i64 y_16.Num), (.int .i64 y_16.Den)])) hF hS (ex_loadA (vs := [(.int .i64 y_16.Num), (.int .i64 y_16.Den)]) 0 0 Try.underlying24 rfl sz24 rfl rfl rfl rfl) rfl rfl fun a hF => ?_
          obtain ⟨t_18, ht_18, hr⟩ := bindS hr
          refine q_call (vs := [(.agg #[(.int .i64 x_9.Num), (.int .i64 x_9.Den)]), (.agg #[(.int .i64 y_16.Num), (.int .i64 y_16.Den)])]) hF hS Try.func84 (by kernel_rfl) rfl rfl rfl (c_spec_fDiv x_9 y_16 t_18 ht_18 _ m hS.vis) ?_
          rintro a w _ rfl hF hS
          refine q_x (v := (.agg #[(.int .i64 t_18.1.Num), (.int .i64 t_18.1.Den)])) hF hS (ex_extract rfl rfl) rfl rfl fun a hF => ?_
          refine q_x (v := (.bool t_18.2)) hF hS (ex_extract rfl rfl) rfl rfl fun a hF => ?_
          refine q_store (vs := [(.int .i64 t_18.1.Num), (.int .i64 t_18.1.Den)]) (cs' := [(.int .i64 t_18.1.Num), (.int .i64 t_18.1.Den)]) 2 0 hF hS sz24 rfl rfl rfl rfl rfl rfl rfl rfl fun a w hF hS => ?_
          refine q_x (v := (.bool t_18.2)) hF hS (ex_assign rfl) rfl rfl fun a hF => ?_
          refine q_end (n_sq (q_ret ?_))
          obtain rfl := someI hr
          exact ret_of hF hS rfl (.cellA (us := [(.int .i64 t_18.1.Num), (.int .i64 t_18.1.Den)]) 2 0 Try.underlying24 rfl sz24 rfl rfl rfl rfl (.tmp rfl .nil)) rfl
        · have hr := cond_t hc5 hr
          refine q_cond_t hF rfl hc5 ?_
          refine q_seq ?_
          refine q_region ?_
          refine q_x (v := (.agg #[(.int .i64 0), (.int .i64 0)])) hF hS (ex_build (cells := [(.int .i64 0), (.int .i64 0)]) rfl (by kernel_rfl)) rfl rfl fun a hF => ?_
          refine q_store (vs := [(.int .i64 0), (.int .i64 0)]) (cs' := [(.int .i64 0), (.int .i64 0)]) 2 0 hF hS sz24 rfl rfl rfl rfl rfl rfl rfl rfl fun a w hF hS => ?_
          refine q_x (v := (.bool false)) hF hS (ex_assign rfl) rfl rfl fun a hF => ?_
          refine q_end (n_sq (q_ret (r_sq ?_)))
          obtain rfl := someI hr
          exact ret_of hF hS rfl (.cellA (us := [(.int .i64 0), (.int .i64 0)]) 2 0 Try.underlying24 rfl sz24 rfl rfl rfl rfl (.tmp rfl .nil)) rfl

theorem c_spec_fMul (p_a : impl_Frac) (p_b : impl_Frac) (r : impl_Frac × Bool) (hr : spec_fMul p_a p_b = some r) (w0 : World) (m : Mem) (hv : Vis m w0) :
    Ret Try.prog 106 [(.agg #[(.int .i64 p_a.Num), (.int .i64 p_a.Den)]), (.agg #[(.int .i64 p_b.Num), (.int .i64 p_b.Den)])] w0 (fun v _ => v = (.tuple #[(.agg #[(.int .i64 r.1.Num), (.int .i64 r.1.Den)]), (.bool r.2)])) := by
  unfold spec_fMul at hr
  refine ret_start Try.func106 rfl 19 rfl rfl m hv fun a hF hS => ?_
  refine q_seq ?_
  refine q_region ?_
  refine q_box (cs := [(.int .i64 p_a.Num), (.int .i64 p_a.Den)]) hF hS rfl rfl rfl fun a w b1 hF hS => ?_
  refine q_box (cs := [(.int .i64 p_b.Num), (.int .i64 p_b.Den)]) hF hS rfl rfl rfl fun a w b2 hF hS => ?_
  refine q_alloc (cs := [(.int .i64 0), (.int .i64 0)]) hF hS rfl rfl rfl fun a w b3 hF hS => ?_
  refine q_x (v := (.bool false)) hF hS (ex_assign rfl) rfl rfl fun a hF => ?_
  refine q_end (n_sq ?_)
  refine q_seq ?_
  refine q_region ?_
  refine q_x (v := (.pointer (some ⟨b1, 0, none⟩))) hF hS (ex_fieldAddr Try.underlying24 rfl sz3 rfl rfl) rfl rfl fun a hF => ?_
  refine q_x (v := (.int .i64 p_a.Num)) hF hS (ex_load1 2 0 Try.underlying3 rfl rfl rfl rfl) rfl rfl fun a hF => ?_
  refine q_x (v := (.pointer (some ⟨b2, 0, none⟩))) hF hS (ex_fieldAddr Try.underlying24 rfl sz3 rfl rfl) rfl rfl fun a hF => ?_
  refine q_x (v := (.int .i64 p_b.Num)) hF hS (ex_load1 1 0 Try.underlying3 rfl rfl rfl rfl) rfl rfl fun a hF => ?_
  refine q_x (v := (.int .i64 (w64 (p_a.Num * p_b.Num)))) hF hS (ex_ibin rfl rfl rfl) rfl rfl fun a hF => ?_
  refine q_x (v := (.pointer (some ⟨b1, 1, none⟩))) hF hS (ex_fieldAddr Try.underlying24 rfl sz3 rfl rfl) rfl rfl fun a hF => ?_
  refine q_x (v := (.int .i64 p_a.Den)) hF hS (ex_load1 2 0 Try.underlying3 rfl rfl rfl rfl) rfl rfl fun a hF => ?_
  refine q_x (v := (.pointer (some ⟨b2, 1, none⟩))) hF hS (ex_fieldAddr Try.underlying24 rfl sz3 rfl rfl) rfl rfl fun a hF => ?_
  refine q_x (v := (.int .i64 p_b.Den)) hF hS (ex_load1 1 0 Try.underlying3 rfl rfl rfl rfl) rfl rfl fun a hF => ?_
  refine q_x (v := (.int .i64 (w64 (p_a.Den * p_b.Den)))) hF hS (ex_ibin rfl rfl rfl) rfl rfl fun a hF => ?_
  obtain ⟨t_4, ht_4, hr⟩ := bindS hr
  refine q_call (vs := [(.int .i64 (w64 (p_a.Num * p_b.Num))), (.int .i64 (w64 (p_a.Den * p_b.Den)))]) hF hS Try.func117 (by kernel_rfl) rfl rfl rfl (c_spec_fMake (w64 (p_a.Num * p_b.Num)) (w64 (p_a.Den * p_b.Den)) t_4 ht_4 _ m hS.vis) ?_
  rintro a w _ rfl hF hS
  refine q_x (v := (.agg #[(.int .i64 t_4.1.Num), (.int .i64 t_4.1.Den)])) hF hS (ex_extract rfl rfl) rfl rfl fun a hF => ?_
  refine q_x (v := (.bool t_4.2)) hF hS (ex_extract rfl rfl) rfl rfl fun a hF => ?_
  refine q_store (vs := [(.int .i64 t_4.1.Num), (.int .i64 t_4.1.Den)]) (cs' := [(.int .i64 t_4.1.Num), (.int .i64 t_4.1.Den)]) 0 0 hF hS sz24 rfl rfl rfl rfl rfl rfl rfl rfl fun a w hF hS => ?_
  refine q_x (v := (.bool t_4.2)) hF hS (ex_assign rfl) rfl rfl fun a hF => ?_
  refine q_end (n_sq (q_ret ?_))
  obtain rfl := someI hr
  exact ret_of hF hS rfl (.cellA (us := [(.int .i64 t_4.1.Num), (.int .i64 t_4.1.Den)]) 0 0 Try.underlying24 rfl sz24 rfl rfl rfl rfl (.tmp rfl .nil)) rfl

theorem c_spec_fPow (p_f : impl_Frac) (p_k : Int) (r : impl_Frac × Bool) (hr : spec_fPow p_f p_k = some r) (w0 : World) (m : Mem) (hv : Vis m w0) :
    Ret Try.prog 105 [(.agg #[(.int .i64 p_f.Num), (.int .i64 p_f.Den)]), (.int .i64 p_k)] w0 (fun v _ => v = (.tuple #[(.agg #[(.int .i64 r.1.Num), (.int .i64 r.1.Den)]), (.bool r.2)])) := by
  unfold spec_fPow at hr
  refine ret_start Try.func105 rfl 25 rfl rfl m hv fun a hF hS => ?_
  refine q_seq ?_
  refine q_region ?_
  refine q_box (cs := [(.int .i64 p_f.Num), (.int .i64 p_f.Den)]) hF hS rfl rfl rfl fun a w b1 hF hS => ?_
  refine q_alloc (cs := [(.int .i64 0), (.int .i64 0)]) hF hS rfl rfl rfl fun a w b2 hF hS => ?_
  refine q_x (v := (.bool false)) hF hS (ex_assign rfl) rfl rfl fun a hF => ?_
  refine q_end (n_sq ?_)
  refine q_seq ?_
  refine q_region ?_
  obtain ⟨t_3, ht_3, hr⟩ := bindS hr
  refine q_call (vs := [(.int .i64 1)]) hF hS Try.func107 (by kernel_rfl) rfl rfl rfl (c_spec_fInt 1 t_3 ht_3 _ m hS.vis) ?_
  rintro a w _ rfl hF hS
  refine q_alloc (cs := [(.int .i64 0), (.int .i64 0)]) hF hS rfl rfl rfl fun a w b4 hF hS => ?_
  refine q_store (vs := [(.int .i64 t_3.Num), (.int .i64 t_3.Den)]) (cs' := [(.int .i64 t_3.Num), (.int .i64 t_3.Den)]) 0 0 hF hS sz24 rfl rfl rfl rfl rfl rfl rfl rfl fun a w hF hS => ?_
  refine q_end (n_sq ?_)
  refine q_seq ?_
  refine q_block ?_
  obtain ⟨o1, hl1, hr⟩ := bindS hr
  refine q_loop (fun (s : Int × impl_Frac) a w => ∃ k_5, ∃ out_6, s = (k_5, out_6) ∧ Fr a 25 [(1, (.int .i64 k_5)), (2, (.pointer (some ⟨b1, 0, none⟩))), (4, (.pointer (some ⟨b2, 0, none⟩))), (6, (.pointer (some ⟨b4, 0, none⟩)))] ∧ St [] w0 w m [[⟨b4, [(.int .i64 out_6.Num), (.int .i64 out_6.Den)], 24⟩], [⟨b2, [(.int .i64 0), (.int .i64 0)], 24⟩], [⟨b1, [(.int .i64 p_f.Num), (.int .i64 p_f.Den)], 24⟩]]) (fun (o : (impl_Frac) ⊕ (impl_Frac × Bool)) e a w => ∃ out_9, o = .inl out_9 ∧ e = .exit 0 ∧ Fr a 25 [(4, (.pointer (some ⟨b2, 0, none⟩))), (6, (.pointer (some ⟨b4, 0, none⟩)))] ∧ St [] w0 w m [[⟨b4, [(.int .i64 out_9.Num), (.int .i64 out_9.Den)], 24⟩], [⟨b2, [(.int .i64 0), (.int .i64 0)], 24⟩]]) hl1 ⟨_, _, rfl, hF.sub ⟨rfl, rfl, rfl, rfl, trivial⟩, hS⟩ ?_ ?_
  · clear hF hS
    rintro s a w st ⟨k_5, out_6, rfl, hF, hS⟩ hb1
    unfold spec_fPow_l1 at hb1
    refine q_seq ?_
    refine q_seq ?_
    refine q_region ?_
    refine q_x (v := (.int .i64 k_5)) hF hS (ex_move rfl) rfl rfl fun a hF => ?_
    refine q_x (v := (.bool (decide (0 < k_5)))) hF hS (ex_ibin rfl rfl rfl) rfl rfl fun a hF => ?_
    refine q_end (n_sq ?_)
    rcases bcase (decide (0 < k_5)) with hc2 | hc2
    · have hb1 := cond_f hc2 hb1
      refine q_cond_f hF rfl hc2 ?_
      refine q_exit (x_sq ?_)
      obtain rfl := someI hb1
      exact ⟨nofun, .inl ⟨_, rfl, rfl, hF.sub ⟨rfl, rfl, trivial⟩, hS.mask [true, true, false]⟩⟩
    · have hb1 := cond_t hc2 hb1
      refine q_cond_t hF rfl hc2 ?_
      refine q_skipc (n_sq ?_)
      refine q_seq ?_
      refine q_block ?_
      refine q_seq ?_
      refine q_region ?_
      refine q_x (v := (.agg #[(.int .i64 out_6.Num), (.int .i64 out_6.Den)])) hF hS (ex_loadA (vs := [(.int .i64 out_6.Num), (.int .i64 out_6.Den)]) 0 0 Try.underlying24 rfl sz24 rfl rfl rfl rfl) rfl rfl fun a hF => ?_
      refine q_x (v := (.agg #[(.int .i64 p_f.Num), (.int .i64 p_f.Den)])) hF hS (ex_loadA (vs := [(.int .i64 p_f.Num), (.int .i64 p_f.Den)]) 2 0 Try.underlying24 rfl sz24 rfl rfl rfl rfl) rfl rfl fun a hF => ?_
      obtain ⟨t_7, ht_7, hb1⟩ := bindS hb1
      refine q_call (vs := [(.agg #[(.int .i64 out_6.Num), (.int .i64 out_6.Den)]), (.agg #[(.int .i64 p_f.Num), (.int .i64 p_f.Den)])]) hF hS Try.func106 (by kernel_rfl) rfl rfl rfl (c_spec_fMul out_6 p_f t_7 ht_7 _ m hS.vis) ?_
      rintro a w _ rfl hF hS
      refine q_x (v := (.tuple #[(.agg #[(.int .i64 t_7.1.Num), (.int .i64 t_7.1.Den)]), (.bool t_7.2)])) hF hS (ex_move rfl) rfl rfl fun a hF => ?_
      refine q_x (v := (.agg #[(.int .i64 t_7.1.Num), (.int .i64 t_7.1.Den)])) hF hS (ex_extract rfl rfl) rfl rfl fun a hF => ?_
      refine q_x (v := (.bool t_7.2)) hF hS (ex_extract rfl rfl) rfl rfl fun a hF => ?_
      refine q_alloc (cs := [(.int .i64 0), (.int .i64 0)]) hF hS rfl rfl rfl fun a w b8 hF hS => ?_
      refine q_store (vs := [(.int .i64 t_7.1.Num), (.int .i64 t_7.1.Den)]) (cs' := [(.int .i64 t_7.1.Num), (.int .i64 t_7.1.Den)]) 0 0 hF hS sz24 rfl rfl rfl rfl rfl rfl rfl rfl fun a w hF hS => ?_
      refine q_x (v := (.bool t_7.2)) hF hS (ex_assign rfl) rfl rfl fun a hF => ?_
      refine q_end (n_sq ?_)
      refine q_seq ?_
      refine q_seq ?_
      refine q_region ?_
      refine q_x (v := (.bool t_7.2)) hF hS (ex_move rfl) rfl rfl fun a hF => ?_
      refine q_x (v := (.bool (!t_7.2))) hF hS (ex_not rfl) rfl rfl fun a hF => ?_
      refine q_end (n_sq ?_)
      rcases bcase (!t_7.2) with hc3 | hc3
      · have hb1 := cond_f hc3 hb1
        refine q_cond_f hF rfl hc3 ?_
        refine q_skipc (n_sq ?_)
        refine q_region ?_
        refine q_x (v := (.agg #[(.int .i64 t_7.1.Num), (.int .i64 t_7.1.Den)])) hF hS (ex_loadA (vs := [(.int .i64 t_7.1.Num), (.int .i64 t_7.1.Den)]) 0 0 Try.underlying24 rfl sz24 rfl rfl rfl rfl) rfl rfl fun a hF => ?_
        refine q_store (vs := [(.int .i64 t_7.1.Num), (.int .i64 t_7.1.Den)]) (cs' := [(.int .i64 t_7.1.Num), (.int .i64 t_7.1.Den)]) 1 0 hF hS sz24 rfl rfl rfl rfl rfl rfl rfl rfl fun a w hF hS => ?_
        refine q_end (n_ib (n_sq ?_))
        refine q_region ?_
        refine q_x (v := (.int .i64 k_5)) hF hS (ex_move rfl) rfl rfl fun a hF => ?_
        refine q_x (v := (.int .i64 (w64 (k_5 - 1)))) hF hS (ex_ibin rfl rfl rfl) rfl rfl fun a hF => ?_
        refine q_x (v := (.int .i64 (w64 (k_5 - 1)))) hF hS (ex_assign rfl) rfl rfl fun a hF => ?_
        refine q_end ?_
        obtain rfl := someI hb1
        exact ⟨rfl, _, _, rfl, hF.sub ⟨rfl, rfl, rfl, rfl, trivial⟩, hS.mask [false, true, true, true]⟩
      · have hb1 := cond_t hc3 hb1
        refine q_cond_t hF rfl hc3 ?_
        refine q_seq ?_
        refine q_region ?_
        refine q_x (v := (.agg #[(.int .i64 0), (.int .i64 0)])) hF hS (ex_build (cells := [(.int .i64 0), (.int .i64 0)]) rfl (by kernel_rfl)) rfl rfl fun a hF => ?_
        refine q_store (vs := [(.int .i64 0), (.int .i64 0)]) (cs' := [(.int .i64 0), (.int .i64 0)]) 2 0 hF hS sz24 rfl rfl rfl rfl rfl rfl rfl rfl fun a w hF hS => ?_
        refine q_x (v := (.bool false)) hF hS (ex_assign rfl) rfl rfl fun a hF => ?_
        refine q_end (n_sq (q_ret (r_sq (r_ib (r_sq ?_)))))
        obtain rfl := someI hb1
        refine ⟨nofun, .inr fun ho => ?_⟩
        subst ho
        refine r_ib (r_sq ?_)
        obtain rfl := someI hr
        exact ret_of hF hS rfl (.cellA (us := [(.int .i64 0), (.int .i64 0)]) 2 0 Try.underlying24 rfl sz24 rfl rfl rfl rfl (.tmp rfl .nil)) rfl
  · rintro e a w ⟨out_9, rfl, rfl, hF, hS⟩
    refine x_ib (n_sq ?_)
    refine q_seq ?_
    refine q_region ?_
    refine q_x (v := (.agg #[(.int .i64 out_9.Num), (.int .i64 out_9.Den)])) hF hS (ex_loadA (vs := [(.int .i64 out_9.Num), (.int .i64 out_9.Den)]) 0 0 Try.underlying24 rfl sz24 rfl rfl rfl rfl) rfl rfl fun a hF => ?_
    refine q_store (vs := [(.int .i64 out_9.Num), (.int .i64 out_9.Den)]) (cs' := [(.int .i64 out_9.Num), (.int .i64 out_9.Den)]) 1 0 hF hS sz24 rfl rfl rfl rfl rfl rfl rfl rfl fun a w hF hS => ?_
    refine q_x (v := (.bool true)) hF hS (ex_assign rfl) rfl rfl fun a hF => ?_
    refine q_end (n_sq (q_ret ?_))
    obtain rfl := someI hr
    exact ret_of hF hS rfl (.cellA (us := [(.int .i64 out_9.Num), (.int .i64 out_9.Den)]) 1 0 Try.underlying24 rfl sz24 rfl rfl rfl rfl (.tmp rfl .nil)) rfl

theorem c_spec_zMass (p_a : impl_Frac) (p_k : Int) (r : impl_Frac × Bool) (hr : spec_zMass p_a p_k = some r) (w0 : World) (m : Mem) (hv : Vis m w0) :
    Ret Try.prog 128 [(.agg #[(.int .i64 p_a.Num), (.int .i64 p_a.Den)]), (.int .i64 p_k)] w0 (fun v _ => v = (.tuple #[(.agg #[(.int .i64 r.1.Num), (.int .i64 r.1.Den)]), (.bool r.2)])) := by
  unfold spec_zMass at hr
  refine ret_start Try.func128 rfl 34 rfl rfl m hv fun a hF hS => ?_
  refine q_seq ?_
  refine q_region ?_
  refine q_box (cs := [(.int .i64 p_a.Num), (.int .i64 p_a.Den)]) hF hS rfl rfl rfl fun a w b1 hF hS => ?_
  refine q_alloc (cs := [(.int .i64 0), (.int .i64 0)]) hF hS rfl rfl rfl fun a w b2 hF hS => ?_
  refine q_x (v := (.bool false)) hF hS (ex_assign rfl) rfl rfl fun a hF => ?_
  refine q_end (n_sq ?_)
  refine q_seq ?_
  refine q_region ?_
  refine q_x (v := (.agg #[(.int .i64 p_a.Num), (.int .i64 p_a.Den)])) hF hS (ex_loadA (vs := [(.int .i64 p_a.Num), (.int .i64 p_a.Den)]) 1 0 Try.underlying24 rfl sz24 rfl rfl rfl rfl) rfl rfl fun a hF => ?_
  obtain ⟨t_3, ht_3, hr⟩ := bindS hr
  refine q_call (vs := [(.agg #[(.int .i64 p_a.Num), (.int .i64 p_a.Den)])]) hF hS Try.func166 (by kernel_rfl) rfl rfl rfl (c_spec_zBase p_a t_3 ht_3 _ m hS.vis) ?_
  rintro a w _ rfl hF hS
  refine q_x (v := (.tuple #[(.agg #[(.int .i64 t_3.1.Num), (.int .i64 t_3.1.Den)]), (.bool t_3.2)])) hF hS (ex_move rfl) rfl rfl fun a hF => ?_
  refine q_x (v := (.agg #[(.int .i64 t_3.1.Num), (.int .i64 t_3.1.Den)])) hF hS (ex_extract rfl rfl) rfl rfl fun a hF => ?_
  refine q_x (v := (.bool t_3.2)) hF hS (ex_extract rfl rfl) rfl rfl fun a hF => ?_
  refine q_alloc (cs := [(.int .i64 0), (.int .i64 0)]) hF hS rfl rfl rfl fun a w b4 hF hS => ?_
  refine q_store (vs := [(.int .i64 t_3.1.Num), (.int .i64 t_3.1.Den)]) (cs' := [(.int .i64 t_3.1.Num), (.int .i64 t_3.1.Den)]) 0 0 hF hS sz24 rfl rfl rfl rfl rfl rfl rfl rfl fun a w hF hS => ?_
  refine q_x (v := (.bool t_3.2)) hF hS (ex_assign rfl) rfl rfl fun a hF => ?_
  refine q_end (n_sq ?_)
  refine q_seq ?_
  obtain ⟨j1, hj1, hr⟩ := bindS hr
  refine q_join (fun a w => ∃ b8, ∃ two_9, ∃ y_10, j1 = (two_9, y_10) ∧ Fr a 34 [(4, (.pointer (some ⟨b2, 0, none⟩))), (6, (.pointer (some ⟨b4, 0, none⟩))), (7, (.bool t_3.2)), (8, (.pointer (some ⟨b8, 0, none⟩))), (9, (.bool two_9))] ∧ St [] w0 w m [[⟨b8, [(.int .i64 y_10.Num), (.int .i64 y_10.Den)], 24⟩], [⟨b4, [(.int .i64 t_3.1.Num), (.int .i64 t_3.1.Den)], 24⟩], [⟨b2, [(.int .i64 0), (.int .i64 0)], 24⟩]]) ?_ ?_
  · refine e_region [8] mixed fun w' hw' => ?_
    have hS := hS.below hw'
    refine e_x (v := (.agg #[(.int .i64 p_a.Num), (.int .i64 p_a.Den)])) 0 hF hS rfl (ex_loadA (vs := [(.int .i64 p_a.Num), (.int .i64 p_a.Den)]) 2 0 Try.underlying24 rfl sz24 rfl rfl rfl rfl) rfl rfl (by kernel_rfl) (by kernel_rfl) (by kernel_rfl) (by kernel_rfl) fun a hF => ?_
    refine e_p (v := (.int .i64 p_k)) 1 hF rfl (ex_move rfl) rfl rfl (by kernel_rfl) (by kernel_rfl) (by kernel_rfl) fun a hF => ?_
    obtain ⟨t_6, ht_6, hj1⟩ := bindS hj1
    obtain ⟨t_7, ht_7, hj1⟩ := bindS hj1
    refine e_all [2, 7] (by kernel_rfl) rfl ⟨?_, ?_, trivial⟩
    · refine e_call (vs := [(.int .i64 p_k)]) hF hS rfl Try.func167 (by kernel_rfl) rfl rfl rfl (c_spec_l1Abs p_k t_6 ht_6 _ m hS.vis) ?_
      rintro a w _ rfl hF hS
      refine e_all [3, 7] (by kernel_rfl) rfl ⟨?_, ?_, trivial⟩
      · refine e_call (vs := [(.agg #[(.int .i64 p_a.Num), (.int .i64 p_a.Den)]), (.int .i64 t_6)]) hF hS rfl Try.func105 (by kernel_rfl) rfl rfl rfl (c_spec_fPow p_a t_6 t_7 ht_7 _ m hS.vis) ?_
        rintro a w _ rfl hF hS
        refine e_p (v := (.tuple #[(.agg #[(.int .i64 t_7.1.Num), (.int .i64 t_7.1.Den)]), (.bool t_7.2)])) 4 hF rfl (ex_move rfl) rfl rfl (by kernel_rfl) (by kernel_rfl) (by kernel_rfl) fun a hF => ?_
        refine e_p (v := (.agg #[(.int .i64 t_7.1.Num), (.int .i64 t_7.1.Den)])) 5 hF rfl (ex_extract rfl rfl) rfl rfl (by kernel_rfl) (by kernel_rfl) (by kernel_rfl) fun a hF => ?_
        refine e_p (v := (.bool t_7.2)) 6 hF rfl (ex_extract rfl rfl) rfl rfl (by kernel_rfl) (by kernel_rfl) (by kernel_rfl) fun a hF => ?_
        refine e_one 7 (by kernel_rfl) ?_
        refine e_alloc (cs := [(.int .i64 0), (.int .i64 0)]) hF hS rfl rfl rfl rfl fun a w b8 hF hS => ?_
        refine e_one 8 (by kernel_rfl) ?_
        refine e_store (vs := [(.int .i64 t_7.1.Num), (.int .i64 t_7.1.Den)]) (cs' := [(.int .i64 t_7.1.Num), (.int .i64 t_7.1.Den)]) 0 0 hF hS rfl rfl sz24 rfl rfl rfl rfl rfl rfl rfl rfl fun a w hF hS => ?_
        refine e_p (v := (.bool t_7.2)) 9 hF rfl (ex_assign rfl) rfl rfl (by kernel_rfl) (by kernel_rfl) (by kernel_rfl) fun a hF => ?_
        refine e_end (by kernel_rfl) (n_jn ?_) _
        obtain rfl := someI hj1
        exact ⟨b8, _, _, rfl, hF.sub ⟨rfl, rfl, rfl, rfl, rfl, trivial⟩, hS.mask [true, true, true, false]⟩
      · refine e_alloc (cs := [(.int .i64 0), (.int .i64 0)]) hF hS rfl rfl rfl rfl fun a w b8 hF hS => ?_
        refine e_one 3 (by kernel_rfl) ?_
        refine e_call (vs := [(.agg #[(.int .i64 p_a.Num), (.int .i64 p_a.Den)]), (.int .i64 t_6)]) hF hS rfl Try.func105 (by kernel_rfl) rfl rfl rfl (c_spec_fPow p_a t_6 t_7 ht_7 _ m hS.vis) ?_
        rintro a w _ rfl hF hS
        refine e_p (v := (.tuple #[(.agg #[(.int .i64 t_7.1.Num), (.int .i64 t_7.1.Den)]), (.bool t_7.2)])) 4 hF rfl (ex_move rfl) rfl rfl (by kernel_rfl) (by kernel_rfl) (by kernel_rfl) fun a hF => ?_
        refine e_p (v := (.agg #[(.int .i64 t_7.1.Num), (.int .i64 t_7.1.Den)])) 5 hF rfl (ex_extract rfl rfl) rfl rfl (by kernel_rfl) (by kernel_rfl) (by kernel_rfl) fun a hF => ?_
        refine e_p (v := (.bool t_7.2)) 6 hF rfl (ex_extract rfl rfl) rfl rfl (by kernel_rfl) (by kernel_rfl) (by kernel_rfl) fun a hF => ?_
        refine e_one 8 (by kernel_rfl) ?_
        refine e_store (vs := [(.int .i64 t_7.1.Num), (.int .i64 t_7.1.Den)]) (cs' := [(.int .i64 t_7.1.Num), (.int .i64 t_7.1.Den)]) 0 0 hF hS rfl rfl sz24 rfl rfl rfl rfl rfl rfl rfl rfl fun a w hF hS => ?_
        refine e_p (v := (.bool t_7.2)) 9 hF rfl (ex_assign rfl) rfl rfl (by kernel_rfl) (by kernel_rfl) (by kernel_rfl) fun a hF => ?_
        refine e_end (by kernel_rfl) (n_jn ?_) _
        obtain rfl := someI hj1
        exact ⟨b8, _, _, rfl, hF.sub ⟨rfl, rfl, rfl, rfl, rfl, trivial⟩, hS.mask [true, true, true, false]⟩
    · refine e_alloc (cs := [(.int .i64 0), (.int .i64 0)]) hF hS rfl rfl rfl rfl fun a w b8 hF hS => ?_
      refine e_one 2 (by kernel_rfl) ?_
      refine e_call (vs := [(.int .i64 p_k)]) hF hS rfl Try.func167 (by kernel_rfl) rfl rfl rfl (c_spec_l1Abs p_k t_6 ht_6 _ m hS.vis) ?_
      rintro a w _ rfl hF hS
      refine e_one 3 (by kernel_rfl) ?_
      refine e_call (vs := [(.agg #[(.int .i64 p_a.Num), (.int .i64 p_a.Den)]), (.int .i64 t_6)]) hF hS rfl Try.func105 (by kernel_rfl) rfl rfl rfl (c_spec_fPow p_a t_6 t_7 ht_7 _ m hS.vis) ?_
      rintro a w _ rfl hF hS
      refine e_p (v := (.tuple #[(.agg #[(.int .i64 t_7.1.Num), (.int .i64 t_7.1.Den)]), (.bool t_7.2)])) 4 hF rfl (ex_move rfl) rfl rfl (by kernel_rfl) (by kernel_rfl) (by kernel_rfl) fun a hF => ?_
      refine e_p (v := (.agg #[(.int .i64 t_7.1.Num), (.int .i64 t_7.1.Den)])) 5 hF rfl (ex_extract rfl rfl) rfl rfl (by kernel_rfl) (by kernel_rfl) (by kernel_rfl) fun a hF => ?_
      refine e_p (v := (.bool t_7.2)) 6 hF rfl (ex_extract rfl rfl) rfl rfl (by kernel_rfl) (by kernel_rfl) (by kernel_rfl) fun a hF => ?_
      refine e_one 8 (by kernel_rfl) ?_
      refine e_store (vs := [(.int .i64 t_7.1.Num), (.int .i64 t_7.1.Den)]) (cs' := [(.int .i64 t_7.1.Num), (.int .i64 t_7.1.Den)]) 0 0 hF hS rfl rfl sz24 rfl rfl rfl rfl rfl rfl rfl rfl fun a w hF hS => ?_
      refine e_p (v := (.bool t_7.2)) 9 hF rfl (ex_assign rfl) rfl rfl (by kernel_rfl) (by kernel_rfl) (by kernel_rfl) fun a hF => ?_
      refine e_end (by kernel_rfl) (n_jn ?_) _
      obtain rfl := someI hj1
      exact ⟨b8, _, _, rfl, hF.sub ⟨rfl, rfl, rfl, rfl, rfl, trivial⟩, hS.mask [true, true, true, false]⟩
  · rintro a w ⟨b8, two_9, y_10, rfl, hF, hS⟩
    refine n_sq ?_
    refine q_seq ?_
    refine q_seq ?_
    obtain ⟨t_11, hj2, hr⟩ := bindS hr
    refine q_join (fun a w => Fr a 34 [(4, (.pointer (some ⟨b2, 0, none⟩))), (6, (.pointer (some ⟨b4, 0, none⟩))), (8, (.pointer (some ⟨b8, 0, none⟩))), (27, (.bool t_11))] ∧ St [] w0 w m [[⟨b8, [(.int .i64 y_10.Num), (.int .i64 y_10.Den)], 24⟩], [⟨b4, [(.int .i64 t_3.1.Num), (.int .i64 t_3.1.Den)], 24⟩], [⟨b2, [(.int .i64 0), (.int .i64 0)], 24⟩]]) ?_ ?_
    · refine q_region ?_
      refine q_x (v := (.bool t_3.2)) hF hS (ex_move rfl) rfl rfl fun a hF => ?_
      refine q_x (v := (.bool (!t_3.2))) hF hS (ex_not rfl) rfl rfl fun a hF => ?_
      refine q_x (v := (.bool (!t_3.2))) hF hS (ex_move rfl) rfl rfl fun a hF => ?_
      rcases bcase (!t_3.2) with hc3 | hc3
      · have hj2 := cond_f hc3 hj2
        refine q_xg (v := (.bool two_9)) hF hS (ex_move rfl) (wanted_t hF rfl rfl rfl hc3) rfl fun a hF => ?_
        refine q_xg (v := (.bool (!two_9))) hF hS (ex_not rfl) (wanted_t hF rfl rfl rfl hc3) rfl fun a hF => ?_
        refine q_x (v := (.bool (!two_9))) hF hS (ex_pick_f rfl rfl hc3) rfl rfl fun a hF => ?_
        refine q_end (n_jn ?_)
        obtain rfl := someI hj2
        exact ⟨hF.sub ⟨rfl, rfl, rfl, rfl, trivial⟩, hS⟩
      · have hj2 := cond_t hc3 hj2
        refine q_skip hF (wanted_f hF rfl rfl rfl hc3 rfl) rfl fun a hF => ?_
        refine q_skip hF (wanted_f hF rfl rfl rfl hc3 rfl) rfl fun a hF => ?_
        refine q_x (v := (.bool true)) hF hS (ex_pick_t rfl rfl hc3) rfl rfl fun a hF => ?_
        refine q_end (n_jn ?_)
        obtain rfl := someI hj2
        exact ⟨hF.sub ⟨rfl, rfl, rfl, rfl, trivial⟩, hS⟩
    · rintro a w ⟨hF, hS⟩
      refine n_sq ?_
      rcases bcase (t_11) with hc4 | hc4
      · have hr := cond_f hc4 hr
        refine q_cond_f hF rfl hc4 ?_
        refine q_skipc (n_sq ?_)
        refine q_seq ?_
        refine q_region ?_
        refine q_x (v := (.agg #[(.int .i64 t_3.1.Num), (.int .i64 t_3.1.Den)])) hF hS (ex_loadA (vs := [(.int .i64 t_3.1.Num), (.int .i64 t_3.1.Den)]) 1 0 Try.underlying24 rfl sz24 rfl rfl rfl rfl) rfl rfl fun a hF => ?_
        refine q_x (v := (.agg #[(.int .i64 y_10.Num), (.int .i64 y_10.Den)])) hF hS (ex_loadA (vs := [(.int .i64 y_10.Num), (.int .i64 y_10.Den)]) 0 0 Try.underlying24 rfl sz24 rfl rfl rfl rfl) rfl rfl fun a hF => ?_
        obtain ⟨t_12, ht_12, hr⟩ := bindS hr
        refine q_call (vs := [(.agg #[(.int .i64 t_3.1.Num), (.int .i64 t_3.1.Den)]), (.agg #[(.int .i64 y_10.Num), (.int .i64 y_10.Den)])]) hF hS Try.func106 (by kernel_rfl) rfl rfl rfl (c_spec_fMul t_3.1 y_10 t_12 ht_12 _ m hS.vis) ?_
        rintro a w _ rfl hF hS
        refine q_x (v := (.agg #[(.int .i64 t_12.1.Num), (.int .i64 t_12.1.Den)])) hF hS (ex_extract rfl rfl) rfl rfl fun a hF => ?_
        refine q_x (v := (.bool t_12.2)) hF hS (ex_extract rfl rfl) rfl rfl fun a hF => ?_
        refine q_store (vs := [(.int .i64 t_12.1.Num), (.int .i64 t_12.1.Den)]) (cs' := [(.int .i64 t_12.1.Num), (.int .i64 t_12.1.Den)]) 2 0 hF hS sz24 rfl rfl rfl rfl rfl rfl rfl rfl fun a w hF hS => ?_
        refine q_x (v := (.bool t_12.2)) hF hS (ex_assign rfl) rfl rfl fun a hF => ?_
        refine q_end (n_sq (q_ret ?_))
        obtain rfl := someI hr
        exact ret_of hF hS rfl (.cellA (us := [(.int .i64 t_12.1.Num), (.int .i64 t_12.1.Den)]) 2 0 Try.underlying24 rfl sz24 rfl rfl rfl rfl (.tmp rfl .nil)) rfl
      · have hr := cond_t hc4 hr
        refine q_cond_t hF rfl hc4 ?_
        refine q_seq ?_
        refine q_region ?_
        refine q_x (v := (.agg #[(.int .i64 0), (.int .i64 0)])) hF hS (ex_build (cells := [(.int .i64 0), (.int .i64 0)]) rfl (by kernel_rfl)) rfl rfl fun a hF => ?_
        refine q_store (vs := [(.int .i64 0), (.int .i64 0)]) (cs' := [(.int .i64 0), (.int .i64 0)]) 2 0 hF hS sz24 rfl rfl rfl rfl rfl rfl rfl rfl fun a w hF hS => ?_
        refine q_x (v := (.bool false)) hF hS (ex_assign rfl) rfl rfl fun a hF => ?_
        refine q_end (n_sq (q_ret (r_sq ?_)))
        obtain rfl := someI hr
        exact ret_of hF hS rfl (.cellA (us := [(.int .i64 0), (.int .i64 0)]) 2 0 Try.underlying24 rfl sz24 rfl rfl rfl rfl (.tmp rfl .nil)) rfl

theorem c_spec_zTail (p_a : impl_Frac) (p_k : Int) (r : impl_Frac × Bool) (hr : spec_zTail p_a p_k = some r) (w0 : World) (m : Mem) (hv : Vis m w0) :
    Ret Try.prog 130 [(.agg #[(.int .i64 p_a.Num), (.int .i64 p_a.Den)]), (.int .i64 p_k)] w0 (fun v _ => v = (.tuple #[(.agg #[(.int .i64 r.1.Num), (.int .i64 r.1.Den)]), (.bool r.2)])) := by
  unfold spec_zTail at hr
  refine ret_start Try.func130 rfl 34 rfl rfl m hv fun a hF hS => ?_
  refine q_seq ?_
  refine q_region ?_
  refine q_box (cs := [(.int .i64 p_a.Num), (.int .i64 p_a.Den)]) hF hS rfl rfl rfl fun a w b1 hF hS => ?_
  refine q_alloc (cs := [(.int .i64 0), (.int .i64 0)]) hF hS rfl rfl rfl fun a w b2 hF hS => ?_
  refine q_x (v := (.bool false)) hF hS (ex_assign rfl) rfl rfl fun a hF => ?_
  refine q_end (n_sq ?_)
  refine q_seq ?_
  refine q_region ?_
  refine q_x (v := (.agg #[(.int .i64 p_a.Num), (.int .i64 p_a.Den)])) hF hS (ex_loadA (vs := [(.int .i64 p_a.Num), (.int .i64 p_a.Den)]) 1 0 Try.underlying24 rfl sz24 rfl rfl rfl rfl) rfl rfl fun a hF => ?_
  refine q_x (v := (.int .i64 p_k)) hF hS (ex_move rfl) rfl rfl fun a hF => ?_
  obtain ⟨t_3, ht_3, hr⟩ := bindS hr
  refine q_call (vs := [(.agg #[(.int .i64 p_a.Num), (.int .i64 p_a.Den)]), (.int .i64 p_k)]) hF hS Try.func105 (by kernel_rfl) rfl rfl rfl (c_spec_fPow p_a p_k t_3 ht_3 _ m hS.vis) ?_
  rintro a w _ rfl hF hS
  refine q_x (v := (.tuple #[(.agg #[(.int .i64 t_3.1.Num), (.int .i64 t_3.1.Den)]), (.bool t_3.2)])) hF hS (ex_move rfl) rfl rfl fun a hF => ?_
  refine q_x (v := (.agg #[(.int .i64 t_3.1.Num), (.int .i64 t_3.1.Den)])) hF hS (ex_extract rfl rfl) rfl rfl fun a hF => ?_
  refine q_x (v := (.bool t_3.2)) hF hS (ex_extract rfl rfl) rfl rfl fun a hF => ?_
  refine q_alloc (cs := [(.int .i64 0), (.int .i64 0)]) hF hS rfl rfl rfl fun a w b4 hF hS => ?_
  refine q_store (vs := [(.int .i64 t_3.1.Num), (.int .i64 t_3.1.Den)]) (cs' := [(.int .i64 t_3.1.Num), (.int .i64 t_3.1.Den)]) 0 0 hF hS sz24 rfl rfl rfl rfl rfl rfl rfl rfl fun a w hF hS => ?_
  refine q_x (v := (.bool t_3.2)) hF hS (ex_assign rfl) rfl rfl fun a hF => ?_
  refine q_end (n_sq ?_)
  refine q_seq ?_
  obtain ⟨j1, hj1, hr⟩ := bindS hr
  refine q_join (fun a w => ∃ b9, ∃ two_10, ∃ y_11, j1 = (two_10, y_11) ∧ Fr a 34 [(4, (.pointer (some ⟨b2, 0, none⟩))), (6, (.pointer (some ⟨b4, 0, none⟩))), (7, (.bool t_3.2)), (8, (.pointer (some ⟨b9, 0, none⟩))), (9, (.bool two_10))] ∧ St [] w0 w m [[⟨b9, [(.int .i64 y_11.Num), (.int .i64 y_11.Den)], 24⟩], [⟨b4, [(.int .i64 t_3.1.Num), (.int .i64 t_3.1.Den)], 24⟩], [⟨b2, [(.int .i64 0), (.int .i64 0)], 24⟩]]) ?_ ?_
  · refine e_region [7] mixed fun w' hw' => ?_
    have hS := hS.below hw'
    refine e_x (v := (.agg #[(.int .i64 p_a.Num), (.int .i64 p_a.Den)])) 1 hF hS rfl (ex_loadA (vs := [(.int .i64 p_a.Num), (.int .i64 p_a.Den)]) 2 0 Try.underlying24 rfl sz24 rfl rfl rfl rfl) rfl rfl (by kernel_rfl) (by kernel_rfl) (by kernel_rfl) (by kernel_rfl) fun a hF => ?_
    obtain ⟨t_7, ht_7, hj1⟩ := bindS hj1
    obtain ⟨t_8, ht_8, hj1⟩ := bindS hj1
    refine e_all [0, 6] (by kernel_rfl) rfl ⟨?_, ?_, trivial⟩
    · refine e_call (vs := [(.int .i64 1)]) hF hS rfl Try.func107 (by kernel_rfl) rfl rfl rfl (c_spec_fInt 1 t_7 ht_7 _ m hS.vis) ?_
      rintro a w _ rfl hF hS
      refine e_all [2, 6] (by kernel_rfl) rfl ⟨?_, ?_, trivial⟩
      · refine e_call (vs := [(.agg #[(.int .i64 t_7.Num), (.int .i64 t_7.Den)]), (.agg #[(.int .i64 p_a.Num), (.int .i64 p_a.Den)])]) hF hS rfl Try.func156 (by kernel_rfl) rfl rfl rfl (c_spec_fAdd t_7 p_a t_8 ht_8 _ m hS.vis) ?_
        rintro a w _ rfl hF hS
        refine e_p (v := (.tuple #[(.agg #[(.int .i64 t_8.1.Num), (.int .i64 t_8.1.Den)]), (.bool t_8.2)])) 3 hF rfl (ex_move rfl) rfl rfl (by kernel_rfl) (by kernel_rfl) (by kernel_rfl) fun a hF => ?_
        refine e_p (v := (.agg #[(.int .i64 t_8.1.Num), (.int .i64 t_8.1.Den)])) 4 hF rfl (ex_extract rfl rfl) rfl rfl (by kernel_rfl) (by kernel_rfl) (by kernel_rfl) fun a hF => ?_
        refine e_p (v := (.bool t_8.2)) 5 hF rfl (ex_extract rfl rfl) rfl rfl (by kernel_rfl) (by kernel_rfl) (by kernel_rfl) fun a hF => ?_
        refine e_one 6 (by kernel_rfl) ?_
        refine e_alloc (cs := [(.int .i64 0), (.int .i64 0)]) hF hS rfl rfl rfl rfl fun a w b9 hF hS => ?_
        refine e_one 7 (by kernel_rfl) ?_
        refine e_store (vs := [(.int .i64 t_8.1.Num), (.int .i64 t_8.1.Den)]) (cs' := [(.int .i64 t_8.1.Num), (.int .i64 t_8.1.Den)]) 0 0 hF hS rfl rfl sz24 rfl rfl rfl rfl rfl rfl rfl rfl fun a w hF hS => ?_
        refine e_p (v := (.bool t_8.2)) 8 hF rfl (ex_assign rfl) rfl rfl (by kernel_rfl) (by kernel_rfl) (by kernel_rfl) fun a hF => ?_
        refine e_end (by kernel_rfl) (n_jn ?_) _
        obtain rfl := someI hj1
        exact ⟨b9, _, _, rfl, hF.sub ⟨rfl, rfl, rfl, rfl, rfl, trivial⟩, hS.mask [true, true, true, false]⟩
      · refine e_alloc (cs := [(.int .i64 0), (.int .i64 0)]) hF hS rfl rfl rfl rfl fun a w b9 hF hS => ?_
        refine e_one 2 (by kernel_rfl) ?_
        refine e_call (vs := [(.agg #[(.int .i64 t_7.Num), (.int .i64 t_7.Den)]), (.agg #[(.int .i64 p_a.Num), (.int .i64 p_a.Den)])]) hF hS rfl Try.func156 (by kernel_rfl) rfl rfl rfl (c_spec_fAdd t_7 p_a t_8 ht_8 _ m hS.vis) ?_
        rintro a w _ rfl hF hS
        refine e_p (v := (.tuple #[(.agg #[(.int .i64 t_8.1.Num), (.int .i64 t_8.1.Den)]), (.bool t_8.2)])) 3 hF rfl (ex_move rfl) rfl rfl (by kernel_rfl) (by kernel_rfl) (by kernel_rfl) fun a hF => ?_
        refine e_p (v := (.agg #[(.int .i64 t_8.1.Num), (.int .i64 t_8.1.Den)])) 4 hF rfl (ex_extract rfl rfl) rfl rfl (by kernel_rfl) (by kernel_rfl) (by kernel_rfl) fun a hF => ?_
        refine e_p (v := (.bool t_8.2)) 5 hF rfl (ex_extract rfl rfl) rfl rfl (by kernel_rfl) (by kernel_rfl) (by kernel_rfl) fun a hF => ?_
        refine e_one 7 (by kernel_rfl) ?_
        refine e_store (vs := [(.int .i64 t_8.1.Num), (.int .i64 t_8.1.Den)]) (cs' := [(.int .i64 t_8.1.Num), (.int .i64 t_8.1.Den)]) 0 0 hF hS rfl rfl sz24 rfl rfl rfl rfl rfl rfl rfl rfl fun a w hF hS => ?_
        refine e_p (v := (.bool t_8.2)) 8 hF rfl (ex_assign rfl) rfl rfl (by kernel_rfl) (by kernel_rfl) (by kernel_rfl) fun a hF => ?_
        refine e_end (by kernel_rfl) (n_jn ?_) _
        obtain rfl := someI hj1
        exact ⟨b9, _, _, rfl, hF.sub ⟨rfl, rfl, rfl, rfl, rfl, trivial⟩, hS.mask [true, true, true, false]⟩
    · refine e_alloc (cs := [(.int .i64 0), (.int .i64 0)]) hF hS rfl rfl rfl rfl fun a w b9 hF hS => ?_
      refine e_one 0 (by kernel_rfl) ?_
      refine e_call (vs := [(.int .i64 1)]) hF hS rfl Try.func107 (by kernel_rfl) rfl rfl rfl (c_spec_fInt 1 t_7 ht_7 _ m hS.vis) ?_
      rintro a w _ rfl hF hS
      refine e_one 2 (by kernel_rfl) ?_
      refine e_call (vs := [(.agg #[(.int .i64 t_7.Num), (.int .i64 t_7.Den)]), (.agg #[(.int .i64 p_a.Num), (.int .i64 p_a.Den)])]) hF hS rfl Try.func156 (by kernel_rfl) rfl rfl rfl (c_spec_fAdd t_7 p_a t_8 ht_8 _ m hS.vis) ?_
      rintro a w _ rfl hF hS
      refine e_p (v := (.tuple #[(.agg #[(.int .i64 t_8.1.Num), (.int .i64 t_8.1.Den)]), (.bool t_8.2)])) 3 hF rfl (ex_move rfl) rfl rfl (by kernel_rfl) (by kernel_rfl) (by kernel_rfl) fun a hF => ?_
      refine e_p (v := (.agg #[(.int .i64 t_8.1.Num), (.int .i64 t_8.1.Den)])) 4 hF rfl (ex_extract rfl rfl) rfl rfl (by kernel_rfl) (by kernel_rfl) (by kernel_rfl) fun a hF => ?_
      refine e_p (v := (.bool t_8.2)) 5 hF rfl (ex_extract rfl rfl) rfl rfl (by kernel_rfl) (by kernel_rfl) (by kernel_rfl) fun a hF => ?_
      refine e_one 7 (by kernel_rfl) ?_
      refine e_store (vs := [(.int .i64 t_8.1.Num), (.int .i64 t_8.1.Den)]) (cs' := [(.int .i64 t_8.1.Num), (.int .i64 t_8.1.Den)]) 0 0 hF hS rfl rfl sz24 rfl rfl rfl rfl rfl rfl rfl rfl fun a w hF hS => ?_
      refine e_p (v := (.bool t_8.2)) 8 hF rfl (ex_assign rfl) rfl rfl (by kernel_rfl) (by kernel_rfl) (by kernel_rfl) fun a hF => ?_
      refine e_end (by kernel_rfl) (n_jn ?_) _
      obtain rfl := someI hj1
      exact ⟨b9, _, _, rfl, hF.sub ⟨rfl, rfl, rfl, rfl, rfl, trivial⟩, hS.mask [true, true, true, false]⟩
  · rintro a w ⟨b9, two_10, y_11, rfl, hF, hS⟩
    refine n_sq ?_
    refine q_seq ?_
    refine q_seq ?_
    obtain ⟨t_12, hj2, hr⟩ := bindS hr
    refine q_join (fun a w => Fr a 34 [(4, (.pointer (some ⟨b2, 0, none⟩))), (6, (.pointer (some ⟨b4, 0, none⟩))), (8, (.pointer (some ⟨b9, 0, none⟩))), (27, (.bool t_12))] ∧ St [] w0 w m [[⟨b9, [(.int .i64 y_11.Num), (.int .i64 y_11.Den)], 24⟩], [⟨b4, [(.int .i64 t_3.1.Num), (.int .i64 t_3.1.Den)], 24⟩], [⟨b2, [(.int .i64 0), (.int .i64 0)], 24⟩]]) ?_ ?_
    · refine q_region ?_
      refine q_x (v := (.bool t_3.2)) hF hS (ex_move rfl) rfl rfl fun a hF => ?_
      refine q_x (v := (.bool (!t_3.2))) hF hS (ex_not rfl) rfl rfl fun a hF => ?_
      refine q_x (v := (.bool (!t_3.2))) hF hS (ex_move rfl) rfl rfl fun a hF => ?_
      rcases bcase (!t_3.2) with hc3 | hc3
      · have hj2 := cond_f hc3 hj2
        refine q_xg (v := (.bool two_10)) hF hS (ex_move rfl) (wanted_t hF rfl rfl rfl hc3) rfl fun a hF => ?_
        refine q_xg (v := (.bool (!two_10))) hF hS (ex_not rfl) (wanted_t hF rfl rfl rfl hc3) rfl fun a hF => ?_
        refine q_x (v := (.bool (!two_10))) hF hS (ex_pick_f rfl rfl hc3) rfl rfl fun a hF => ?_
        refine q_end (n_jn ?_)
        obtain rfl := someI hj2
        exact ⟨hF.sub ⟨rfl, rfl, rfl, rfl, trivial⟩, hS⟩
      · have hj2 := cond_t hc3 hj2
        refine q_skip hF (wanted_f hF rfl rfl rfl hc3 rfl) rfl fun a hF => ?_
        refine q_skip hF (wanted_f hF rfl rfl rfl hc3 rfl) rfl fun a hF => ?_
        refine q_x (v := (.bool true)) hF hS (ex_pick_t rfl rfl hc3) rfl rfl fun a hF => ?_
        refine q_end (n_jn ?_)
        obtain rfl := someI hj2
        exact ⟨hF.sub ⟨rfl, rfl, rfl, rfl, trivial⟩, hS⟩
    · rintro a w ⟨hF, hS⟩
      refine n_sq ?_
      rcases bcase (t_12) with hc4 | hc4
      · have hr := cond_f hc4 hr
        refine q_cond_f hF rfl hc4 ?_
        refine q_skipc (n_sq ?_)
        refine q_seq ?_
        refine q_region ?_
        refine q_x (v := (.agg #[(.int .i64 t_3.1.Num), (.int .i64 t_3.1.Den)])) hF hS (ex_loadA (vs := [(.int .i64 t_3.1.Num), (.int .i64 t_3.1.Den)]) 1 0 Try.underlying24 rfl sz24 rfl rfl rfl rfl) rfl rfl fun a hF => ?_
        refine q_x (v := (.agg #[(.int .i64 y_11.Num), (.int .i64 y_11.Den)])) hF hS (ex_loadA (vs := [(.int .i64 y_11.Num), (.int .i64 y_11.Den)]) 0 0 Try.underlying24 rfl sz24 rfl rfl rfl rfl) rfl rfl fun a hF => ?_
        obtain ⟨t_13, ht_13, hr⟩ := bindS hr
        refine q_call (vs := [(.agg #[(.int .i64 t_3.1.Num), (.int .i64 t_3.1.Den)]), (.agg #[(.int .i64 y_11.Num), (.int .i64 y_11.Den)])]) hF hS Try.func84 (by kernel_rfl) rfl rfl rfl (c_spec_fDiv t_3.1 y_11 t_13 ht_13 _ m hS.vis) ?_
        rintro a w _ rfl hF hS
        refine q_x (v := (.agg #[(.int .i64 t_13.1.Num), (.int .i64 t_13.1.Den)])) hF hS (ex_extract rfl rfl) rfl rfl fun a hF => ?_
        refine q_x (v := (.bool t_13.2)) hF hS (ex_extract rfl rfl) rfl rfl fun a hF => ?_
        refine q_store (vs := [(.int .i64 t_13.1.Num), (.int .i64 t_13.1.Den)]) (cs' := [(.int .i64 t_13.1.Num), (.int .i64 t_13.1.Den)]) 2 0 hF hS sz24 rfl rfl rfl rfl rfl rfl rfl rfl fun a w hF hS => ?_
        refine q_x (v := (.bool t_13.2)) hF hS (ex_assign rfl) rfl rfl fun a hF => ?_
        refine q_end (n_sq (q_ret ?_))
        obtain rfl := someI hr
        exact ret_of hF hS rfl (.cellA (us := [(.int .i64 t_13.1.Num), (.int .i64 t_13.1.Den)]) 2 0 Try.underlying24 rfl sz24 rfl rfl rfl rfl (.tmp rfl .nil)) rfl
      · have hr := cond_t hc4 hr
        refine q_cond_t hF rfl hc4 ?_
        refine q_seq ?_
        refine q_region ?_
        refine q_x (v := (.agg #[(.int .i64 0), (.int .i64 0)])) hF hS (ex_build (cells := [(.int .i64 0), (.int .i64 0)]) rfl (by kernel_rfl)) rfl rfl fun a hF => ?_
        refine q_store (vs := [(.int .i64 0), (.int .i64 0)]) (cs' := [(.int .i64 0), (.int .i64 0)]) 2 0 hF hS sz24 rfl rfl rfl rfl rfl rfl rfl rfl fun a w hF hS => ?_
        refine q_x (v := (.bool false)) hF hS (ex_assign rfl) rfl rfl fun a hF => ?_
        refine q_end (n_sq (q_ret (r_sq ?_)))
        obtain rfl := someI hr
        exact ret_of hF hS rfl (.cellA (us := [(.int .i64 0), (.int .i64 0)]) 2 0 Try.underlying24 rfl sz24 rfl rfl rfl rfl (.tmp rfl .nil)) rfl

theorem c_spec_zClamped (p_a : impl_Frac) (p_lo : Int) (p_hi : Int) (p_x : Int) (r : (List impl_Frac) × Bool) (hr : spec_zClamped p_a p_lo p_hi p_x = some r) (w0 : World) (m : Mem) (hv : Vis m w0) :
    Ret Try.prog 125 [(.agg #[(.int .i64 p_a.Num), (.int .i64 p_a.Den)]), (.int .i64 p_lo), (.int .i64 p_hi), (.int .i64 p_x)] w0 (fun v w => ∃ (q0' : Piece) (s0' : Sl), v = (.tuple #[s0'.v, (.bool r.2)]) ∧ St [] w0 w m [q0'] ∧ OwnL m 24 q0' s0' r.1) := by
  unfold spec_zClamped at hr
  refine ret_start Try.func125 rfl 62 rfl rfl m hv fun a hF hS => ?_
  refine q_seq ?_
  refine q_region ?_
  refine q_box (cs := [(.int .i64 p_a.Num), (.int .i64 p_a.Den)]) hF hS rfl rfl rfl fun a w b1 hF hS => ?_
  refine q_x (v := nilS.v) hF hS (ex_assign rfl) rfl rfl fun a hF => ?_
  refine q_x (v := (.bool false)) hF hS (ex_assign rfl) rfl rfl fun a hF => ?_
  refine q_end (n_sq ?_)
  refine q_seq ?_
  refine q_seq ?_
  refine q_region ?_
  refine q_x (v := (.int .i64 p_lo)) hF hS (ex_move rfl) rfl rfl fun a hF => ?_
  refine q_x (v := (.int .i64 p_hi)) hF hS (ex_move rfl) rfl rfl fun a hF => ?_
  refine q_x (v := (.bool (p_lo == p_hi))) hF hS (ex_ibin rfl rfl rfl) rfl rfl fun a hF => ?_
  refine q_end (n_sq ?_)
  rcases bcase (p_lo == p_hi) with hc1 | hc1
  · have hr := cond_f hc1 hr
    refine q_cond_f hF rfl hc1 ?_
    refine q_skipc (n_sq ?_)
    refine q_seq ?_
    refine q_region ?_
    refine q_x (v := nilS.v) hF hS (ex_assign rfl) rfl rfl fun a hF => ?_
    refine q_end (n_sq ?_)
    refine q_seq ?_
    refine q_seq ?_
    refine q_region ?_
    refine q_x (v := (.int .i64 p_lo)) hF hS (ex_move rfl) rfl rfl fun a hF => ?_
    refine q_x (v := (.int .i64 p_lo)) hF hS (ex_assign rfl) rfl rfl fun a hF => ?_
    refine q_end (n_sq ?_)
    refine q_block ?_
    obtain ⟨o2, hl2, hr⟩ := bindS hr
    refine q_loop (fun (s : (List impl_Frac) × Int) a w => ∃ (q3 : Piece), ∃ (s3 : Sl), ∃ out_2, ∃ y_4, s = (out_2, y_4) ∧ Fr a 62 [(1, (.int .i64 p_lo)), (2, (.int .i64 p_hi)), (3, (.int .i64 p_x)), (4, (.pointer (some ⟨b1, 0, none⟩))), (10, s3.v), (11, (.int .i64 y_4))] ∧ St [] w0 w m [q3, [⟨b1, [(.int .i64 p_a.Num), (.int .i64 p_a.Den)], 24⟩]] ∧ OwnL m 24 q3 s3 out_2) (fun (o : ((List impl_Frac)) ⊕ ((List impl_Frac) × Bool)) e a w => ∃ (q17 : Piece), ∃ (s17 : Sl), ∃ out_16, o = .inl out_16 ∧ e = .exit 0 ∧ Fr a 62 [(10, s17.v)] ∧ St [] w0 w m [q17] ∧ OwnL m 24 q17 s17 out_16) hl2 ⟨[], nilS, _, _, rfl, hF.sub ⟨rfl, rfl, rfl, rfl, rfl, rfl, trivial⟩, hS.sel [1, 0] (by decide), (OwnL.nil (α := impl_Frac) m 24)⟩ ?_ ?_
    · clear hF hS
      rintro s a w st ⟨q3, s3, out_2, y_4, rfl, hF, hS, h3⟩ hb2
      unfold spec_zClamped_l1 at hb2
      refine q_seq ?_
      refine q_seq ?_
      refine q_region ?_
      refine q_x (v := (.int .i64 y_4)) hF hS (ex_move rfl) rfl rfl fun a hF => ?_
      refine q_x (v := (.int .i64 p_hi)) hF hS (ex_move rfl) rfl rfl fun a hF => ?_
      refine q_x (v := (.bool (decide (y_4 ≤ p_hi)))) hF hS (ex_ibin rfl rfl rfl) rfl rfl fun a hF => ?_
      refine q_end (n_sq ?_)
      rcases bcase (decide (y_4 ≤ p_hi)) with hc3 | hc3
      · have hb2 := cond_f hc3 hb2
        refine q_cond_f hF rfl hc3 ?_
        refine q_exit (x_sq ?_)
        obtain rfl := someI hb2
        exact ⟨nofun, .inl ⟨q3, s3, _, rfl, rfl, hF.sub ⟨rfl, trivial⟩, hS.mask [true, false], h3⟩⟩
      · have hb2 := cond_t hc3 hb2
        refine q_cond_t hF rfl hc3 ?_
        refine q_skipc (n_sq ?_)
        refine q_seq ?_
        refine q_block ?_
        refine q_seq ?_
        refine q_region ?_
        refine q_x (v := (.agg #[(.int .i64 p_a.Num), (.int .i64 p_a.Den)])) hF hS (ex_loadA (vs := [(.int .i64 p_a.Num), (.int .i64 p_a.Den)]) 1 0 Try.underlying24 rfl sz24 rfl rfl rfl rfl) rfl rfl fun a hF => ?_
        refine q_x (v := (.int .i64 y_4)) hF hS (ex_move rfl) rfl rfl fun a hF => ?_
        refine q_x (v := (.int .i64 p_x)) hF hS (ex_move rfl) rfl rfl fun a hF => ?_
        refine q_x (v := (.int .i64 (w64 (y_4 - p_x)))) hF hS (ex_ibin rfl rfl rfl) rfl rfl fun a hF => ?_
        obtain ⟨t_5, ht_5, hb2⟩ := bindS hb2
        refine q_call (vs := [(.agg #[(.int .i64 p_a.Num), (.int .i64 p_a.Den)]), (.int .i64 (w64 (y_4 - p_x)))]) hF hS Try.func128 (by kernel_rfl) rfl rfl rfl (c_spec_zMass p_a (w64 (y_4 - p_x)) t_5 ht_5 _ m hS.vis) ?_
        rintro a w _ rfl hF hS
        refine q_x (v := (.tuple #[(.agg #[(.int .i64 t_5.1.Num), (.int .i64 t_5.1.Den)]), (.bool t_5.2)])) hF hS (ex_move rfl) rfl rfl fun a hF => ?_
        refine q_x (v := (.agg #[(.int .i64 t_5.1.Num), (.int .i64 t_5.1.Den)])) hF hS (ex_extract rfl rfl) rfl rfl fun a hF => ?_
        refine q_x (v := (.bool t_5.2)) hF hS (ex_extract rfl rfl) rfl rfl fun a hF => ?_
        refine q_alloc (cs := [(.int .i64 0), (.int .i64 0)]) hF hS rfl rfl rfl fun a w b6 hF hS => ?_
        refine q_store (vs := [(.int .i64 t_5.1.Num), (.int .i64 t_5.1.Den)]) (cs' := [(.int .i64 t_5.1.Num), (.int .i64 t_5.1.Den)]) 0 0 hF hS sz24 rfl rfl rfl rfl rfl rfl rfl rfl fun a w hF hS => ?_
        refine q_x (v := (.bool t_5.2)) hF hS (ex_assign rfl) rfl rfl fun a hF => ?_
        refine q_end (n_sq ?_)
        refine q_seq ?_
        refine q_seq ?_
        refine q_region ?_
        refine q_x (v := (.int .i64 y_4)) hF hS (ex_move rfl) rfl rfl fun a hF => ?_
        refine q_x (v := (.int .i64 p_lo)) hF hS (ex_move rfl) rfl rfl fun a hF => ?_
        refine q_x (v := (.bool (y_4 == p_lo))) hF hS (ex_ibin rfl rfl rfl) rfl rfl fun a hF => ?_
        refine q_end (n_sq ?_)
        obtain ⟨j4, hj4, hb2⟩ := bindS hb2
        refine q_join (fun a w => ∃ ok_8, ∃ m_9, j4 = (ok_8, m_9) ∧ Fr a 62 [(1, (.int .i64 p_lo)), (2, (.int .i64 p_hi)), (3, (.int .i64 p_x)), (4, (.pointer (some ⟨b1, 0, none⟩))), (10, s3.v), (11, (.int .i64 y_4)), (12, (.pointer (some ⟨b6, 0, none⟩))), (13, (.bool ok_8))] ∧ St [] w0 w m [q3, [⟨b6, [(.int .i64 m_9.Num), (.int .i64 m_9.Den)], 24⟩], [⟨b1, [(.int .i64 p_a.Num), (.int .i64 p_a.Den)], 24⟩]]) ?_ ?_
        · rcases bcase (y_4 == p_lo) with hc5 | hc5
          · have hj4 := cond_f hc5 hj4
            refine q_cond_f hF rfl hc5 ?_
            refine q_skipc (n_jn ?_)
            obtain rfl := someI hj4
            exact ⟨_, _, rfl, hF.sub ⟨rfl, rfl, rfl, rfl, rfl, rfl, rfl, rfl, trivial⟩, hS.sel [1, 0, 2] (by decide)⟩
          · have hj4 := cond_t hc5 hj4
            refine q_cond_t hF rfl hc5 ?_
            refine q_region ?_
            refine q_x (v := (.agg #[(.int .i64 p_a.Num), (.int .i64 p_a.Den)])) hF hS (ex_loadA (vs := [(.int .i64 p_a.Num), (.int .i64 p_a.Den)]) 2 0 Try.underlying24 rfl sz24 rfl rfl rfl rfl) rfl rfl fun a hF => ?_
            refine q_x (v := (.int .i64 p_x)) hF hS (ex_move rfl) rfl rfl fun a hF => ?_
            refine q_x (v := (.int .i64 p_lo)) hF hS (ex_move rfl) rfl rfl fun a hF => ?_
            refine q_x (v := (.int .i64 (w64 (p_x - p_lo)))) hF hS (ex_ibin rfl rfl rfl) rfl rfl fun a hF => ?_
            obtain ⟨t_7, ht_7, hj4⟩ := bindS hj4
            refine q_call (vs := [(.agg #[(.int .i64 p_a.Num), (.int .i64 p_a.Den)]), (.int .i64 (w64 (p_x - p_lo)))]) hF hS Try.func130 (by kernel_rfl) rfl rfl rfl (c_spec_zTail p_a (w64 (p_x - p_lo)) t_7 ht_7 _ m hS.vis) ?_
            rintro a w _ rfl hF hS
            refine q_x (v := (.tuple #[(.agg #[(.int .i64 t_7.1.Num), (.int .i64 t_7.1.Den)]), (.bool t_7.2)])) hF hS (ex_move rfl) rfl rfl fun a hF => ?_
            refine q_x (v := (.agg #[(.int .i64 t_7.1.Num), (.int .i64 t_7.1.Den)])) hF hS (ex_extract rfl rfl) rfl rfl fun a hF => ?_
            refine q_x (v := (.bool t_7.2)) hF hS (ex_extract rfl rfl) rfl rfl fun a hF => ?_
            refine q_store (vs := [(.int .i64 t_7.1.Num), (.int .i64 t_7.1.Den)]) (cs' := [(.int .i64 t_7.1.Num), (.int .i64 t_7.1.Den)]) 0 0 hF hS sz24 rfl rfl rfl rfl rfl rfl rfl rfl fun a w hF hS => ?_
            refine q_x (v := (.bool t_7.2)) hF hS (ex_assign rfl) rfl rfl fun a hF => ?_
            refine q_end (n_jn ?_)
            obtain rfl := someI hj4
            exact ⟨_, _, rfl, hF.sub ⟨rfl, rfl, rfl, rfl, rfl, rfl, rfl, rfl, trivial⟩, hS.sel [1, 0, 2] (by decide)⟩
        · rintro a w ⟨ok_8, m_9, rfl, hF, hS⟩
          refine n_sq ?_
          refine q_seq ?_
          refine q_seq ?_
          refine q_region ?_
          refine q_x (v := (.int .i64 y_4)) hF hS (ex_move rfl) rfl rfl fun a hF => ?_
          refine q_x (v := (.int .i64 p_hi)) hF hS (ex_move rfl) rfl rfl fun a hF => ?_
          refine q_x (v := (.bool (y_4 == p_hi))) hF hS (ex_ibin rfl rfl rfl) rfl rfl fun a hF => ?_
          refine q_end (n_sq ?_)
          obtain ⟨j6, hj6, hb2⟩ := bindS hb2
          refine q_join (fun a w => ∃ ok_11, ∃ m_12, j6 = (ok_11, m_12) ∧ Fr a 62 [(1, (.int .i64 p_lo)), (2, (.int .i64 p_hi)), (3, (.int .i64 p_x)), (4, (.pointer (some ⟨b1, 0, none⟩))), (10, s3.v), (11, (.int .i64 y_4)), (12, (.pointer (some ⟨b6, 0, none⟩))), (13, (.bool ok_11))] ∧ St [] w0 w m [q3, [⟨b6, [(.int .i64 m_12.Num), (.int .i64 m_12.Den)], 24⟩], [⟨b1, [(.int .i64 p_a.Num), (.int .i64 p_a.Den)], 24⟩]]) ?_ ?_
          · rcases bcase (y_4 == p_hi) with hc7 | hc7
            · have hj6 := cond_f hc7 hj6
              refine q_cond_f hF rfl hc7 ?_
              refine q_skipc (n_jn ?_)
              obtain rfl := someI hj6
              exact ⟨_, _, rfl, hF.sub ⟨rfl, rfl, rfl, rfl, rfl, rfl, rfl, rfl, trivial⟩, hS⟩
            · have hj6 := cond_t hc7 hj6
              refine q_cond_t hF rfl hc7 ?_
              refine q_region ?_
              refine q_x (v := (.agg #[(.int .i64 p_a.Num), (.int .i64 p_a.Den)])) hF hS (ex_loadA (vs := [(.int .i64 p_a.Num), (.int .i64 p_a.Den)]) 2 0 Try.underlying24 rfl sz24 rfl rfl rfl rfl) rfl rfl fun a hF => ?_
              refine q_x (v := (.int .i64 p_hi)) hF hS (ex_move rfl) rfl rfl fun a hF => ?_
              refine q_x (v := (.int .i64 p_x)) hF hS (ex_move rfl) rfl rfl fun a hF => ?_
              refine q_x (v := (.int .i64 (w64 (p_hi - p_x)))) hF hS (ex_ibin rfl rfl rfl) rfl rfl fun a hF => ?_
              obtain ⟨t_10, ht_10, hj6⟩ := bindS hj6
              refine q_call (vs := [(.agg #[(.int .i64 p_a.Num), (.int .i64 p_a.Den)]), (.int .i64 (w64 (p_hi - p_x)))]) hF hS Try.func130 (by kernel_rfl) rfl rfl rfl (c_spec_zTail p_a (w64 (p_hi - p_x)) t_10 ht_10 _ m hS.vis) ?_
              rintro a w _ rfl hF hS
              refine q_x (v := (.tuple #[(.agg #[(.int .i64 t_10.1.Num), (.int .i64 t_10.1.Den)]), (.bool t_10.2)])) hF hS (ex_move rfl) rfl rfl fun a hF => ?_
              refine q_x (v := (.agg #[(.int .i64 t_10.1.Num), (.int .i64 t_10.1.Den)])) hF hS (ex_extract rfl rfl) rfl rfl fun a hF => ?_
              refine q_x (v := (.bool t_10.2)) hF hS (ex_extract rfl rfl) rfl rfl fun a hF => ?_
              refine q_store (vs := [(.int .i64 t_10.1.Num), (.int .i64 t_10.1.Den)]) (cs' := [(.int .i64 t_10.1.Num), (.int .i64 t_10.1.Den)]) 1 0 hF hS sz24 rfl rfl rfl rfl rfl rfl rfl rfl fun a w hF hS => ?_
              refine q_x (v := (.bool t_10.2)) hF hS (ex_assign rfl) rfl rfl fun a hF => ?_
              refine q_end (n_jn ?_)
              obtain rfl := someI hj6
              exact ⟨_, _, rfl, hF.sub ⟨rfl, rfl, rfl, rfl, rfl, rfl, rfl, rfl, trivial⟩, hS⟩
          · rintro a w ⟨ok_11, m_12, rfl, hF, hS⟩
            refine n_sq ?_
            refine q_seq ?_
            refine q_seq ?_
            refine q_region ?_
            refine q_x (v := (.bool ok_11)) hF hS (ex_move rfl) rfl rfl fun a hF => ?_
            refine q_x (v := (.bool (!ok_11))) hF hS (ex_not rfl) rfl rfl fun a hF => ?_
            refine q_end (n_sq ?_)
            rcases bcase (!ok_11) with hc8 | hc8
            · have hb2 := cond_f hc8 hb2
              refine q_cond_f hF rfl hc8 ?_
              refine q_skipc (n_sq ?_)
              refine q_region ?_
              refine q_x (v := s3.v) hF hS (ex_move rfl) rfl rfl fun a hF => ?_
              refine q_x (v := (.agg #[(.int .i64 m_12.Num), (.int .i64 m_12.Den)])) hF hS (ex_loadA (vs := [(.int .i64 m_12.Num), (.int .i64 m_12.Den)]) 1 0 Try.underlying24 rfl sz24 rfl rfl rfl rfl) rfl rfl fun a hF => ?_
              refine q_do rfl fun _ hK => wp_buildSlice' (l := ([m_12] : List impl_Frac)) (cells := [(.int .i64 m_12.Num), (.int .i64 m_12.Den)]) hF hS Try.underlying56 inf24 rfl rfl (by kernel_rfl) rfl rfl rfl ⟨rfl, rfl⟩ rfl rfl fun a w q13 s13 hF hS h13 _ => hK _ _ ?_
              have hS : St _ _ _ _ [q3, q13, [⟨b6, [(.int .i64 m_12.Num), (.int .i64 m_12.Den)], 24⟩], [⟨b1, [(.int .i64 p_a.Num), (.int .i64 p_a.Den)], 24⟩]] := hS.sel [1, 0, 2, 3] (by decide)
              obtain ⟨l_14, hl_14, hb2⟩ := bindS hb2
              refine q_do rfl fun _ hK => wp_append hF hS h3 Try.underlying56 inf24 rfl rfl rfl rfl (h13.vw hS (j := 1) rfl) rfl (by decide) hl_14 rfl fun a w q15 s15 hF hS h15 => hK _ _ ?_
              refine q_x (v := s15.v) hF hS (ex_assign rfl) rfl rfl fun a hF => ?_
              refine q_end (n_ib (n_sq ?_))
              refine q_region ?_
              refine q_x (v := (.int .i64 y_4)) hF hS (ex_move rfl) rfl rfl fun a hF => ?_
              refine q_x (v := (.int .i64 (w64 (y_4 + 1)))) hF hS (ex_ibin rfl rfl rfl) rfl rfl fun a hF => ?_
              refine q_x (v := (.int .i64 (w64 (y_4 + 1)))) hF hS (ex_assign rfl) rfl rfl fun a hF => ?_
              refine q_end ?_
              obtain rfl := someI hb2
              exact ⟨rfl, q15, s15, _, _, rfl, hF.sub ⟨rfl, rfl, rfl, rfl, rfl, rfl, trivial⟩, hS.mask [true, false, false, true], h15⟩
            · have hb2 := cond_t hc8 hb2
              refine q_cond_t hF rfl hc8 ?_
              refine q_seq ?_
              refine q_region ?_
              refine q_x (v := nilS.v) hF hS (ex_assign rfl) rfl rfl fun a hF => ?_
              refine q_x (v := (.bool false)) hF hS (ex_assign rfl) rfl rfl fun a hF => ?_
              refine q_end (n_sq (q_ret (r_sq (r_ib (r_sq ?_)))))
              obtain rfl := someI hb2
              refine ⟨nofun, .inr fun ho => ?_⟩
              subst ho
              refine r_ib (r_sq ?_)
              obtain rfl := someI hr
              exact ret_of hF hS rfl (.tmp rfl (.tmp rfl .nil)) ⟨[], nilS, rfl, hS.sel [3] (by decide), (OwnL.nil (α := impl_Frac) m 24)⟩
    · rintro e a w ⟨q17, s17, out_16, rfl, rfl, hF, hS, h17⟩
      refine x_ib (n_sq ?_)
      refine q_seq ?_
      refine q_region ?_
      refine q_x (v := s17.v) hF hS (ex_move rfl) rfl rfl fun a hF => ?_
      refine q_x (v := s17.v) hF hS (ex_assign rfl) rfl rfl fun a hF => ?_
      refine q_x (v := (.bool true)) hF hS (ex_assign rfl) rfl rfl fun a hF => ?_
      refine q_end (n_sq (q_ret ?_))
      obtain rfl := someI hr
      exact ret_of hF hS rfl (.tmp rfl (.tmp rfl .nil)) ⟨q17, s17, rfl, hS.sel [0] (by decide), h17⟩
  · have hr := cond_t hc1 hr
    refine q_cond_t hF rfl hc1 ?_
    refine q_seq ?_
    refine q_region ?_
    obtain ⟨t_18, ht_18, hr⟩ := bindS hr
    refine q_call (vs := [(.int .i64 1)]) hF hS Try.func107 (by kernel_rfl) rfl rfl rfl (c_spec_fInt 1 t_18 ht_18 _ m hS.vis) ?_
    rintro a w _ rfl hF hS
    refine q_do rfl fun _ hK => wp_buildSlice' (l := ([t_18] : List impl_Frac)) (cells := [(.int .i64 t_18.Num), (.int .i64 t_18.Den)]) hF hS Try.underlying56 inf24 rfl rfl (by kernel_rfl) rfl rfl rfl ⟨rfl, rfl⟩ rfl rfl fun a w q19 s19 hF hS h19 _ => hK _ _ ?_
    refine q_x (v := s19.v) hF hS (ex_assign rfl) rfl rfl fun a hF => ?_
    refine q_x (v := (.bool true)) hF hS (ex_assign rfl) rfl rfl fun a hF => ?_
    refine q_end (n_sq (q_ret (r_sq ?_)))
    obtain rfl := someI hr
    exact ret_of hF hS rfl (.tmp rfl (.tmp rfl .nil)) ⟨q19, s19, rfl, hS.sel [0] (by decide), h19⟩

theorem c_spec_ClampedMasses (p_a : impl_Frac) (p_lo : Int) (p_hi : Int) (p_x : Int) (r : (List impl_Frac) × Bool) (hr : spec_ClampedMasses p_a p_lo p_hi p_x = some r) (w0 : World) (m : Mem) (hv : Vis m w0) :
    Ret Try.prog 40 [(.agg #[(.int .i64 p_a.Num), (.int .i64 p_a.Den)]), (.int .i64 p_lo), (.int .i64 p_hi), (.int .i64 p_x)] w0 (fun v w => ∃ (q0' : Piece) (s0' : Sl), v = (.tuple #[s0'.v, (.bool r.2)]) ∧ St [] w0 w m [q0'] ∧ OwnL m 24 q0' s0' r.1) := by
  unfold spec_ClampedMasses at hr
  refine ret_start Try.func40 rfl 33 rfl rfl m hv fun a hF hS => ?_
  refine q_seq ?_
  refine q_region ?_
  refine q_box (cs := [(.int .i64 p_a.Num), (.int .i64 p_a.Den)]) hF hS rfl rfl rfl fun a w b1 hF hS => ?_
  refine q_x (v := nilS.v) hF hS (ex_assign rfl) rfl rfl fun a hF => ?_
  refine q_x (v := (.bool false)) hF hS (ex_assign rfl) rfl rfl fun a hF => ?_
  refine q_end (n_sq ?_)
  refine q_seq ?_
  refine q_seq ?_
  obtain ⟨t_5, hj1, hr⟩ := bindS hr
  refine q_join (fun a w => Fr a 33 [(1, (.int .i64 p_lo)), (2, (.int .i64 p_hi)), (3, (.int .i64 p_x)), (4, (.pointer (some ⟨b1, 0, none⟩))), (25, (.bool t_5))] ∧ St [] w0 w m [[⟨b1, [(.int .i64 p_a.Num), (.int .i64 p_a.Den)], 24⟩]]) ?_ ?_
  · refine q_region ?_
    refine q_x (v := (.agg #[(.int .i64 p_a.Num), (.int .i64 p_a.Den)])) hF hS (ex_loadA (vs := [(.int .i64 p_a.Num), (.int .i64 p_a.Den)]) 0 0 Try.underlying24 rfl sz24 rfl rfl rfl rfl) rfl rfl fun a hF => ?_
    obtain ⟨t_2, ht_2, hj1⟩ := bindS hj1
    refine q_call (vs := [(.agg #[(.int .i64 p_a.Num), (.int .i64 p_a.Den)])]) hF hS Try.func123 (by kernel_rfl) rfl rfl rfl (c_spec_zRatio p_a t_2 ht_2 _ m hS.vis) ?_
    rintro a w _ rfl hF hS
    refine q_x (v := (.bool (!t_2))) hF hS (ex_not rfl) rfl rfl fun a hF => ?_
    refine q_x (v := (.bool (!t_2))) hF hS (ex_move rfl) rfl rfl fun a hF => ?_
    rcases bcase (!t_2) with hc2 | hc2
    · have hj1 := cond_f hc2 hj1
      refine q_xg (v := (.int .i64 p_lo)) hF hS (ex_move rfl) (wanted_t hF rfl rfl rfl hc2) rfl fun a hF => ?_
      refine q_xg (v := (.int .i64 p_hi)) hF hS (ex_move rfl) (wanted_t hF rfl rfl rfl hc2) rfl fun a hF => ?_
      obtain ⟨t_3, ht_3, hj1⟩ := bindS hj1
      refine q_callg (vs := [(.int .i64 p_lo), (.int .i64 p_hi)]) hF hS (wanted_t hF rfl rfl rfl hc2) Try.func124 (by kernel_rfl) rfl rfl rfl (c_spec_zBounds p_lo p_hi t_3 ht_3 _ m hS.vis) ?_
      rintro a w _ rfl hF hS
      refine q_xg (v := (.bool (!t_3))) hF hS (ex_not rfl) (wanted_t hF rfl rfl rfl hc2) rfl fun a hF => ?_
      refine q_x (v := (.bool (!t_3))) hF hS (ex_pick_f rfl rfl hc2) rfl rfl fun a hF => ?_
      refine q_x (v := (.bool (!t_3))) hF hS (ex_move rfl) rfl rfl fun a hF => ?_
      rcases bcase (!t_3) with hc3 | hc3
      · have hj1 := cond_f hc3 hj1
        refine q_xg (v := (.int .i64 p_x)) hF hS (ex_move rfl) (wanted_t hF rfl rfl rfl hc3) rfl fun a hF => ?_
        refine q_xg (v := (.int .i64 p_lo)) hF hS (ex_move rfl) (wanted_t hF rfl rfl rfl hc3) rfl fun a hF => ?_
        refine q_xg (v := (.int .i64 p_hi)) hF hS (ex_move rfl) (wanted_t hF rfl rfl rfl hc3) rfl fun a hF => ?_
        obtain ⟨t_4, ht_4, hj1⟩ := bindS hj1
        refine q_callg (vs := [(.int .i64 p_x), (.int .i64 p_lo), (.int .i64 p_hi)]) hF hS (wanted_t hF rfl rfl rfl hc3) Try.func104 (by kernel_rfl) rfl rfl rfl (c_spec_l1In p_x p_lo p_hi t_4 ht_4 _ m hS.vis) ?_
        rintro a w _ rfl hF hS
        refine q_xg (v := (.bool (!t_4))) hF hS (ex_not rfl) (wanted_t hF rfl rfl rfl hc3) rfl fun a hF => ?_
        refine q_x (v := (.bool (!t_4))) hF hS (ex_pick_f rfl rfl hc3) rfl rfl fun a hF => ?_
        refine q_end (n_jn ?_)
        obtain rfl := someI hj1
        exact ⟨hF.sub ⟨rfl, rfl, rfl, rfl, rfl, trivial⟩, hS⟩
      · have hj1 := cond_t hc3 hj1
        refine q_skip hF (wanted_f hF rfl rfl rfl hc3 rfl) rfl fun a hF => ?_
        refine q_skip hF (wanted_f hF rfl rfl rfl hc3 rfl) rfl fun a hF => ?_
        refine q_skip hF (wanted_f hF rfl rfl rfl hc3 rfl) rfl fun a hF => ?_
        refine q_skip hF (wanted_f hF rfl rfl rfl hc3 rfl) rfl fun a hF => ?_
        refine q_skip hF (wanted_f hF rfl rfl rfl hc3 rfl) rfl fun a hF => ?_
        refine q_x (v := (.bool true)) hF hS (ex_pick_t rfl rfl hc3) rfl rfl fun a hF => ?_
        refine q_end (n_jn ?_)
        obtain rfl := someI hj1
        exact ⟨hF.sub ⟨rfl, rfl, rfl, rfl, rfl, trivial⟩, hS⟩
    · have hj1 := cond_t hc2 hj1
      refine q_skip hF (wanted_f hF rfl rfl rfl hc2 rfl) rfl fun a hF => ?_
      refine q_skip hF (wanted_f hF rfl rfl rfl hc2 rfl) rfl fun a hF => ?_
      refine q_skip hF (wanted_f hF rfl rfl rfl hc2 rfl) rfl fun a hF => ?_
      refine q_skip hF (wanted_f hF rfl rfl rfl hc2 rfl) rfl fun a hF => ?_
      refine q_x (v := (.bool true)) hF hS (ex_pick_t rfl rfl hc2) rfl rfl fun a hF => ?_
      refine q_x (v := (.bool true)) hF hS (ex_move rfl) rfl rfl fun a hF => ?_
      refine q_skip hF (wanted_f hF rfl rfl rfl rfl rfl) rfl fun a hF => ?_
      refine q_skip hF (wanted_f hF rfl rfl rfl rfl rfl) rfl fun a hF => ?_
      refine q_skip hF (wanted_f hF rfl rfl rfl rfl rfl) rfl fun a hF => ?_
      refine q_skip hF (wanted_f hF rfl rfl rfl rfl rfl) rfl fun a hF => ?_
      refine q_skip hF (wanted_f hF rfl rfl rfl rfl rfl) rfl fun a hF => ?_
      refine q_x (v := (.bool true)) hF hS (ex_pick_t rfl rfl rfl) rfl rfl fun a hF => ?_
      refine q_end (n_jn ?_)
      obtain rfl := someI hj1
      exact ⟨hF.sub ⟨rfl, rfl, rfl, rfl, rfl, trivial⟩, hS⟩
  · rintro a w ⟨hF, hS⟩
    refine n_sq ?_
    rcases bcase (t_5) with hc4 | hc4
    · have hr := cond_f hc4 hr
      refine q_cond_f hF rfl hc4 ?_
      refine q_skipc (n_sq ?_)
      refine q_seq ?_
      refine q_region ?_
      refine q_x (v := (.agg #[(.int .i64 p_a.Num), (.int .i64 p_a.Den)])) hF hS (ex_loadA (vs := [(.int .i64 p_a.Num), (.int .i64 p_a.Den)]) 0 0 Try.underlying24 rfl sz24 rfl rfl rfl rfl) rfl rfl fun a hF => ?_
      refine q_x (v := (.int .i64 p_lo)) hF hS (ex_move rfl) rfl rfl fun a hF => ?_
      refine q_x (v := (.int .i64 p_hi)) hF hS (ex_move rfl) rfl rfl fun a hF => ?_
      refine q_x (v := (.int .i64 p_x)) hF hS (ex_move rfl) rfl rfl fun a hF => ?_
      obtain ⟨t_6, ht_6, hr⟩ := bindS hr
      refine q_call (vs := [(.agg #[(.int .i64 p_a.Num), (.int .i64 p_a.Den)]), (.int .i64 p_lo), (.int .i64 p_hi), (.int .i64 p_x)]) hF hS Try.func125 (by kernel_rfl) rfl rfl rfl (c_spec_zClamped p_a p_lo p_hi p_x t_6 ht_6 _ m hS.vis) ?_
      rintro a w _ ⟨q8, s8, rfl, hR7, h8⟩ hF hS2
      have hS : St _ _ _ _ [q8, [⟨b1, [(.int .i64 p_a.Num), (.int .i64 p_a.Den)], 24⟩]] := hS.joinF hR7
      refine q_x (v := s8.v) hF hS (ex_extract rfl rfl) rfl rfl fun a hF => ?_
      refine q_x (v := (.bool t_6.2)) hF hS (ex_extract rfl rfl) rfl rfl fun a hF => ?_
      refine q_x (v := s8.v) hF hS (ex_assign rfl) rfl rfl fun a hF => ?_
      refine q_x (v := (.bool t_6.2)) hF hS (ex_assign rfl) rfl rfl fun a hF => ?_
      refine q_end (n_sq (q_ret ?_))
      obtain rfl := someI hr
      exact ret_of hF hS rfl (.tmp rfl (.tmp rfl .nil)) ⟨q8, s8, rfl, hS.sel [0] (by decide), h8⟩
    · have hr := cond_t hc4 hr
      refine q_cond_t hF rfl hc4 ?_
      refine q_seq ?_
      refine q_region ?_
      refine q_x (v := nilS.v) hF hS (ex_assign rfl) rfl rfl fun a hF => ?_
      refine q_x (v := (.bool false)) hF hS (ex_assign rfl) rfl rfl fun a hF => ?_
      refine q_end (n_sq (q_ret (r_sq ?_)))
      obtain rfl := someI hr
      exact ret_of hF hS rfl (.tmp rfl (.tmp rfl .nil)) ⟨[], nilS, rfl, hS.sel [1] (by decide), (OwnL.nil (α := impl_Frac) m 24)⟩

theorem c_laws_pSameFracs (p_a : List impl_Frac) (p_b : List impl_Frac) (r : Bool) (hr : laws_pSameFracs p_a p_b = some r) (w0 : World) (m : Mem) (hv : Vis m w0) (s1 : Sl) (h1 : Rd m s1 p_a) (s2 : Sl) (h2 : Rd m s2 p_b) :
    Ret Try.prog 41 [s1.v, s2.v] w0 (fun v _ => v = (.bool r)) := by
  unfold laws_pSameFracs at hr
  refine ret_start Try.func41 rfl 26 rfl rfl m hv fun a hF hS => ?_
  refine q_seq ?_
  refine q_region ?_
  refine q_x (v := (.bool false)) hF hS (ex_assign rfl) rfl rfl fun a hF => ?_
  refine q_end (n_sq ?_)
  refine q_seq ?_
  refine q_seq ?_
  refine q_region ?_
  refine q_x (v := s1.v) hF hS (ex_move rfl) rfl rfl fun a hF => ?_
  refine q_x (v := (.int .i64 (goLen p_a))) hF hS (ex_len Try.underlying56 rfl h1.len) rfl rfl fun a hF => ?_
  refine q_x (v := s2.v) hF hS (ex_move rfl) rfl rfl fun a hF => ?_
  refine q_x (v := (.int .i64 (goLen p_b))) hF hS (ex_len Try.underlying56 rfl h2.len) rfl rfl fun a hF => ?_
  refine q_x (v := (.bool ((goLen p_a) != (goLen p_b)))) hF hS (ex_ibin rfl rfl rfl) rfl rfl fun a hF => ?_
  refine q_end (n_sq ?_)
  rcases bcase ((goLen p_a) != (goLen p_b)) with hc1 | hc1
  · have hr := cond_f hc1 hr
    refine q_cond_f hF rfl hc1 ?_
    refine q_skipc (n_sq ?_)
    refine q_seq ?_
    refine q_seq ?_
    refine q_region ?_
    refine q_x (v := s1.v) hF hS (ex_move rfl) rfl rfl fun a hF => ?_
    refine q_x (v := (.int .i64 (goLen p_a))) hF hS (ex_len Try.underlying56 rfl h1.len) rfl rfl fun a hF => ?_
    refine q_x (v := (.int .i64 0)) hF hS (ex_move rfl) rfl rfl fun a hF => ?_
    refine q_end (n_sq ?_)
    refine q_block ?_
    obtain ⟨o2, hl2, hr⟩ := bindS hr
    refine q_loop (fun (t_3 : Int) a w => Fr a 26 [(0, s1.v), (1, s2.v), (12, (.int .i64 (goLen p_a))), (13, (.int .i64 t_3))] ∧ St [] w0 w m []) (fun (o : (Unit) ⊕ (Bool)) e a w => o = .inl () ∧ e = .exit 0 ∧ Fr a 26 [] ∧ St [] w0 w m []) hl2 ⟨hF.sub ⟨rfl, rfl, rfl, rfl, trivial⟩, hS⟩ ?_ ?_
    · clear hF hS
      rintro t_3 a w st ⟨hF, hS⟩ hb2
      unfold laws_pSameFracs_l1 at hb2
      refine q_seq ?_
      refine q_region ?_
      refine q_x (v := (.bool (decide (t_3 < (goLen p_a))))) hF hS (ex_ibin rfl rfl rfl) rfl rfl fun a hF => ?_
      refine q_end (n_sq ?_)
      refine q_seq ?_
      rcases bcase (decide (t_3 < (goLen p_a))) with hc3 | hc3
      · have hb2 := cond_f hc3 hb2
        refine q_cond_f hF rfl hc3 ?_
        refine q_exit (x_sq ?_)
        obtain rfl := someI hb2
        exact ⟨nofun, .inl ⟨rfl, rfl, hF.sub trivial, hS⟩⟩
      · have hb2 := cond_t hc3 hb2
        refine q_cond_t hF rfl hc3 ?_
        refine q_skipc (n_sq ?_)
        refine q_seq ?_
        refine q_block ?_
        refine q_seq ?_
        refine q_region ?_
        refine q_x (v := (.int .i64 t_3)) hF hS (ex_move rfl) rfl rfl fun a hF => ?_
        refine q_x (v := (.int .i64 t_3)) hF hS (ex_assign rfl) rfl rfl fun a hF => ?_
        refine q_end (n_sq ?_)
        refine q_seq ?_
        refine e_region [] mixed fun w' hw' => ?_
        have hS := hS.below hw'
        refine e_p (v := s1.v) 0 hF rfl (ex_move rfl) rfl rfl (by kernel_rfl) (by kernel_rfl) (by kernel_rfl) fun a hF => ?_
        refine e_p (v := (.int .i64 t_3)) 1 hF rfl (ex_move rfl) rfl rfl (by kernel_rfl) (by kernel_rfl) (by kernel_rfl) fun a hF => ?_
        obtain ⟨e_4, he_4, hb2⟩ := bindS hb2
        obtain ⟨vs5, at5, d5⟩ := h1.at he_4 2 rfl
        obtain rfl : vs5 = [(.int .i64 e_4.Num), (.int .i64 e_4.Den)] := d5
        refine e_p (v := (elP s1 (t_3.toNat * 2))) 2 hF rfl (ex_indexAddr Try.underlying56 sz24 rfl rfl (h1.idx he_4)) rfl rfl (by kernel_rfl) (by kernel_rfl) (by kernel_rfl) fun a hF => ?_
        refine e_x (v := (.agg #[(.int .i64 e_4.Num), (.int .i64 e_4.Den)])) 3 hF hS rfl (ex_loadEA (us := [(.int .i64 e_4.Num), (.int .i64 e_4.Den)]) 0 Try.underlying24 rfl sz24 rfl ((at5).at) rfl rfl rfl) rfl rfl (by kernel_rfl) (by kernel_rfl) (by kernel_rfl) (by kernel_rfl) fun a hF => ?_
        refine e_p (v := s2.v) 4 hF rfl (ex_move rfl) rfl rfl (by kernel_rfl) (by kernel_rfl) (by kernel_rfl) fun a hF => ?_
        refine e_p (v := (.int .i64 t_3)) 5 hF rfl (ex_move rfl) rfl rfl (by kernel_rfl) (by kernel_rfl) (by kernel_rfl) fun a hF => ?_
        obtain ⟨e_6, he_6, hb2⟩ := bindS hb2
        obtain ⟨vs7, at7, d7⟩ := h2.at he_6 2 rfl
        obtain rfl : vs7 = [(.int .i64 e_6.Num), (.int .i64 e_6.Den)] := d7
        refine e_p (v := (elP s2 (t_3.toNat * 2))) 6 hF rfl (ex_indexAddr Try.underlying56 sz24 rfl rfl (h2.idx he_6)) rfl rfl (by kernel_rfl) (by kernel_rfl) (by kernel_rfl) fun a hF => ?_
        refine e_x (v := (.agg #[(.int .i64 e_6.Num), (.int .i64 e_6.Den)])) 7 hF hS rfl (ex_loadEA (us := [(.int .i64 e_6.Num), (.int .i64 e_6.Den)]) 0 Try.underlying24 rfl sz24 rfl ((at7).at) rfl rfl rfl) rfl rfl (by kernel_rfl) (by kernel_rfl) (by kernel_rfl) (by kernel_rfl) fun a hF => ?_
        refine e_p (v := (.bool (!((e_4.Num == e_6.Num) && ((e_4.Den == e_6.Den) && true))))) 8 hF rfl (ex_neA (xs := [(.int .i64 e_4.Num), (.int .i64 e_4.Den)]) (ys := [(.int .i64 e_6.Num), (.int .i64 e_6.Den)]) rfl rfl (by kernel_rfl) (eqv_struct (xs := [(.int .i64 e_4.Num), (.int .i64 e_4.Den)]) (ys := [(.int .i64 e_6.Num), (.int .i64 e_6.Den)]) Try.underlying24 (by kernel_rfl) (eqf_cons rfl (part_cell Try.underlying3 rfl rfl) (part_cell Try.underlying3 rfl rfl) (eqv_int Try.underlying3) (eqf_cons rfl (part_cell Try.underlying3 rfl rfl) (part_cell Try.underlying3 rfl rfl) (eqv_int Try.underlying3) (eqf_nil))))) rfl rfl (by kernel_rfl) (by kernel_rfl) (by kernel_rfl) fun a hF => ?_
        refine e_end (by kernel_rfl) (n_sq ?_) _
        rcases bcase (!((e_4.Num == e_6.Num) && ((e_4.Den == e_6.Den) && true))) with hc4 | hc4
        · have hb2 := cond_f hc4 hb2
          refine q_cond_f hF rfl hc4 ?_
          refine q_skipc (n_ib (n_sq ?_))
          refine q_region ?_
          refine q_x (v := (.int .i64 (w64 (t_3 + 1)))) hF hS (ex_ibin rfl rfl rfl) rfl rfl fun a hF => ?_
          refine q_x (v := (.int .i64 (w64 (t_3 + 1)))) hF hS (ex_move rfl) rfl rfl fun a hF => ?_
          refine q_end ?_
          obtain rfl := someI hb2
          exact ⟨rfl, hF.sub ⟨rfl, rfl, rfl, rfl, trivial⟩, hS⟩
        · have hb2 := cond_t hc4 hb2
          refine q_cond_t hF rfl hc4 ?_
          refine q_seq ?_
          refine q_region ?_
          refine q_x (v := (.bool false)) hF hS (ex_assign rfl) rfl rfl fun a hF => ?_
          refine q_end (n_sq (q_ret (r_ib (r_sq ?_))))
          obtain rfl := someI hb2
          refine ⟨nofun, .inr fun ho => ?_⟩
          subst ho
          refine r_ib (r_sq ?_)
          obtain rfl := someI hr
          exact ret_of hF hS rfl (.tmp rfl .nil) rfl
    · rintro e a w ⟨rfl, rfl, hF, hS⟩
      refine x_ib (n_sq ?_)
      refine q_seq ?_
      refine q_region ?_
      refine q_x (v := (.bool true)) hF hS (ex_assign rfl) rfl rfl fun a hF => ?_
      refine q_end (n_sq (q_ret ?_))
      obtain rfl := someI hr
      exact ret_of hF hS rfl (.tmp rfl .nil) rfl
  · have hr := cond_t hc1 hr
    refine q_cond_t hF rfl hc1 ?_
    refine q_seq ?_
    refine q_region ?_
    refine q_x (v := (.bool false)) hF hS (ex_assign rfl) rfl rfl fun a hF => ?_
    refine q_end (n_sq (q_ret (r_sq ?_)))
    obtain rfl := someI hr
    exact ret_of hF hS rfl (.tmp rfl .nil) rfl

theorem c_impl_SumFracs (p_l : List impl_Frac) (r : impl_Frac × Bool) (hr : impl_SumFracs p_l = some r) (w0 : World) (m : Mem) (hv : Vis m w0) (s1 : Sl) (h1 : Rd m s1 p_l) :
    Ret Try.prog 35 [s1.v] w0 (fun v _ => v = (.tuple #[(.agg #[(.int .i64 r.1.Num), (.int .i64 r.1.Den)]), (.bool r.2)])) := by
  unfold impl_SumFracs at hr
  refine ret_start Try.func35 rfl 32 rfl rfl m hv fun a hF hS => ?_
  refine q_seq ?_
  refine q_region ?_
  refine q_alloc (cs := [(.int .i64 0), (.int .i64 0)]) hF hS rfl rfl rfl fun a w b2 hF hS => ?_
  refine q_x (v := (.bool false)) hF hS (ex_assign rfl) rfl rfl fun a hF => ?_
  refine q_end (n_sq ?_)
  refine q_seq ?_
  refine q_seq ?_
  refine q_region ?_
  refine q_x (v := s1.v) hF hS (ex_move rfl) rfl rfl fun a hF => ?_
  refine q_x (v := (.int .i64 (goLen p_l))) hF hS (ex_len Try.underlying56 rfl h1.len) rfl rfl fun a hF => ?_
  refine q_x (v := (.bool (decide (100 < (goLen p_l))))) hF hS (ex_ibin rfl rfl rfl) rfl rfl fun a hF => ?_
  refine q_end (n_sq ?_)
  rcases bcase (decide (100 < (goLen p_l))) with hc1 | hc1
  · have hr := cond_f hc1 hr
    refine q_cond_f hF rfl hc1 ?_
    refine q_skipc (n_sq ?_)
    refine q_seq ?_
    refine q_region ?_
    refine q_x (v := (.agg #[(.int .i64 0), (.int .i64 1)])) hF hS (ex_build (cells := [(.int .i64 0), (.int .i64 1)]) rfl (by kernel_rfl)) rfl rfl fun a hF => ?_
    refine q_alloc (cs := [(.int .i64 0), (.int .i64 0)]) hF hS rfl rfl rfl fun a w b3 hF hS => ?_
    refine q_store (vs := [(.int .i64 0), (.int .i64 1)]) (cs' := [(.int .i64 0), (.int .i64 1)]) 0 0 hF hS sz24 rfl rfl rfl rfl rfl rfl rfl rfl fun a w hF hS => ?_
    refine q_end (n_sq ?_)
    refine q_seq ?_
    refine q_seq ?_
    refine q_region ?_
    refine q_x (v := s1.v) hF hS (ex_move rfl) rfl rfl fun a hF => ?_
    refine q_x (v := (.int .i64 (goLen p_l))) hF hS (ex_len Try.underlying56 rfl h1.len) rfl rfl fun a hF => ?_
    refine q_x (v := (.int .i64 0)) hF hS (ex_move rfl) rfl rfl fun a hF => ?_
    refine q_end (n_sq ?_)
    refine q_block ?_
    obtain ⟨o2, hl2, hr⟩ := bindS hr
    refine q_loop (fun (s : Int × impl_Frac) a w => ∃ t_4, ∃ sum_5, s = (t_4, sum_5) ∧ Fr a 32 [(2, (.pointer (some ⟨b2, 0, none⟩))), (4, (.pointer (some ⟨b3, 0, none⟩))), (14, s1.v), (15, (.int .i64 (goLen p_l))), (16, (.int .i64 t_4))] ∧ St [] w0 w m [[⟨b3, [(.int .i64 sum_5.Num), (.int .i64 sum_5.Den)], 24⟩], [⟨b2, [(.int .i64 0), (.int .i64 0)], 24⟩]]) (fun (o : (impl_Frac) ⊕ (impl_Frac × Bool)) e a w => ∃ sum_11, o = .inl sum_11 ∧ e = .exit 0 ∧ Fr a 32 [(2, (.pointer (some ⟨b2, 0, none⟩))), (4, (.pointer (some ⟨b3, 0, none⟩)))] ∧ St [] w0 w m [[⟨b3, [(.int .i64 sum_11.Num), (.int .i64 sum_11.Den)], 24⟩], [⟨b2, [(.int .i64 0), (.int .i64 0)], 24⟩]]) hl2 ⟨_, _, rfl, hF.sub ⟨rfl, rfl, rfl, rfl, rfl, trivial⟩, hS⟩ ?_ ?_
    · clear hF hS
      rintro s a w st ⟨t_4, sum_5, rfl, hF, hS⟩ hb2
      unfold impl_SumFracs_l1 at hb2
      refine q_seq ?_
      refine q_region ?_
      refine q_x (v := (.bool (decide (t_4 < (goLen p_l))))) hF hS (ex_ibin rfl rfl rfl) rfl rfl fun a hF => ?_
      refine q_end (n_sq ?_)
      refine q_seq ?_
      rcases bcase (decide (t_4 < (goLen p_l))) with hc3 | hc3
      · have hb2 := cond_f hc3 hb2
        refine q_cond_f hF rfl hc3 ?_
        refine q_exit (x_sq ?_)
        obtain rfl := someI hb2
        exact ⟨nofun, .inl ⟨_, rfl, rfl, hF.sub ⟨rfl, rfl, trivial⟩, hS⟩⟩
      · have hb2 := cond_t hc3 hb2
        refine q_cond_t hF rfl hc3 ?_
        refine q_skipc (n_sq ?_)
        refine q_seq ?_
        refine q_block ?_
        refine q_seq ?_
        refine q_region ?_
        obtain ⟨e_6, he_6, hb2⟩ := bindS hb2
        obtain ⟨vs7, at7, d7⟩ := h1.at he_6 2 rfl
        obtain rfl : vs7 = [(.int .i64 e_6.Num), (.int .i64 e_6.Den)] := d7
        refine q_x (v := (elP s1 (t_4.toNat * 2))) hF hS (ex_indexAddr Try.underlying56 sz24 rfl rfl (h1.idx he_6)) rfl rfl fun a hF => ?_
        refine q_x (v := (.agg #[(.int .i64 e_6.Num), (.int .i64 e_6.Den)])) hF hS (ex_loadEA (us := [(.int .i64 e_6.Num), (.int .i64 e_6.Den)]) 0 Try.underlying24 rfl sz24 rfl ((at7).at) rfl rfl rfl) rfl rfl fun a hF => ?_
        refine q_alloc (cs := [(.int .i64 0), (.int .i64 0)]) hF hS rfl rfl rfl fun a w b8 hF hS => ?_
        refine q_store (vs := [(.int .i64 e_6.Num), (.int .i64 e_6.Den)]) (cs' := [(.int .i64 e_6.Num), (.int .i64 e_6.Den)]) 0 0 hF hS sz24 rfl rfl rfl rfl rfl rfl rfl rfl fun a w hF hS => ?_
        refine q_end (n_sq ?_)
        refine q_seq ?_
        refine q_region ?_
        refine q_x (v := (.agg #[(.int .i64 sum_5.Num), (.int .i64 sum_5.Den)])) hF hS (ex_loadA (vs := [(.int .i64 sum_5.Num), (.int .i64 sum_5.Den)]) 1 0 Try.underlying24 rfl sz24 rfl rfl rfl rfl) rfl rfl fun a hF => ?_
        refine q_x (v := (.agg #[(.int .i64 e_6.Num), (.int .i64 e_6.Den)])) hF hS (ex_loadA (vs := [(.int .i64 e_6.Num), (.int .i64 e_6.Den)]) 0 0 Try.underlying24 rfl sz24 rfl rfl rfl rfl) rfl rfl fun a hF => ?_
        obtain ⟨t_9, ht_9, hb2⟩ := bindS hb2
        refine q_call (vs := [(.agg #[(.int .i64 sum_5.Num), (.int .i64 sum_5.Den)]), (.agg #[(.int .i64 e_6.Num), (.int .i64 e_6.Den)])]) hF hS Try.func118 (by kernel_rfl) rfl rfl rfl (c_impl_AddFrac sum_5 e_6 t_9 ht_9 _ m hS.vis) ?_
        rintro a w _ rfl hF hS
        refine q_x (v := (.tuple #[(.agg #[(.int .i64 t_9.1.Num), (.int .i64 t_9.1.Den)]), (.bool t_9.2)])) hF hS (ex_move rfl) rfl rfl fun a hF => ?_
        refine q_x (v := (.agg #[(.int .i64 t_9.1.Num), (.int .i64 t_9.1.Den)])) hF hS (ex_extract rfl rfl) rfl rfl fun a hF => ?_
        refine q_x (v := (.bool t_9.2)) hF hS (ex_extract rfl rfl) rfl rfl fun a hF => ?_
        refine q_alloc (cs := [(.int .i64 0), (.int .i64 0)]) hF hS rfl rfl rfl fun a w b10 hF hS => ?_
        refine q_store (vs := [(.int .i64 t_9.1.Num), (.int .i64 t_9.1.Den)]) (cs' := [(.int .i64 t_9.1.Num), (.int .i64 t_9.1.Den)]) 0 0 hF hS sz24 rfl rfl rfl rfl rfl rfl rfl rfl fun a w hF hS => ?_
        refine q_x (v := (.bool t_9.2)) hF hS (ex_assign rfl) rfl rfl fun a hF => ?_
        refine q_end (n_sq ?_)
        refine q_seq ?_
        refine q_seq ?_
        refine q_region ?_
        refine q_x (v := (.bool t_9.2)) hF hS (ex_move rfl) rfl rfl fun a hF => ?_
        refine q_x (v := (.bool (!t_9.2))) hF hS (ex_not rfl) rfl rfl fun a hF => ?_
        refine q_end (n_sq ?_)
        rcases bcase (!t_9.2) with hc4 | hc4
        · have hb2 := cond_f hc4 hb2
          refine q_cond_f hF rfl hc4 ?_
          refine q_skipc (n_sq ?_)
          refine q_region ?_
          refine q_x (v := (.agg #[(.int .i64 t_9.1.Num), (.int .i64 t_9.1.Den)])) hF hS (ex_loadA (vs := [(.int .i64 t_9.1.Num), (.int .i64 t_9.1.Den)]) 0 0 Try.underlying24 rfl sz24 rfl rfl rfl rfl) rfl rfl fun a hF => ?_
          refine q_store (vs := [(.int .i64 t_9.1.Num), (.int .i64 t_9.1.Den)]) (cs' := [(.int .i64 t_9.1.Num), (.int .i64 t_9.1.Den)]) 2 0 hF hS sz24 rfl rfl rfl rfl rfl rfl rfl rfl fun a w hF hS => ?_
          refine q_end (n_ib (n_sq ?_))
          refine q_region ?_
          refine q_x (v := (.int .i64 (w64 (t_4 + 1)))) hF hS (ex_ibin rfl rfl rfl) rfl rfl fun a hF => ?_
          refine q_x (v := (.int .i64 (w64 (t_4 + 1)))) hF hS (ex_move rfl) rfl rfl fun a hF => ?_
          refine q_end ?_
          obtain rfl := someI hb2
          exact ⟨rfl, _, _, rfl, hF.sub ⟨rfl, rfl, rfl, rfl, rfl, trivial⟩, hS.mask [false, false, true, true]⟩
        · have hb2 := cond_t hc4 hb2
          refine q_cond_t hF rfl hc4 ?_
          refine q_seq ?_
          refine q_region ?_
          refine q_x (v := (.agg #[(.int .i64 0), (.int .i64 0)])) hF hS (ex_build (cells := [(.int .i64 0), (.int .i64 0)]) rfl (by kernel_rfl)) rfl rfl fun a hF => ?_
          refine q_store (vs := [(.int .i64 0), (.int .i64 0)]) (cs' := [(.int .i64 0), (.int .i64 0)]) 3 0 hF hS sz24 rfl rfl rfl rfl rfl rfl rfl rfl fun a w hF hS => ?_
          refine q_x (v := (.bool false)) hF hS (ex_assign rfl) rfl rfl fun a hF => ?_
          refine q_end (n_sq (q_ret (r_sq (r_ib (r_sq ?_)))))
          obtain rfl := someI hb2
          refine ⟨nofun, .inr fun ho => ?_⟩
          subst ho
          refine r_ib (r_sq ?_)
          obtain rfl := someI hr
          exact ret_of hF hS rfl (.cellA (us := [(.int .i64 0), (.int .i64 0)]) 3 0 Try.underlying24 rfl sz24 rfl rfl rfl rfl (.tmp rfl .nil)) rfl
    · rintro e a w ⟨sum_11, rfl, rfl, hF, hS⟩
      refine x_ib (n_sq ?_)
      refine q_seq ?_
      refine q_region ?_
      refine q_x (v := (.agg #[(.int .i64 sum_11.Num), (.int .i64 sum_11.Den)])) hF hS (ex_loadA (vs := [(.int .i64 sum_11.Num), (.int .i64 sum_11.Den)]) 0 0 Try.underlying24 rfl sz24 rfl rfl rfl rfl) rfl rfl fun a hF => ?_
      refine q_store (vs := [(.int .i64 sum_11.Num), (.int .i64 sum_11.Den)]) (cs' := [(.int .i64 sum_11.Num), (.int .i64 sum_11.Den)]) 1 0 hF hS sz24 rfl rfl rfl rfl rfl rfl rfl rfl fun a w hF hS => ?_
      refine q_x (v := (.bool true)) hF hS (ex_assign rfl) rfl rfl fun a hF => ?_
      refine q_end (n_sq (q_ret ?_))
      obtain rfl := someI hr
      exact ret_of hF hS rfl (.cellA (us := [(.int .i64 sum_11.Num), (.int .i64 sum_11.Den)]) 1 0 Try.underlying24 rfl sz24 rfl rfl rfl rfl (.tmp rfl .nil)) rfl
  · have hr := cond_t hc1 hr
    refine q_cond_t hF rfl hc1 ?_
    refine q_seq ?_
    refine q_region ?_
    refine q_x (v := (.agg #[(.int .i64 0), (.int .i64 0)])) hF hS (ex_build (cells := [(.int .i64 0), (.int .i64 0)]) rfl (by kernel_rfl)) rfl rfl fun a hF => ?_
    refine q_store (vs := [(.int .i64 0), (.int .i64 0)]) (cs' := [(.int .i64 0), (.int .i64 0)]) 0 0 hF hS sz24 rfl rfl rfl rfl rfl rfl rfl rfl fun a w hF hS => ?_
    refine q_x (v := (.bool false)) hF hS (ex_assign rfl) rfl rfl fun a hF => ?_
    refine q_end (n_sq (q_ret (r_sq ?_)))
    obtain rfl := someI hr
    exact ret_of hF hS rfl (.cellA (us := [(.int .i64 0), (.int .i64 0)]) 0 0 Try.underlying24 rfl sz24 rfl rfl rfl rfl (.tmp rfl .nil)) rfl

theorem c_impl_cmpFrac (p_a : impl_Frac) (p_b : impl_Frac) (r : Int) (hr : impl_cmpFrac p_a p_b = some r) (w0 : World) (m : Mem) (hv : Vis m w0) :
    Ret Try.prog 126 [(.agg #[(.int .i64 p_a.Num), (.int .i64 p_a.Den)]), (.agg #[(.int .i64 p_b.Num), (.int .i64 p_b.Den)])] w0 (fun v _ => v = (.int .i64 r)) := by
  unfold impl_cmpFrac at hr
  refine ret_start Try.func126 rfl 25 rfl rfl m hv fun a hF hS => ?_
  refine q_seq ?_
  refine q_region ?_
  refine q_box (cs := [(.int .i64 p_a.Num), (.int .i64 p_a.Den)]) hF hS rfl rfl rfl fun a w b1 hF hS => ?_
  refine q_box (cs := [(.int .i64 p_b.Num), (.int .i64 p_b.Den)]) hF hS rfl rfl rfl fun a w b2 hF hS => ?_
  refine q_x (v := (.int .i64 0)) hF hS (ex_assign rfl) rfl rfl fun a hF => ?_
  refine q_end (n_sq ?_)
  refine q_seq ?_
  refine e_region [] mixed fun w' hw' => ?_
  have hS := hS.below hw'
  refine e_p (v := (.pointer (some ⟨b1, 0, none⟩))) 0 hF rfl (ex_fieldAddr Try.underlying24 rfl sz3 rfl rfl) rfl rfl (by kernel_rfl) (by kernel_rfl) (by kernel_rfl) fun a hF => ?_
  refine e_x (v := (.int .i64 p_a.Num)) 1 hF hS rfl (ex_load1 1 0 Try.underlying3 rfl rfl rfl rfl) rfl rfl (by kernel_rfl) (by kernel_rfl) (by kernel_rfl) (by kernel_rfl) fun a hF => ?_
  refine e_p (v := (.pointer (some ⟨b2, 1, none⟩))) 2 hF rfl (ex_fieldAddr Try.underlying24 rfl sz3 rfl rfl) rfl rfl (by kernel_rfl) (by kernel_rfl) (by kernel_rfl) fun a hF => ?_
  refine e_x (v := (.int .i64 p_b.Den)) 3 hF hS rfl (ex_load1 0 0 Try.underlying3 rfl rfl rfl rfl) rfl rfl (by kernel_rfl) (by kernel_rfl) (by kernel_rfl) (by kernel_rfl) fun a hF => ?_
  refine e_p (v := (.int .i64 (w64 (p_a.Num * p_b.Den)))) 4 hF rfl (ex_ibin rfl rfl rfl) rfl rfl (by kernel_rfl) (by kernel_rfl) (by kernel_rfl) fun a hF => ?_
  refine e_p (v := (.pointer (some ⟨b2, 0, none⟩))) 5 hF rfl (ex_fieldAddr Try.underlying24 rfl sz3 rfl rfl) rfl rfl (by kernel_rfl) (by kernel_rfl) (by kernel_rfl) fun a hF => ?_
  refine e_x (v := (.int .i64 p_b.Num)) 6 hF hS rfl (ex_load1 0 0 Try.underlying3 rfl rfl rfl rfl) rfl rfl (by kernel_rfl) (by kernel_rfl) (by kernel_rfl) (by kernel_rfl) fun a hF => ?_
  refine e_p (v := (.pointer (some ⟨b1, 1, none⟩))) 7 hF rfl (ex_fieldAddr Try.underlying24 rfl sz3 rfl rfl) rfl rfl (by kernel_rfl) (by kernel_rfl) (by kernel_rfl) fun a hF => ?_
  refine e_x (v := (.int .i64 p_a.Den)) 8 hF hS rfl (ex_load1 1 0 Try.underlying3 rfl rfl rfl rfl) rfl rfl (by kernel_rfl) (by kernel_rfl) (by kernel_rfl) (by kernel_rfl) fun a hF => ?_
  refine e_p (v := (.int .i64 (w64 (p_b.Num * p_a.Den)))) 9 hF rfl (ex_ibin rfl rfl rfl) rfl rfl (by kernel_rfl) (by kernel_rfl) (by kernel_rfl) fun a hF => ?_
  refine e_p (v := (.int .i64 (w64 (p_a.Num * p_b.Den)))) 10 hF rfl (ex_assign rfl) rfl rfl (by kernel_rfl) (by kernel_rfl) (by kernel_rfl) fun a hF => ?_
  refine e_p (v := (.int .i64 (w64 (p_b.Num * p_a.Den)))) 11 hF rfl (ex_assign rfl) rfl rfl (by kernel_rfl) (by kernel_rfl) (by kernel_rfl) fun a hF => ?_
  refine e_end (by kernel_rfl) (n_sq ?_) _
  refine q_seq ?_
  refine q_block ?_
  refine q_seq ?_
  refine q_region ?_
  refine q_x (v := (.int .i64 (w64 (p_a.Num * p_b.Den)))) hF hS (ex_move rfl) rfl rfl fun a hF => ?_
  refine q_x (v := (.int .i64 (w64 (p_b.Num * p_a.Den)))) hF hS (ex_move rfl) rfl rfl fun a hF => ?_
  refine q_x (v := (.bool (decide ((w64 (p_a.Num * p_b.Den)) < (w64 (p_b.Num * p_a.Den)))))) hF hS (ex_ibin rfl rfl rfl) rfl rfl fun a hF => ?_
  refine q_x (v := (.bool (decide ((w64 (p_a.Num * p_b.Den)) < (w64 (p_b.Num * p_a.Den)))))) hF hS (ex_assign rfl) rfl rfl fun a hF => ?_
  refine q_end (n_sq ?_)
  rcases bcase (decide ((w64 (p_a.Num * p_b.Den)) < (w64 (p_b.Num * p_a.Den)))) with hc1 | hc1
  · have hr := cond_f hc1 hr
    refine q_cond_f hF rfl hc1 ?_
    refine q_seq ?_
    refine q_region ?_
    refine q_x (v := (.int .i64 (w64 (p_a.Num * p_b.Den)))) hF hS (ex_move rfl) rfl rfl fun a hF => ?_
    refine q_x (v := (.int .i64 (w64 (p_b.Num * p_a.Den)))) hF hS (ex_move rfl) rfl rfl fun a hF => ?_
    refine q_x (v := (.bool (decide ((w64 (p_b.Num * p_a.Den)) < (w64 (p_a.Num * p_b.Den)))))) hF hS (ex_ibin rfl rfl rfl) rfl rfl fun a hF => ?_
    refine q_x (v := (.bool (decide ((w64 (p_b.Num * p_a.Den)) < (w64 (p_a.Num * p_b.Den)))))) hF hS (ex_assign rfl) rfl rfl fun a hF => ?_
    refine q_end (n_sq ?_)
    rcases bcase (decide ((w64 (p_b.Num * p_a.Den)) < (w64 (p_a.Num * p_b.Den)))) with hc2 | hc2
    · have hr := cond_f hc2 hr
      refine q_cond_f hF rfl hc2 ?_
      refine q_skipc (n_ib (n_sq ?_))
      refine q_seq ?_
      refine q_region ?_
      refine q_x (v := (.int .i64 0)) hF hS (ex_assign rfl) rfl rfl fun a hF => ?_
      refine q_end (n_sq (q_ret ?_))
      obtain rfl := someI hr
      exact ret_of hF hS rfl (.tmp rfl .nil) rfl
    · have hr := cond_t hc2 hr
      refine q_cond_t hF rfl hc2 ?_
      refine q_seq ?_
      refine q_region ?_
      refine q_x (v := (.int .i64 1)) hF hS (ex_assign rfl) rfl rfl fun a hF => ?_
      refine q_end (n_sq (q_ret (r_ib (r_sq ?_))))
      obtain rfl := someI hr
      exact ret_of hF hS rfl (.tmp rfl .nil) rfl
  · have hr := cond_t hc1 hr
    refine q_cond_t hF rfl hc1 ?_
    refine q_seq ?_
    refine q_region ?_
    refine q_x (v := (.int .i64 (-1))) hF hS (ex_assign rfl) rfl rfl fun a hF => ?_
    refine q_end (n_sq (q_ret (r_ib (r_sq ?_))))
    obtain rfl := someI hr
    exact ret_of hF hS rfl (.tmp rfl .nil) rfl

theorem c_impl_WorstRatio (p_a : impl_Frac) (p_lo : Int) (p_hi : Int) (r : impl_Frac × Bool) (hr : impl_WorstRatio p_a p_lo p_hi = some r) (w0 : World) (m : Mem) (hv : Vis m w0) :
    Ret Try.prog 42 [(.agg #[(.int .i64 p_a.Num), (.int .i64 p_a.Den)]), (.int .i64 p_lo), (.int .i64 p_hi)] w0 (fun v _ => v = (.tuple #[(.agg #[(.int .i64 r.1.Num), (.int .i64 r.1.Den)]), (.bool r.2)])) := by
  unfold impl_WorstRatio at hr
  refine ret_start Try.func42 rfl 104 rfl rfl m hv fun a hF hS => ?_
  refine q_seq ?_
  refine q_region ?_
  refine q_box (cs := [(.int .i64 p_a.Num), (.int .i64 p_a.Den)]) hF hS rfl rfl rfl fun a w b1 hF hS => ?_
  refine q_alloc (cs := [(.int .i64 0), (.int .i64 0)]) hF hS rfl rfl rfl fun a w b2 hF hS => ?_
  refine q_x (v := (.bool false)) hF hS (ex_assign rfl) rfl rfl fun a hF => ?_
  refine q_end (n_sq ?_)
  refine q_seq ?_
  refine q_seq ?_
  obtain ⟨t_5, hj1, hr⟩ := bindS hr
  refine q_join (fun a w => Fr a 104 [(1, (.int .i64 p_lo)), (2, (.int .i64 p_hi)), (3, (.pointer (some ⟨b1, 0, none⟩))), (6, (.pointer (some ⟨b2, 0, none⟩))), (26, (.bool t_5))] ∧ St [] w0 w m [[⟨b2, [(.int .i64 0), (.int .i64 0)], 24⟩], [⟨b1, [(.int .i64 p_a.Num), (.int .i64 p_a.Den)], 24⟩]]) ?_ ?_
  · refine q_region ?_
    refine q_x (v := (.agg #[(.int .i64 p_a.Num), (.int .i64 p_a.Den)])) hF hS (ex_loadA (vs := [(.int .i64 p_a.Num), (.int .i64 p_a.Den)]) 1 0 Try.underlying24 rfl sz24 rfl rfl rfl rfl) rfl rfl fun a hF => ?_
    obtain ⟨t_3, ht_3, hj1⟩ := bindS hj1
    refine q_call (vs := [(.agg #[(.int .i64 p_a.Num), (.int .i64 p_a.Den)])]) hF hS Try.func120 (by kernel_rfl) rfl rfl rfl (c_impl_isRatio p_a t_3 ht_3 _ m hS.vis) ?_
    rintro a w _ rfl hF hS
    refine q_x (v := (.bool (!t_3))) hF hS (ex_not rfl) rfl rfl fun a hF => ?_
    refine q_x (v := (.bool (!t_3))) hF hS (ex_move rfl) rfl rfl fun a hF => ?_
    rcases bcase (!t_3) with hc2 | hc2
    · have hj1 := cond_f hc2 hj1
      refine q_xg (v := (.int .i64 p_lo)) hF hS (ex_move rfl) (wanted_t hF rfl rfl rfl hc2) rfl fun a hF => ?_
      refine q_xg (v := (.int .i64 p_hi)) hF hS (ex_move rfl) (wanted_t hF rfl rfl rfl hc2) rfl fun a hF => ?_
      obtain ⟨t_4, ht_4, hj1⟩ := bindS hj1
      refine q_callg (vs := [(.int .i64 p_lo), (.int .i64 p_hi)]) hF hS (wanted_t hF rfl rfl rfl hc2) Try.func121 (by kernel_rfl) rfl rfl rfl (c_impl_isClamp p_lo p_hi t_4 ht_4 _ m hS.vis) ?_
      rintro a w _ rfl hF hS
      refine q_xg (v := (.bool (!t_4))) hF hS (ex_not rfl) (wanted_t hF rfl rfl rfl hc2) rfl fun a hF => ?_
      refine q_x (v := (.bool (!t_4))) hF hS (ex_pick_f rfl rfl hc2) rfl rfl fun a hF => ?_
      refine q_end (n_jn ?_)
      obtain rfl := someI hj1
      exact ⟨hF.sub ⟨rfl, rfl, rfl, rfl, rfl, trivial⟩, hS⟩
    · have hj1 := cond_t hc2 hj1
      refine q_skip hF (wanted_f hF rfl rfl rfl hc2 rfl) rfl fun a hF => ?_
      refine q_skip hF (wanted_f hF rfl rfl rfl hc2 rfl) rfl fun a hF => ?_
      refine q_skip hF (wanted_f hF rfl rfl rfl hc2 rfl) rfl fun a hF => ?_
      refine q_skip hF (wanted_f hF rfl rfl rfl hc2 rfl) rfl fun a hF => ?_
      refine q_x (v := (.bool true)) hF hS (ex_pick_t rfl rfl hc2) rfl rfl fun a hF => ?_
      refine q_end (n_jn ?_)
      obtain rfl := someI hj1
      exact ⟨hF.sub ⟨rfl, rfl, rfl, rfl, rfl, trivial⟩, hS⟩
  · rintro a w ⟨hF, hS⟩
    refine n_sq ?_
    rcases bcase (t_5) with hc3 | hc3
    · have hr := cond_f hc3 hr
      refine q_cond_f hF rfl hc3 ?_
      refine q_skipc (n_sq ?_)
      refine q_seq ?_
      refine q_region ?_
      refine q_x (v := (.agg #[(.int .i64 1), (.int .i64 1)])) hF hS (ex_build (cells := [(.int .i64 1), (.int .i64 1)]) rfl (by kernel_rfl)) rfl rfl fun a hF => ?_
      refine q_alloc (cs := [(.int .i64 0), (.int .i64 0)]) hF hS rfl rfl rfl fun a w b6 hF hS => ?_
      refine q_store (vs := [(.int .i64 1), (.int .i64 1)]) (cs' := [(.int .i64 1), (.int .i64 1)]) 0 0 hF hS sz24 rfl rfl rfl rfl rfl rfl rfl rfl fun a w hF hS => ?_
      refine q_end (n_sq ?_)
      refine q_seq ?_
      refine q_seq ?_
      refine q_region ?_
      refine q_x (v := (.int .i64 p_lo)) hF hS (ex_move rfl) rfl rfl fun a hF => ?_
      refine q_x (v := (.int .i64 p_lo)) hF hS (ex_assign rfl) rfl rfl fun a hF => ?_
      refine q_end (n_sq ?_)
      refine q_block ?_
      obtain ⟨o4, hl4, hr⟩ := bindS hr
      refine q_loop (fun (s : Int × impl_Frac) a w => ∃ x_7, ∃ worst_8, s = (x_7, worst_8) ∧ Fr a 104 [(1, (.int .i64 p_lo)), (2, (.int .i64 p_hi)), (3, (.pointer (some ⟨b1, 0, none⟩))), (6, (.pointer (some ⟨b2, 0, none⟩))), (8, (.pointer (some ⟨b6, 0, none⟩))), (9, (.int .i64 x_7))] ∧ St [] w0 w m [[⟨b6, [(.int .i64 worst_8.Num), (.int .i64 worst_8.Den)], 24⟩], [⟨b2, [(.int .i64 0), (.int .i64 0)], 24⟩], [⟨b1, [(.int .i64 p_a.Num), (.int .i64 p_a.Den)], 24⟩]]) (fun (o : (impl_Frac) ⊕ (impl_Frac × Bool)) e a w => ∃ worst_35, o = .inl worst_35 ∧ e = .exit 0 ∧ Fr a 104 [(6, (.pointer (some ⟨b2, 0, none⟩))), (8, (.pointer (some ⟨b6, 0, none⟩)))] ∧ St [] w0 w m [[⟨b6, [(.int .i64 worst_35.Num), (.int .i64 worst_35.Den)], 24⟩], [⟨b2, [(.int .i64 0), (.int .i64 0)], 24⟩]]) hl4 ⟨_, _, rfl, hF.sub ⟨rfl, rfl, rfl, rfl, rfl, rfl, trivial⟩, hS⟩ ?_ ?_
      · clear hF hS
        rintro s a w st ⟨x_7, worst_8, rfl, hF, hS⟩ hb4
        unfold impl_WorstRatio_l1 at hb4
        refine q_seq ?_
        refine q_seq ?_
        refine q_region ?_
        refine q_x (v := (.int .i64 x_7)) hF hS (ex_move rfl) rfl rfl fun a hF => ?_
        refine q_x (v := (.int .i64 p_hi)) hF hS (ex_move rfl) rfl rfl fun a hF => ?_
        refine q_x (v := (.bool (decide (x_7 < p_hi)))) hF hS (ex_ibin rfl rfl rfl) rfl rfl fun a hF => ?_
        refine q_end (n_sq ?_)
        rcases bcase (decide (x_7 < p_hi)) with hc5 | hc5
        · have hb4 := cond_f hc5 hb4
          refine q_cond_f hF rfl hc5 ?_
          refine q_exit (x_sq ?_)
          obtain rfl := someI hb4
          exact ⟨nofun, .inl ⟨_, rfl, rfl, hF.sub ⟨rfl, rfl, trivial⟩, hS.mask [true, true, false]⟩⟩
        · have hb4 := cond_t hc5 hb4
          refine q_cond_t hF rfl hc5 ?_
          refine q_skipc (n_sq ?_)
          refine q_seq ?_
          refine q_block ?_
          refine q_seq ?_
          refine q_region ?_
          refine q_x (v := (.agg #[(.int .i64 p_a.Num), (.int .i64 p_a.Den)])) hF hS (ex_loadA (vs := [(.int .i64 p_a.Num), (.int .i64 p_a.Den)]) 2 0 Try.underlying24 rfl sz24 rfl rfl rfl rfl) rfl rfl fun a hF => ?_
          refine q_x (v := (.int .i64 p_lo)) hF hS (ex_move rfl) rfl rfl fun a hF => ?_
          refine q_x (v := (.int .i64 p_hi)) hF hS (ex_move rfl) rfl rfl fun a hF => ?_
          refine q_x (v := (.int .i64 x_7)) hF hS (ex_move rfl) rfl rfl fun a hF => ?_
          obtain ⟨t_9, ht_9, hb4⟩ := bindS hb4
          refine q_call (vs := [(.agg #[(.int .i64 p_a.Num), (.int .i64 p_a.Den)]), (.int .i64 p_lo), (.int .i64 p_hi), (.int .i64 x_7)]) hF hS Try.func122 (by kernel_rfl) rfl rfl rfl (c_impl_clampedMasses p_a p_lo p_hi x_7 t_9 ht_9 _ m hS.vis) ?_
          rintro a w _ ⟨q11, s11, rfl, hR10, h11⟩ hF hS2
          have hS : St _ _ _ _ [q11, [⟨b6, [(.int .i64 worst_8.Num), (.int .i64 worst_8.Den)], 24⟩], [⟨b2, [(.int .i64 0), (.int .i64 0)], 24⟩], [⟨b1, [(.int .i64 p_a.Num), (.int .i64 p_a.Den)], 24⟩]] := hS.joinF hR10
          refine q_x (v := (.tuple #[s11.v, (.bool t_9.2)])) hF hS (ex_move rfl) rfl rfl fun a hF => ?_
          refine q_x (v := s11.v) hF hS (ex_extract rfl rfl) rfl rfl fun a hF => ?_
          refine q_x (v := (.bool t_9.2)) hF hS (ex_extract rfl rfl) rfl rfl fun a hF => ?_
          refine q_x (v := s11.v) hF hS (ex_assign rfl) rfl rfl fun a hF => ?_
          refine q_x (v := (.bool t_9.2)) hF hS (ex_assign rfl) rfl rfl fun a hF => ?_
          refine q_end (n_sq ?_)
          refine q_seq ?_
          refine q_seq ?_
          refine q_region ?_
          refine q_x (v := (.bool t_9.2)) hF hS (ex_move rfl) rfl rfl fun a hF => ?_
          refine q_x (v := (.bool (!t_9.2))) hF hS (ex_not rfl) rfl rfl fun a hF => ?_
          refine q_end (n_sq ?_)
          rcases bcase (!t_9.2) with hc6 | hc6
          · have hb4 := cond_f hc6 hb4
            refine q_cond_f hF rfl hc6 ?_
            refine q_skipc (n_sq ?_)
            refine q_seq ?_
            refine q_region ?_
            refine q_x (v := (.agg #[(.int .i64 p_a.Num), (.int .i64 p_a.Den)])) hF hS (ex_loadA (vs := [(.int .i64 p_a.Num), (.int .i64 p_a.Den)]) 3 0 Try.underlying24 rfl sz24 rfl rfl rfl rfl) rfl rfl fun a hF => ?_
            refine q_x (v := (.int .i64 p_lo)) hF hS (ex_move rfl) rfl rfl fun a hF => ?_
            refine q_x (v := (.int .i64 p_hi)) hF hS (ex_move rfl) rfl rfl fun a hF => ?_
            refine q_x (v := (.int .i64 x_7)) hF hS (ex_move rfl) rfl rfl fun a hF => ?_
            refine q_x (v := (.int .i64 (w64 (x_7 + 1)))) hF hS (ex_ibin rfl rfl rfl) rfl rfl fun a hF => ?_
            obtain ⟨t_12, ht_12, hb4⟩ := bindS hb4
            refine q_call (vs := [(.agg #[(.int .i64 p_a.Num), (.int .i64 p_a.Den)]), (.int .i64 p_lo), (.int .i64 p_hi), (.int .i64 (w64 (x_7 + 1)))]) hF hS Try.func122 (by kernel_rfl) rfl rfl rfl (c_impl_clampedMasses p_a p_lo p_hi (w64 (x_7 + 1)) t_12 ht_12 _ m hS.vis) ?_
            rintro a w _ ⟨q14, s14, rfl, hR13, h14⟩ hF hS2
            have hS : St _ _ _ _ [q14, q11, [⟨b6, [(.int .i64 worst_8.Num), (.int .i64 worst_8.Den)], 24⟩], [⟨b2, [(.int .i64 0), (.int .i64 0)], 24⟩], [⟨b1, [(.int .i64 p_a.Num), (.int .i64 p_a.Den)], 24⟩]] := hS.joinF hR13
            refine q_x (v := (.tuple #[s14.v, (.bool t_12.2)])) hF hS (ex_move rfl) rfl rfl fun a hF => ?_
            refine q_x (v := s14.v) hF hS (ex_extract rfl rfl) rfl rfl fun a hF => ?_
            refine q_x (v := (.bool t_12.2)) hF hS (ex_extract rfl rfl) rfl rfl fun a hF => ?_
            refine q_x (v := s14.v) hF hS (ex_assign rfl) rfl rfl fun a hF => ?_
            refine q_x (v := (.bool t_12.2)) hF hS (ex_assign rfl) rfl rfl fun a hF => ?_
            refine q_end (n_sq ?_)
            refine q_seq ?_
            refine q_seq ?_
            refine q_region ?_
            refine q_x (v := (.bool t_12.2)) hF hS (ex_move rfl) rfl rfl fun a hF => ?_
            refine q_x (v := (.bool (!t_12.2))) hF hS (ex_not rfl) rfl rfl fun a hF => ?_
            refine q_end (n_sq ?_)
            rcases bcase (!t_12.2) with hc7 | hc7
            · have hb4 := cond_f hc7 hb4
              refine q_cond_f hF rfl hc7 ?_
              refine q_skipc (n_sq ?_)
              refine q_seq ?_
              refine q_region ?_
              refine q_x (v := s11.v) hF hS (ex_move rfl) rfl rfl fun a hF => ?_
              refine q_x (v := (.int .i64 (goLen t_9.1))) hF hS (ex_len Try.underlying56 rfl h11.len) rfl rfl fun a hF => ?_
              refine q_x (v := (.int .i64 0)) hF hS (ex_move rfl) rfl rfl fun a hF => ?_
              refine q_end (n_sq ?_)
              refine q_block ?_
              obtain ⟨o8, hl8, hb4⟩ := bindS hb4
              refine q_loop (fun (s : Int × impl_Frac) a w => ∃ t_15, ∃ worst_16, s = (t_15, worst_16) ∧ Fr a 104 [(1, (.int .i64 p_lo)), (2, (.int .i64 p_hi)), (3, (.pointer (some ⟨b1, 0, none⟩))), (6, (.pointer (some ⟨b2, 0, none⟩))), (8, (.pointer (some ⟨b6, 0, none⟩))), (9, (.int .i64 x_7)), (10, s11.v), (12, s14.v), (59, (.int .i64 (goLen t_9.1))), (60, (.int .i64 t_15))] ∧ St [] w0 w m [q14, q11, [⟨b6, [(.int .i64 worst_16.Num), (.int .i64 worst_16.Den)], 24⟩], [⟨b2, [(.int .i64 0), (.int .i64 0)], 24⟩], [⟨b1, [(.int .i64 p_a.Num), (.int .i64 p_a.Den)], 24⟩]]) (fun (o : (impl_Frac) ⊕ (Stp (Int × impl_Frac) ((impl_Frac) ⊕ (impl_Frac × Bool)))) e a w => ∃ worst_34, o = .inl worst_34 ∧ e = .exit 2 ∧ Fr a 104 [(1, (.int .i64 p_lo)), (2, (.int .i64 p_hi)), (3, (.pointer (some ⟨b1, 0, none⟩))), (6, (.pointer (some ⟨b2, 0, none⟩))), (8, (.pointer (some ⟨b6, 0, none⟩))), (9, (.int .i64 x_7))] ∧ St [] w0 w m [[⟨b6, [(.int .i64 worst_34.Num), (.int .i64 worst_34.Den)], 24⟩], [⟨b2, [(.int .i64 0), (.int .i64 0)], 24⟩], [⟨b1, [(.int .i64 p_a.Num), (.int .i64 p_a.Den)], 24⟩]]) hl8 ⟨_, _, rfl, hF.sub ⟨rfl, rfl, rfl, rfl, rfl, rfl, rfl, rfl, rfl, rfl, trivial⟩, hS⟩ ?_ ?_
              · clear hF hS
                rintro s a w st ⟨t_15, worst_16, rfl, hF, hS⟩ hb8
                unfold impl_WorstRatio_l2 at hb8
                refine q_seq ?_
                refine q_region ?_
                refine q_x (v := (.bool (decide (t_15 < (goLen t_9.1))))) hF hS (ex_ibin rfl rfl rfl) rfl rfl fun a hF => ?_
                refine q_end (n_sq ?_)
                refine q_seq ?_
                rcases bcase (decide (t_15 < (goLen t_9.1))) with hc9 | hc9
                · have hb8 := cond_f hc9 hb8
                  refine q_cond_f hF rfl hc9 ?_
                  refine q_exit (x_sq ?_)
                  obtain rfl := someI hb8
                  exact ⟨nofun, .inl ⟨_, rfl, rfl, hF.sub ⟨rfl, rfl, rfl, rfl, rfl, rfl, trivial⟩, hS.mask [false, false, true, true, true]⟩⟩
                · have hb8 := cond_t hc9 hb8
                  refine q_cond_t hF rfl hc9 ?_
                  refine q_skipc (n_sq ?_)
                  refine q_seq ?_
                  refine q_block ?_
                  refine q_seq ?_
                  refine q_region ?_
                  refine q_x (v := (.int .i64 t_15)) hF hS (ex_move rfl) rfl rfl fun a hF => ?_
                  refine q_x (v := (.int .i64 t_15)) hF hS (ex_assign rfl) rfl rfl fun a hF => ?_
                  refine q_end (n_sq ?_)
                  refine q_seq ?_
                  refine e_region [] mixed fun w' hw' => ?_
                  have hS := hS.below hw'
                  refine e_p (v := s11.v) 0 hF rfl (ex_move rfl) rfl rfl (by kernel_rfl) (by kernel_rfl) (by kernel_rfl) fun a hF => ?_
                  refine e_p (v := (.int .i64 t_15)) 1 hF rfl (ex_move rfl) rfl rfl (by kernel_rfl) (by kernel_rfl) (by kernel_rfl) fun a hF => ?_
                  obtain ⟨e_17, he_17, hb8⟩ := bindS hb8
                  obtain ⟨vs18, at18, d18⟩ := h11.at he_17 2 rfl
                  obtain rfl : vs18 = [(.int .i64 e_17.Num), (.int .i64 e_17.Den)] := d18
                  refine e_p (v := (elP s11 (t_15.toNat * 2))) 2 hF rfl (ex_indexAddr Try.underlying56 sz24 rfl rfl (h11.idx he_17)) rfl rfl (by kernel_rfl) (by kernel_rfl) (by kernel_rfl) fun a hF => ?_
                  refine e_x (v := (.agg #[(.int .i64 e_17.Num), (.int .i64 e_17.Den)])) 3 hF hS rfl (ex_loadEA (us := [(.int .i64 e_17.Num), (.int .i64 e_17.Den)]) 0 Try.underlying24 rfl sz24 rfl (at18.at 1 rfl) rfl rfl rfl) rfl rfl (by kernel_rfl) (by kernel_rfl) (by kernel_rfl) (by kernel_rfl) fun a hF => ?_
                  refine e_p (v := s14.v) 4 hF rfl (ex_move rfl) rfl rfl (by kernel_rfl) (by kernel_rfl) (by kernel_rfl) fun a hF => ?_
                  refine e_p (v := (.int .i64 t_15)) 5 hF rfl (ex_move rfl) rfl rfl (by kernel_rfl) (by kernel_rfl) (by kernel_rfl) fun a hF => ?_
                  obtain ⟨e_19, he_19, hb8⟩ := bindS hb8
                  obtain ⟨vs20, at20, d20⟩ := h14.at he_19 2 rfl
                  obtain rfl : vs20 = [(.int .i64 e_19.Num), (.int .i64 e_19.Den)] := d20
                  refine e_p (v := (elP s14 (t_15.toNat * 2))) 6 hF rfl (ex_indexAddr Try.underlying56 sz24 rfl rfl (h14.idx he_19)) rfl rfl (by kernel_rfl) (by kernel_rfl) (by kernel_rfl) fun a hF => ?_
                  refine e_x (v := (.agg #[(.int .i64 e_19.Num), (.int .i64 e_19.Den)])) 7 hF hS rfl (ex_loadEA (us := [(.int .i64 e_19.Num), (.int .i64 e_19.Den)]) 0 Try.underlying24 rfl sz24 rfl (at20.at 0 rfl) rfl rfl rfl) rfl rfl (by kernel_rfl) (by kernel_rfl) (by kernel_rfl) (by kernel_rfl) fun a hF => ?_
                  refine e_p (v := (.agg #[(.int .i64 e_17.Num), (.int .i64 e_17.Den), (.int .i64 e_19.Num), (.int .i64 e_19.Den)])) 8 hF rfl (ex_build (cells := [(.int .i64 e_17.Num), (.int .i64 e_17.Den), (.int .i64 e_19.Num), (.int .i64 e_19.Den)]) rfl (by kernel_rfl)) rfl rfl (by kernel_rfl) (by kernel_rfl) (by kernel_rfl) fun a hF => ?_
                  refine e_p (v := s14.v) 9 hF rfl (ex_move rfl) rfl rfl (by kernel_rfl) (by kernel_rfl) (by kernel_rfl) fun a hF => ?_
                  refine e_p (v := (.int .i64 t_15)) 10 hF rfl (ex_move rfl) rfl rfl (by kernel_rfl) (by kernel_rfl) (by kernel_rfl) fun a hF => ?_
                  obtain ⟨e_21, he_21, hb8⟩ := bindS hb8
                  obtain ⟨vs22, at22, d22⟩ := h14.at he_21 2 rfl
                  obtain rfl : vs22 = [(.int .i64 e_21.Num), (.int .i64 e_21.Den)] := d22
                  refine e_p (v := (elP s14 (t_15.toNat * 2))) 11 hF rfl (ex_indexAddr Try.underlying56 sz24 rfl rfl (h14.idx he_21)) rfl rfl (by kernel_rfl) (by kernel_rfl) (by kernel_rfl) fun a hF => ?_
                  refine e_x (v := (.agg #[(.int .i64 e_21.Num), (.int .i64 e_21.Den)])) 12 hF hS rfl (ex_loadEA (us := [(.int .i64 e_21.Num), (.int .i64 e_21.Den)]) 0 Try.underlying24 rfl sz24 rfl (at22.at 0 rfl) rfl rfl rfl) rfl rfl (by kernel_rfl) (by kernel_rfl) (by kernel_rfl) (by kernel_rfl) fun a hF => ?_
                  refine e_p (v := s11.v) 13 hF rfl (ex_move rfl) rfl rfl (by kernel_rfl) (by kernel_rfl) (by kernel_rfl) fun a hF => ?_
                  refine e_p (v := (.int .i64 t_15)) 14 hF rfl (ex_move rfl) rfl rfl (by kernel_rfl) (by kernel_rfl) (by kernel_rfl) fun a hF => ?_
                  obtain ⟨e_23, he_23, hb8⟩ := bindS hb8
                  obtain ⟨vs24, at24, d24⟩ := h11.at he_23 2 rfl
                  obtain rfl : vs24 = [(.int .i64 e_23.Num), (.int .i64 e_23.Den)] := d24
                  refine e_p (v := (elP s11 (t_15.toNat * 2))) 15 hF rfl (ex_indexAddr Try.underlying56 sz24 rfl rfl (h11.idx he_23)) rfl rfl (by kernel_rfl) (by kernel_rfl) (by kernel_rfl) fun a hF => ?_
                  refine e_x (v := (.agg #[(.int .i64 e_23.Num), (.int .i64 e_23.Den)])) 16 hF hS rfl (ex_loadEA (us := [(.int .i64 e_23.Num), (.int .i64 e_23.Den)]) 0 Try.underlying24 rfl sz24 rfl (at24.at 1 rfl) rfl rfl rfl) rfl rfl (by kernel_rfl) (by kernel_rfl) (by kernel_rfl) (by kernel_rfl) fun a hF => ?_
                  refine e_p (v := (.agg #[(.int .i64 e_21.Num), (.int .i64 e_21.Den), (.int .i64 e_23.Num), (.int .i64 e_23.Den)])) 17 hF rfl (ex_build (cells := [(.int .i64 e_21.Num), (.int .i64 e_21.Den), (.int .i64 e_23.Num), (.int .i64 e_23.Den)]) rfl (by kernel_rfl)) rfl rfl (by kernel_rfl) (by kernel_rfl) (by kernel_rfl) fun a hF => ?_
                  refine e_p (v := (.agg #[(.int .i64 e_17.Num), (.int .i64 e_17.Den), (.int .i64 e_19.Num), (.int .i64 e_19.Den), (.int .i64 e_21.Num), (.int .i64 e_21.Den), (.int .i64 e_23.Num), (.int .i64 e_23.Den)])) 18 hF rfl (ex_build (cells := [(.int .i64 e_17.Num), (.int .i64 e_17.Den), (.int .i64 e_19.Num), (.int .i64 e_19.Den), (.int .i64 e_21.Num), (.int .i64 e_21.Den), (.int .i64 e_23.Num), (.int .i64 e_23.Den)]) rfl (by kernel_rfl)) rfl rfl (by kernel_rfl) (by kernel_rfl) (by kernel_rfl) fun a hF => ?_
                  refine e_p (v := (.int .i64 0)) 19 hF rfl (ex_move rfl) rfl rfl (by kernel_rfl) (by kernel_rfl) (by kernel_rfl) fun a hF => ?_
                  refine e_end (by kernel_rfl) (n_sq ?_) _
                  refine q_block ?_
                  obtain ⟨o10, hl10, hb8⟩ := bindS hb8
                  refine q_loop (fun (s : Int × impl_Frac) a w => ∃ t_25, ∃ worst_26, s = (t_25, worst_26) ∧ Fr a 104 [(1, (.int .i64 p_lo)), (2, (.int .i64 p_hi)), (3, (.pointer (some ⟨b1, 0, none⟩))), (6, (.pointer (some ⟨b2, 0, none⟩))), (8, (.pointer (some ⟨b6, 0, none⟩))), (9, (.int .i64 x_7)), (10, s11.v), (12, s14.v), (59, (.int .i64 (goLen t_9.1))), (60, (.int .i64 t_15)), (81, (.agg #[(.int .i64 e_17.Num), (.int .i64 e_17.Den), (.int .i64 e_19.Num), (.int .i64 e_19.Den), (.int .i64 e_21.Num), (.int .i64 e_21.Den), (.int .i64 e_23.Num), (.int .i64 e_23.Den)])), (82, (.int .i64 t_25))] ∧ St [] w0 w m [q14, q11, [⟨b6, [(.int .i64 worst_26.Num), (.int .i64 worst_26.Den)], 24⟩], [⟨b2, [(.int .i64 0), (.int .i64 0)], 24⟩], [⟨b1, [(.int .i64 p_a.Num), (.int .i64 p_a.Den)], 24⟩]]) (fun (o : (impl_Frac) ⊕ (Stp (Int × impl_Frac) ((impl_Frac) ⊕ (Stp (Int × impl_Frac) ((impl_Frac) ⊕ (impl_Frac × Bool)))))) e a w => ∃ worst_33, o = .inl worst_33 ∧ e = .exit 4 ∧ Fr a 104 [(1, (.int .i64 p_lo)), (2, (.int .i64 p_hi)), (3, (.pointer (some ⟨b1, 0, none⟩))), (6, (.pointer (some ⟨b2, 0, none⟩))), (8, (.pointer (some ⟨b6, 0, none⟩))), (9, (.int .i64 x_7)), (10, s11.v), (12, s14.v), (59, (.int .i64 (goLen t_9.1))), (60, (.int .i64 t_15))] ∧ St [] w0 w m [q11, q14, [⟨b6, [(.int .i64 worst_33.Num), (.int .i64 worst_33.Den)], 24⟩], [⟨b2, [(.int .i64 0), (.int .i64 0)], 24⟩], [⟨b1, [(.int .i64 p_a.Num), (.int .i64 p_a.Den)], 24⟩]]) hl10 ⟨_, _, rfl, hF.sub ⟨rfl, rfl, rfl, rfl, rfl, rfl, rfl, rfl, rfl, rfl, rfl, rfl, trivial⟩, hS⟩ ?_ ?_
                  · clear hF hS
                    rintro s a w st ⟨t_25, worst_26, rfl, hF, hS⟩ hb10
                    unfold impl_WorstRatio_l3 at hb10
                    refine q_seq ?_
                    refine q_region ?_
                    refine q_x (v := (.bool (decide (t_25 < 2)))) hF hS (ex_ibin rfl rfl rfl) rfl rfl fun a hF => ?_
                    refine q_end (n_sq ?_)
                    refine q_seq ?_
                    rcases bcase (decide (t_25 < 2)) with hc11 | hc11
                    · have hb10 := cond_f hc11 hb10
                      refine q_cond_f hF rfl hc11 ?_
                      refine q_exit (x_sq ?_)
                      obtain rfl := someI hb10
                      exact ⟨nofun, .inl ⟨_, rfl, rfl, hF.sub ⟨rfl, rfl, rfl, rfl, rfl, rfl, rfl, rfl, rfl, rfl, trivial⟩, hS.sel [1, 0, 2, 3, 4] (by decide)⟩⟩
                    · have hb10 := cond_t hc11 hb10
                      refine q_cond_t hF rfl hc11 ?_
                      refine q_skipc (n_sq ?_)
                      refine q_seq ?_
                      refine q_block ?_
                      refine q_seq ?_
                      refine q_region ?_
                      obtain ⟨t_27, ht_27, hb10⟩ := bindS hb10
                      refine q_x (v := (.agg #[(.int .i64 t_27.1.Num), (.int .i64 t_27.1.Den), (.int .i64 t_27.2.Num), (.int .i64 t_27.2.Den)])) hF hS (ex_indexA (l := [(e_17, e_19), (e_21, e_23)]) (fun (e : impl_Frac × impl_Frac) => [(.int .i64 e.1.Num), (.int .i64 e.1.Den), (.int .i64 e.2.Num), (.int .i64 e.2.Den)]) (fun _ => rfl) Try.underlying120 Try.underlying119 rfl sz119 rfl rfl rfl rfl ht_27) rfl rfl fun a hF => ?_
                      refine q_alloc (cs := [(.int .i64 0), (.int .i64 0), (.int .i64 0), (.int .i64 0)]) hF hS rfl rfl rfl fun a w b28 hF hS => ?_
                      refine q_store (vs := [(.int .i64 t_27.1.Num), (.int .i64 t_27.1.Den), (.int .i64 t_27.2.Num), (.int .i64 t_27.2.Den)]) (cs' := [(.int .i64 t_27.1.Num), (.int .i64 t_27.1.Den), (.int .i64 t_27.2.Num), (.int .i64 t_27.2.Den)]) 0 0 hF hS sz119 rfl rfl rfl rfl rfl rfl rfl rfl fun a w hF hS => ?_
                      refine q_end (n_sq ?_)
                      refine q_seq ?_
                      refine q_region ?_
                      refine q_x (v := (.pointer (some ⟨b28, 0, none⟩))) hF hS (ex_indexAddrA (i := 0) Try.underlying119 sz24 rfl rfl rfl) rfl rfl fun a hF => ?_
                      refine q_x (v := (.agg #[(.int .i64 t_27.1.Num), (.int .i64 t_27.1.Den)])) hF hS (ex_loadA (vs := [(.int .i64 t_27.1.Num), (.int .i64 t_27.1.Den)]) 0 0 Try.underlying24 rfl sz24 rfl rfl rfl rfl) rfl rfl fun a hF => ?_
                      refine q_x (v := (.pointer (some ⟨b28, 2, none⟩))) hF hS (ex_indexAddrA (i := 1) Try.underlying119 sz24 rfl rfl rfl) rfl rfl fun a hF => ?_
                      refine q_x (v := (.agg #[(.int .i64 t_27.2.Num), (.int .i64 t_27.2.Den)])) hF hS (ex_loadA (vs := [(.int .i64 t_27.2.Num), (.int .i64 t_27.2.Den)]) 0 0 Try.underlying24 rfl sz24 rfl rfl rfl rfl) rfl rfl fun a hF => ?_
                      obtain ⟨t_29, ht_29, hb10⟩ := bindS hb10
                      refine q_call (vs := [(.agg #[(.int .i64 t_27.1.Num), (.int .i64 t_27.1.Den)]), (.agg #[(.int .i64 t_27.2.Num), (.int .i64 t_27.2.Den)])]) hF hS Try.func80 (by kernel_rfl) rfl rfl rfl (c_impl_DivFrac t_27.1 t_27.2 t_29 ht_29 _ m hS.vis) ?_
                      rintro a w _ rfl hF hS
                      refine q_x (v := (.tuple #[(.agg #[(.int .i64 t_29.1.Num), (.int .i64 t_29.1.Den)]), (.bool t_29.2)])) hF hS (ex_move rfl) rfl rfl fun a hF => ?_
                      refine q_x (v := (.agg #[(.int .i64 t_29.1.Num), (.int .i64 t_29.1.Den)])) hF hS (ex_extract rfl rfl) rfl rfl fun a hF => ?_
                      refine q_x (v := (.bool t_29.2)) hF hS (ex_extract rfl rfl) rfl rfl fun a hF => ?_
                      refine q_alloc (cs := [(.int .i64 0), (.int .i64 0)]) hF hS rfl rfl rfl fun a w b30 hF hS => ?_
                      refine q_store (vs := [(.int .i64 t_29.1.Num), (.int .i64 t_29.1.Den)]) (cs' := [(.int .i64 t_29.1.Num), (.int .i64 t_29.1.Den)]) 0 0 hF hS sz24 rfl rfl rfl rfl rfl rfl rfl rfl fun a w hF hS => ?_
                      refine q_x (v := (.bool t_29.2)) hF hS (ex_assign rfl) rfl rfl fun a hF => ?_
                      refine q_end (n_sq ?_)
                      refine q_seq ?_
                      refine q_seq ?_
                      refine q_region ?_
                      refine q_x (v := (.bool t_29.2)) hF hS (ex_move rfl) rfl rfl fun a hF => ?_
                      refine q_x (v := (.bool (!t_29.2))) hF hS (ex_not rfl) rfl rfl fun a hF => ?_
                      refine q_end (n_sq ?_)
                      rcases bcase (!t_29.2) with hc12 | hc12
                      · have hb10 := cond_f hc12 hb10
                        refine q_cond_f hF rfl hc12 ?_
                        refine q_skipc (n_sq ?_)
                        refine q_seq ?_
                        refine q_region ?_
                        refine q_x (v := (.agg #[(.int .i64 t_29.1.Num), (.int .i64 t_29.1.Den)])) hF hS (ex_loadA (vs := [(.int .i64 t_29.1.Num), (.int .i64 t_29.1.Den)]) 0 0 Try.underlying24 rfl sz24 rfl rfl rfl rfl) rfl rfl fun a hF => ?_
                        refine q_x (v := (.agg #[(.int .i64 worst_26.Num), (.int .i64 worst_26.Den)])) hF hS (ex_loadA (vs := [(.int .i64 worst_26.Num), (.int .i64 worst_26.Den)]) 4 0 Try.underlying24 rfl sz24 rfl rfl rfl rfl) rfl rfl fun a hF => ?_
                        obtain ⟨t_31, ht_31, hb10⟩ := bindS hb10
                        refine q_call (vs := [(.agg #[(.int .i64 t_29.1.Num), (.int .i64 t_29.1.Den)]), (.agg #[(.int .i64 worst_26.Num), (.int .i64 worst_26.Den)])]) hF hS Try.func126 (by kernel_rfl) rfl rfl rfl (c_impl_cmpFrac t_29.1 worst_26 t_31 ht_31 _ m hS.vis) ?_
                        rintro a w _ rfl hF hS
                        refine q_x (v := (.bool (decide (0 < t_31)))) hF hS (ex_ibin rfl rfl rfl) rfl rfl fun a hF => ?_
                        refine q_end (n_sq ?_)
                        obtain ⟨worst_32, hj13, hb10⟩ := bindS hb10
                        refine q_join (fun a w => Fr a 104 [(1, (.int .i64 p_lo)), (2, (.int .i64 p_hi)), (3, (.pointer (some ⟨b1, 0, none⟩))), (6, (.pointer (some ⟨b2, 0, none⟩))), (8, (.pointer (some ⟨b6, 0, none⟩))), (9, (.int .i64 x_7)), (10, s11.v), (12, s14.v), (59, (.int .i64 (goLen t_9.1))), (60, (.int .i64 t_15)), (81, (.agg #[(.int .i64 e_17.Num), (.int .i64 e_17.Den), (.int .i64 e_19.Num), (.int .i64 e_19.Den), (.int .i64 e_21.Num), (.int .i64 e_21.Den), (.int .i64 e_23.Num), (.int .i64 e_23.Den)])), (82, (.int .i64 t_25))] ∧ St [] w0 w m [q11, q14, [⟨b6, [(.int .i64 worst_32.Num), (.int .i64 worst_32.Den)], 24⟩], [⟨b2, [(.int .i64 0), (.int .i64 0)], 24⟩], [⟨b1, [(.int .i64 p_a.Num), (.int .i64 p_a.Den)], 24⟩]]) ?_ ?_
                        · rcases bcase (decide (0 < t_31)) with hc14 | hc14
                          · have hj13 := cond_f hc14 hj13
                            refine q_cond_f hF rfl hc14 ?_
                            refine q_skipc (n_jn ?_)
                            obtain rfl := someI hj13
                            exact ⟨hF.sub ⟨rfl, rfl, rfl, rfl, rfl, rfl, rfl, rfl, rfl, rfl, rfl, rfl, trivial⟩, hS.sel [3, 2, 4, 5, 6] (by decide)⟩
                          · have hj13 := cond_t hc14 hj13
                            refine q_cond_t hF rfl hc14 ?_
                            refine q_region ?_
                            refine q_x (v := (.agg #[(.int .i64 t_29.1.Num), (.int .i64 t_29.1.Den)])) hF hS (ex_loadA (vs := [(.int .i64 t_29.1.Num), (.int .i64 t_29.1.Den)]) 0 0 Try.underlying24 rfl sz24 rfl rfl rfl rfl) rfl rfl fun a hF => ?_
                            refine q_store (vs := [(.int .i64 t_29.1.Num), (.int .i64 t_29.1.Den)]) (cs' := [(.int .i64 t_29.1.Num), (.int .i64 t_29.1.Den)]) 4 0 hF hS sz24 rfl rfl rfl rfl rfl rfl rfl rfl fun a w hF hS => ?_
                            refine q_end (n_jn ?_)
                            obtain rfl := someI hj13
                            exact ⟨hF.sub ⟨rfl, rfl, rfl, rfl, rfl, rfl, rfl, rfl, rfl, rfl, rfl, rfl, trivial⟩, hS.sel [3, 2, 4, 5, 6] (by decide)⟩
                        · rintro a w ⟨hF, hS⟩
                          refine n_ib (n_sq ?_)
                          refine q_region ?_
                          refine q_x (v := (.int .i64 (w64 (t_25 + 1)))) hF hS (ex_ibin rfl rfl rfl) rfl rfl fun a hF => ?_
                          refine q_x (v := (.int .i64 (w64 (t_25 + 1)))) hF hS (ex_move rfl) rfl rfl fun a hF => ?_
                          refine q_end ?_
                          obtain rfl := someI hb10
                          exact ⟨rfl, _, _, rfl, hF.sub ⟨rfl, rfl, rfl, rfl, rfl, rfl, rfl, rfl, rfl, rfl, rfl, rfl, trivial⟩, hS.sel [1, 0, 2, 3, 4] (by decide)⟩
                      · have hb10 := cond_t hc12 hb10
                        refine q_cond_t hF rfl hc12 ?_
                        refine q_seq ?_
                        refine q_region ?_
                        refine q_x (v := (.agg #[(.int .i64 0), (.int .i64 0)])) hF hS (ex_build (cells := [(.int .i64 0), (.int .i64 0)]) rfl (by kernel_rfl)) rfl rfl fun a hF => ?_
                        refine q_store (vs := [(.int .i64 0), (.int .i64 0)]) (cs' := [(.int .i64 0), (.int .i64 0)]) 5 0 hF hS sz24 rfl rfl rfl rfl rfl rfl rfl rfl fun a w hF hS => ?_
                        refine q_x (v := (.bool false)) hF hS (ex_assign rfl) rfl rfl fun a hF => ?_
                        refine q_end (n_sq (q_ret (r_sq (r_ib (r_sq ?_)))))
                        obtain rfl := someI hb10
                        refine ⟨nofun, .inr fun ho => ?_⟩
                        subst ho
                        refine r_ib (r_ib (r_sq ?_))
                        obtain rfl := someI hb8
                        refine ⟨nofun, .inr fun ho => ?_⟩
                        subst ho
                        refine r_ib (r_ib (r_sq ?_))
                        obtain rfl := someI hb4
                        refine ⟨nofun, .inr fun ho => ?_⟩
                        subst ho
                        refine r_ib (r_sq ?_)
                        obtain rfl := someI hr
                        exact ret_of hF hS rfl (.cellA (us := [(.int .i64 0), (.int .i64 0)]) 5 0 Try.underlying24 rfl sz24 rfl rfl rfl rfl (.tmp rfl .nil)) rfl
                  · rintro e a w ⟨worst_33, rfl, rfl, hF, hS⟩
                    refine x_ib (n_ib (n_sq ?_))
                    refine q_region ?_
                    refine q_x (v := (.int .i64 (w64 (t_15 + 1)))) hF hS (ex_ibin rfl rfl rfl) rfl rfl fun a hF => ?_
                    refine q_x (v := (.int .i64 (w64 (t_15 + 1)))) hF hS (ex_move rfl) rfl rfl fun a hF => ?_
                    refine q_end ?_
                    obtain rfl := someI hb8
                    exact ⟨rfl, _, _, rfl, hF.sub ⟨rfl, rfl, rfl, rfl, rfl, rfl, rfl, rfl, rfl, rfl, trivial⟩, hS.sel [1, 0, 2, 3, 4] (by decide)⟩
              · rintro e a w ⟨worst_34, rfl, rfl, hF, hS⟩
                refine x_ib (n_ib (n_sq ?_))
                refine q_region ?_
                refine q_x (v := (.int .i64 x_7)) hF hS (ex_move rfl) rfl rfl fun a hF => ?_
                refine q_x (v := (.int .i64 (w64 (x_7 + 1)))) hF hS (ex_ibin rfl rfl rfl) rfl rfl fun a hF => ?_
                refine q_x (v := (.int .i64 (w64 (x_7 + 1)))) hF hS (ex_assign rfl) rfl rfl fun a hF => ?_
                refine q_end ?_
                obtain rfl := someI hb4
                exact ⟨rfl, _, _, rfl, hF.sub ⟨rfl, rfl, rfl, rfl, rfl, rfl, trivial⟩, hS⟩
            · have hb4 := cond_t hc7 hb4
              refine q_cond_t hF rfl hc7 ?_
              refine q_seq ?_
              refine q_region ?_
              refine q_x (v := (.agg #[(.int .i64 0), (.int .i64 0)])) hF hS (ex_build (cells := [(.int .i64 0), (.int .i64 0)]) rfl (by kernel_rfl)) rfl rfl fun a hF => ?_
              refine q_store (vs := [(.int .i64 0), (.int .i64 0)]) (cs' := [(.int .i64 0), (.int .i64 0)]) 3 0 hF hS sz24 rfl rfl rfl rfl rfl rfl rfl rfl fun a w hF hS => ?_
              refine q_x (v := (.bool false)) hF hS (ex_assign rfl) rfl rfl fun a hF => ?_
              refine q_end (n_sq (q_ret (r_sq (r_ib (r_sq ?_)))))
              obtain rfl := someI hb4
              refine ⟨nofun, .inr fun ho => ?_⟩
              subst ho
              refine r_ib (r_sq ?_)
              obtain rfl := someI hr
              exact ret_of hF hS rfl (.cellA (us := [(.int .i64 0), (.int .i64 0)]) 3 0 Try.underlying24 rfl sz24 rfl rfl rfl rfl (.tmp rfl .nil)) rfl
          · have hb4 := cond_t hc6 hb4
            refine q_cond_t hF rfl hc6 ?_
            refine q_seq ?_
            refine q_region ?_
            refine q_x (v := (.agg #[(.int .i64 0), (.int .i64 0)])) hF hS (ex_build (cells := [(.int .i64 0), (.int .i64 0)]) rfl (by kernel_rfl)) rfl rfl fun a hF => ?_
            refine q_store (vs := [(.int .i64 0), (.int .i64 0)]) (cs' := [(.int .i64 0), (.int .i64 0)]) 2 0 hF hS sz24 rfl rfl rfl rfl rfl rfl rfl rfl fun a w hF hS => ?_
            refine q_x (v := (.bool false)) hF hS (ex_assign rfl) rfl rfl fun a hF => ?_
            refine q_end (n_sq (q_ret (r_sq (r_ib (r_sq ?_)))))
            obtain rfl := someI hb4
            refine ⟨nofun, .inr fun ho => ?_⟩
            subst ho
            refine r_ib (r_sq ?_)
            obtain rfl := someI hr
            exact ret_of hF hS rfl (.cellA (us := [(.int .i64 0), (.int .i64 0)]) 2 0 Try.underlying24 rfl sz24 rfl rfl rfl rfl (.tmp rfl .nil)) rfl
      · rintro e a w ⟨worst_35, rfl, rfl, hF, hS⟩
        refine x_ib (n_sq ?_)
        refine q_seq ?_
        refine q_region ?_
        refine q_x (v := (.agg #[(.int .i64 worst_35.Num), (.int .i64 worst_35.Den)])) hF hS (ex_loadA (vs := [(.int .i64 worst_35.Num), (.int .i64 worst_35.Den)]) 0 0 Try.underlying24 rfl sz24 rfl rfl rfl rfl) rfl rfl fun a hF => ?_
        refine q_store (vs := [(.int .i64 worst_35.Num), (.int .i64 worst_35.Den)]) (cs' := [(.int .i64 worst_35.Num), (.int .i64 worst_35.Den)]) 1 0 hF hS sz24 rfl rfl rfl rfl rfl rfl rfl rfl fun a w hF hS => ?_
        refine q_x (v := (.bool true)) hF hS (ex_assign rfl) rfl rfl fun a hF => ?_
        refine q_end (n_sq (q_ret ?_))
        obtain rfl := someI hr
        exact ret_of hF hS rfl (.cellA (us := [(.int .i64 worst_35.Num), (.int .i64 worst_35.Den)]) 1 0 Try.underlying24 rfl sz24 rfl rfl rfl rfl (.tmp rfl .nil)) rfl
    · have hr := cond_t hc3 hr
      refine q_cond_t hF rfl hc3 ?_
      refine q_seq ?_
      refine q_region ?_
      refine q_x (v := (.agg #[(.int .i64 0), (.int .i64 0)])) hF hS (ex_build (cells := [(.int .i64 0), (.int .i64 0)]) rfl (by kernel_rfl)) rfl rfl fun a hF => ?_
      refine q_store (vs := [(.int .i64 0), (.int .i64 0)]) (cs' := [(.int .i64 0), (.int .i64 0)]) 0 0 hF hS sz24 rfl rfl rfl rfl rfl rfl rfl rfl fun a w hF hS => ?_
      refine q_x (v := (.bool false)) hF hS (ex_assign rfl) rfl rfl fun a hF => ?_
      refine q_end (n_sq (q_ret (r_sq ?_)))
      obtain rfl := someI hr
      exact ret_of hF hS rfl (.cellA (us := [(.int .i64 0), (.int .i64 0)]) 0 0 Try.underlying24 rfl sz24 rfl rfl rfl rfl (.tmp rfl .nil)) rfl

theorem c_impl_GeoRatio (p_a : impl_Frac) (p_sensitivity : Int) (r : impl_Frac × Bool) (hr : impl_GeoRatio p_a p_sensitivity = some r) (w0 : World) (m : Mem) (hv : Vis m w0) :
    Ret Try.prog 43 [(.agg #[(.int .i64 p_a.Num), (.int .i64 p_a.Den)]), (.int .i64 p_sensitivity)] w0 (fun v _ => v = (.tuple #[(.agg #[(.int .i64 r.1.Num), (.int .i64 r.1.Den)]), (.bool r.2)])) := by
  unfold impl_GeoRatio at hr
  refine ret_start Try.func43 rfl 27 rfl rfl m hv fun a hF hS => ?_
  refine q_seq ?_
  refine q_region ?_
  refine q_box (cs := [(.int .i64 p_a.Num), (.int .i64 p_a.Den)]) hF hS rfl rfl rfl fun a w b1 hF hS => ?_
  refine q_alloc (cs := [(.int .i64 0), (.int .i64 0)]) hF hS rfl rfl rfl fun a w b2 hF hS => ?_
  refine q_x (v := (.bool false)) hF hS (ex_assign rfl) rfl rfl fun a hF => ?_
  refine q_end (n_sq ?_)
  refine q_seq ?_
  refine q_seq ?_
  obtain ⟨t_4, hj1, hr⟩ := bindS hr
  refine q_join (fun a w => Fr a 27 [(1, (.int .i64 p_sensitivity)), (2, (.pointer (some ⟨b1, 0, none⟩))), (4, (.pointer (some ⟨b2, 0, none⟩))), (16, (.bool t_4))] ∧ St [] w0 w m [[⟨b2, [(.int .i64 0), (.int .i64 0)], 24⟩], [⟨b1, [(.int .i64 p_a.Num), (.int .i64 p_a.Den)], 24⟩]]) ?_ ?_
  · refine q_region ?_
    refine q_x (v := (.agg #[(.int .i64 p_a.Num), (.int .i64 p_a.Den)])) hF hS (ex_loadA (vs := [(.int .i64 p_a.Num), (.int .i64 p_a.Den)]) 1 0 Try.underlying24 rfl sz24 rfl rfl rfl rfl) rfl rfl fun a hF => ?_
    obtain ⟨t_3, ht_3, hj1⟩ := bindS hj1
    refine q_call (vs := [(.agg #[(.int .i64 p_a.Num), (.int .i64 p_a.Den)])]) hF hS Try.func120 (by kernel_rfl) rfl rfl rfl (c_impl_isRatio p_a t_3 ht_3 _ m hS.vis) ?_
    rintro a w _ rfl hF hS
    refine q_x (v := (.bool (!t_3))) hF hS (ex_not rfl) rfl rfl fun a hF => ?_
    refine q_x (v := (.bool (!t_3))) hF hS (ex_move rfl) rfl rfl fun a hF => ?_
    rcases bcase (!t_3) with hc2 | hc2
    · have hj1 := cond_f hc2 hj1
      refine q_xg (v := (.int .i64 p_sensitivity)) hF hS (ex_move rfl) (wanted_t hF rfl rfl rfl hc2) rfl fun a hF => ?_
      refine q_xg (v := (.bool (decide (p_sensitivity < 0)))) hF hS (ex_ibin rfl rfl rfl) (wanted_t hF rfl rfl rfl hc2) rfl fun a hF => ?_
      refine q_x (v := (.bool (decide (p_sensitivity < 0)))) hF hS (ex_pick_f rfl rfl hc2) rfl rfl fun a hF => ?_
      refine q_x (v := (.bool (decide (p_sensitivity < 0)))) hF hS (ex_move rfl) rfl rfl fun a hF => ?_
      rcases bcase (decide (p_sensitivity < 0)) with hc3 | hc3
      · have hj1 := cond_f hc3 hj1
        refine q_xg (v := (.int .i64 p_sensitivity)) hF hS (ex_move rfl) (wanted_t hF rfl rfl rfl hc3) rfl fun a hF => ?_
        refine q_xg (v := (.bool (decide (30 < p_sensitivity)))) hF hS (ex_ibin rfl rfl rfl) (wanted_t hF rfl rfl rfl hc3) rfl fun a hF => ?_
        refine q_x (v := (.bool (decide (30 < p_sensitivity)))) hF hS (ex_pick_f rfl rfl hc3) rfl rfl fun a hF => ?_
        refine q_end (n_jn ?_)
        obtain rfl := someI hj1
        exact ⟨hF.sub ⟨rfl, rfl, rfl, rfl, trivial⟩, hS⟩
      · have hj1 := cond_t hc3 hj1
        refine q_skip hF (wanted_f hF rfl rfl rfl hc3 rfl) rfl fun a hF => ?_
        refine q_skip hF (wanted_f hF rfl rfl rfl hc3 rfl) rfl fun a hF => ?_
        refine q_x (v := (.bool true)) hF hS (ex_pick_t rfl rfl hc3) rfl rfl fun a hF => ?_
        refine q_end (n_jn ?_)
        obtain rfl := someI hj1
        exact ⟨hF.sub ⟨rfl, rfl, rfl, rfl, trivial⟩, hS⟩
    · have hj1 := cond_t hc2 hj1
      refine q_skip hF (wanted_f hF rfl rfl rfl hc2 rfl) rfl fun a hF => ?_
      refine q_skip hF (wanted_f hF rfl rfl rfl hc2 rfl) rfl fun a hF => ?_
      refine q_x (v := (.bool true)) hF hS (ex_pick_t rfl rfl hc2) rfl rfl fun a hF => ?_
      refine q_x (v := (.bool true)) hF hS (ex_move rfl) rfl rfl fun a hF => ?_
      refine q_skip hF (wanted_f hF rfl rfl rfl rfl rfl) rfl fun a hF => ?_
      refine q_skip hF (wanted_f hF rfl rfl rfl rfl rfl) rfl fun a hF => ?_
      refine q_x (v := (.bool true)) hF hS (ex_pick_t rfl rfl rfl) rfl rfl fun a hF => ?_
      refine q_end (n_jn ?_)
      obtain rfl := someI hj1
      exact ⟨hF.sub ⟨rfl, rfl, rfl, rfl, trivial⟩, hS⟩
  · rintro a w ⟨hF, hS⟩
    refine n_sq ?_
    rcases bcase (t_4) with hc4 | hc4
    · have hr := cond_f hc4 hr
      refine q_cond_f hF rfl hc4 ?_
      refine q_skipc (n_sq ?_)
      refine q_seq ?_
      refine q_region ?_
      refine q_x (v := (.pointer (some ⟨b1, 1, none⟩))) hF hS (ex_fieldAddr Try.underlying24 rfl sz3 rfl rfl) rfl rfl fun a hF => ?_
      refine q_x (v := (.int .i64 p_a.Den)) hF hS (ex_load1 1 0 Try.underlying3 rfl rfl rfl rfl) rfl rfl fun a hF => ?_
      refine q_x (v := (.pointer (some ⟨b1, 0, none⟩))) hF hS (ex_fieldAddr Try.underlying24 rfl sz3 rfl rfl) rfl rfl fun a hF => ?_
      refine q_x (v := (.int .i64 p_a.Num)) hF hS (ex_load1 1 0 Try.underlying3 rfl rfl rfl rfl) rfl rfl fun a hF => ?_
      refine q_x (v := (.agg #[(.int .i64 p_a.Den), (.int .i64 p_a.Num)])) hF hS (ex_build (cells := [(.int .i64 p_a.Den), (.int .i64 p_a.Num)]) rfl (by kernel_rfl)) rfl rfl fun a hF => ?_
      refine q_x (v := (.int .i64 p_sensitivity)) hF hS (ex_move rfl) rfl rfl fun a hF => ?_
      obtain ⟨t_5, ht_5, hr⟩ := bindS hr
      refine q_call (vs := [(.agg #[(.int .i64 p_a.Den), (.int .i64 p_a.Num)]), (.int .i64 p_sensitivity)]) hF hS Try.func102 (by kernel_rfl) rfl rfl rfl (c_impl_PowFrac (impl_Frac.mk p_a.Den p_a.Num) p_sensitivity t_5 ht_5 _ m hS.vis) ?_
      rintro a w _ rfl hF hS
      refine q_x (v := (.agg #[(.int .i64 t_5.1.Num), (.int .i64 t_5.1.Den)])) hF hS (ex_extract rfl rfl) rfl rfl fun a hF => ?_
      refine q_x (v := (.bool t_5.2)) hF hS (ex_extract rfl rfl) rfl rfl fun a hF => ?_
      refine q_store (vs := [(.int .i64 t_5.1.Num), (.int .i64 t_5.1.Den)]) (cs' := [(.int .i64 t_5.1.Num), (.int .i64 t_5.1.Den)]) 0 0 hF hS sz24 rfl rfl rfl rfl rfl rfl rfl rfl fun a w hF hS => ?_
      refine q_x (v := (.bool t_5.2)) hF hS (ex_assign rfl) rfl rfl fun a hF => ?_
      refine q_end (n_sq (q_ret ?_))
      obtain rfl := someI hr
      exact ret_of hF hS rfl (.cellA (us := [(.int .i64 t_5.1.Num), (.int .i64 t_5.1.Den)]) 0 0 Try.underlying24 rfl sz24 rfl rfl rfl rfl (.tmp rfl .nil)) rfl
    · have hr := cond_t hc4 hr
      refine q_cond_t hF rfl hc4 ?_
      refine q_seq ?_
      refine q_region ?_
      refine q_x (v := (.agg #[(.int .i64 0), (.int .i64 0)])) hF hS (ex_build (cells := [(.int .i64 0), (.int .i64 0)]) rfl (by kernel_rfl)) rfl rfl fun a hF => ?_
      refine q_store (vs := [(.int .i64 0), (.int .i64 0)]) (cs' := [(.int .i64 0), (.int .i64 0)]) 0 0 hF hS sz24 rfl rfl rfl rfl rfl rfl rfl rfl fun a w hF hS => ?_
      refine q_x (v := (.bool false)) hF hS (ex_assign rfl) rfl rfl fun a hF => ?_
      refine q_end (n_sq (q_ret (r_sq ?_)))
      obtain rfl := someI hr
      exact ret_of hF hS rfl (.cellA (us := [(.int .i64 0), (.int .i64 0)]) 0 0 Try.underlying24 rfl sz24 rfl rfl rfl rfl (.tmp rfl .nil)) rfl

theorem c_impl_CompareFrac (p_a : impl_Frac) (p_b : impl_Frac) (r : Int × Bool) (hr : impl_CompareFrac p_a p_b = some r) (w0 : World) (m : Mem) (hv : Vis m w0) :
    Ret Try.prog 44 [(.agg #[(.int .i64 p_a.Num), (.int .i64 p_a.Den)]), (.agg #[(.int .i64 p_b.Num), (.int .i64 p_b.Den)])] w0 (fun v _ => v = (.tuple #[(.int .i64 r.1), (.bool r.2)])) := by
  unfold impl_CompareFrac at hr
  refine ret_start Try.func44 rfl 17 rfl rfl m hv fun a hF hS => ?_
  refine q_seq ?_
  refine q_region ?_
  refine q_box (cs := [(.int .i64 p_a.Num), (.int .i64 p_a.Den)]) hF hS rfl rfl rfl fun a w b1 hF hS => ?_
  refine q_box (cs := [(.int .i64 p_b.Num), (.int .i64 p_b.Den)]) hF hS rfl rfl rfl fun a w b2 hF hS => ?_
  refine q_x (v := (.int .i64 0)) hF hS (ex_assign rfl) rfl rfl fun a hF => ?_
  refine q_x (v := (.bool false)) hF hS (ex_assign rfl) rfl rfl fun a hF => ?_
  refine q_end (n_sq ?_)
  refine q_seq ?_
  refine q_seq ?_
  obtain ⟨t_5, hj1, hr⟩ := bindS hr
  refine q_join (fun a w => Fr a 17 [(2, (.pointer (some ⟨b1, 0, none⟩))), (3, (.pointer (some ⟨b2, 0, none⟩))), (13, (.bool t_5))] ∧ St [] w0 w m [[⟨b2, [(.int .i64 p_b.Num), (.int .i64 p_b.Den)], 24⟩], [⟨b1, [(.int .i64 p_a.Num), (.int .i64 p_a.Den)], 24⟩]]) ?_ ?_
  · refine q_region ?_
    refine q_x (v := (.agg #[(.int .i64 p_a.Num), (.int .i64 p_a.Den)])) hF hS (ex_loadA (vs := [(.int .i64 p_a.Num), (.int .i64 p_a.Den)]) 1 0 Try.underlying24 rfl sz24 rfl rfl rfl rfl) rfl rfl fun a hF => ?_
    obtain ⟨t_3, ht_3, hj1⟩ := bindS hj1
    refine q_call (vs := [(.agg #[(.int .i64 p_a.Num), (.int .i64 p_a.Den)])]) hF hS Try.func94 (by kernel_rfl) rfl rfl rfl (c_impl_IsFrac p_a t_3 ht_3 _ m hS.vis) ?_
    rintro a w _ rfl hF hS
    refine q_x (v := (.bool (!t_3))) hF hS (ex_not rfl) rfl rfl fun a hF => ?_
    refine q_x (v := (.bool (!t_3))) hF hS (ex_move rfl) rfl rfl fun a hF => ?_
    rcases bcase (!t_3) with hc2 | hc2
    · have hj1 := cond_f hc2 hj1
      refine q_xg (v := (.agg #[(.int .i64 p_b.Num), (.int .i64 p_b.Den)])) hF hS (ex_loadA (vs := [(.int .i64 p_b.Num), (.int .i64 p_b.Den)]) 0 0 Try.underlying24 rfl sz24 rfl rfl rfl rfl) (wanted_t hF rfl rfl rfl hc2) rfl fun a hF => ?_
      obtain ⟨t_4, ht_4, hj1⟩ := bindS hj1
      refine q_callg (vs := [(.agg #[(.int .i64 p_b.Num), (.int .i64 p_b.Den)])]) hF hS (wanted_t hF rfl rfl rfl hc2) Try.func94 (by kernel_rfl) rfl rfl rfl (c_impl_IsFrac p_b t_4 ht_4 _ m hS.vis) ?_
      rintro a w _ rfl hF hS
      refine q_xg (v := (.bool (!t_4))) hF hS (ex_not rfl) (wanted_t hF rfl rfl rfl hc2) rfl fun a hF => ?_
      refine q_x (v := (.bool (!t_4))) hF hS (ex_pick_f rfl rfl hc2) rfl rfl fun a hF => ?_
      refine q_end (n_jn ?_)
      obtain rfl := someI hj1
      exact ⟨hF.sub ⟨rfl, rfl, rfl, trivial⟩, hS⟩
    · have hj1 := cond_t hc2 hj1
      refine q_skip hF (wanted_f hF rfl rfl rfl hc2 rfl) rfl fun a hF => ?_
      refine q_skip hF (wanted_f hF rfl rfl rfl hc2 rfl) rfl fun a hF => ?_
      refine q_skip hF (wanted_f hF rfl rfl rfl hc2 rfl) rfl fun a hF => ?_
      refine q_x (v := (.bool true)) hF hS (ex_pick_t rfl rfl hc2) rfl rfl fun a hF => ?_
      refine q_end (n_jn ?_)
      obtain rfl := someI hj1
      exact ⟨hF.sub ⟨rfl, rfl, rfl, trivial⟩, hS⟩
  · rintro a w ⟨hF, hS⟩
    refine n_sq ?_
    rcases bcase (t_5) with hc3 | hc3
    · have hr := cond_f hc3 hr
      refine q_cond_f hF rfl hc3 ?_
      refine q_skipc (n_sq ?_)
      refine q_seq ?_
      refine q_region ?_
      refine q_x (v := (.agg #[(.int .i64 p_a.Num), (.int .i64 p_a.Den)])) hF hS (ex_loadA (vs := [(.int .i64 p_a.Num), (.int .i64 p_a.Den)]) 1 0 Try.underlying24 rfl sz24 rfl rfl rfl rfl) rfl rfl fun a hF => ?_
      refine q_x (v := (.agg #[(.int .i64 p_b.Num), (.int .i64 p_b.Den)])) hF hS (ex_loadA (vs := [(.int .i64 p_b.Num), (.int .i64 p_b.Den)]) 0 0 Try.underlying24 rfl sz24 rfl rfl rfl rfl) rfl rfl fun a hF => ?_
      obtain ⟨t_6, ht_6, hr⟩ := bindS hr
      refine q_call (vs := [(.agg #[(.int .i64 p_a.Num), (.int .i64 p_a.Den)]), (.agg #[(.int .i64 p_b.Num), (.int .i64 p_b.Den)])]) hF hS Try.func126 (by kernel_rfl) rfl rfl rfl (c_impl_cmpFrac p_a p_b t_6 ht_6 _ m hS.vis) ?_
      rintro a w _ rfl hF hS
      refine q_x (v := (.int .i64 t_6)) hF hS (ex_assign rfl) rfl rfl fun a hF => ?_
      refine q_x (v := (.bool true)) hF hS (ex_assign rfl) rfl rfl fun a hF => ?_
      refine q_end (n_sq (q_ret ?_))
      obtain rfl := someI hr
      exact ret_of hF hS rfl (.tmp rfl (.tmp rfl .nil)) rfl
    · have hr := cond_t hc3 hr
      refine q_cond_t hF rfl hc3 ?_
      refine q_seq ?_
      refine q_region ?_
      refine q_x (v := (.int .i64 0)) hF hS (ex_assign rfl) rfl rfl fun a hF => ?_
      refine q_x (v := (.bool false)) hF hS (ex_assign rfl) rfl rfl fun a hF => ?_
      refine q_end (n_sq (q_ret (r_sq ?_)))
      obtain rfl := someI hr
      exact ret_of hF hS rfl (.tmp rfl (.tmp rfl .nil)) rfl

theorem c_spec_DrawGeoMass (p_code : List (K .u8)) (r : impl_Frac × Int) (hr : spec_DrawGeoMass p_code = some r) (w0 : World) (m : Mem) (hv : Vis m w0) (s1 : Sl) (h1 : Rd m s1 p_code) :
    Ret Try.prog 45 [s1.v] w0 (fun v _ => v = (.tuple #[(.agg #[(.int .i64 r.1.Num), (.int .i64 r.1.Den)]), (.int .i64 r.2)])) := by
  unfold spec_DrawGeoMass at hr
  refine ret_start Try.func45 rfl 13 rfl rfl m hv fun a hF hS => ?_
  refine q_seq ?_
  refine q_region ?_
  refine q_alloc (cs := [(.int .i64 0), (.int .i64 0)]) hF hS rfl rfl rfl fun a w b2 hF hS => ?_
  refine q_x (v := (.int .i64 0)) hF hS (ex_assign rfl) rfl rfl fun a hF => ?_
  refine q_end (n_sq ?_)
  refine q_seq ?_
  refine q_region ?_
  refine q_x (v := s1.v) hF hS (ex_move rfl) rfl rfl fun a hF => ?_
  refine q_x (v := (.agg #[s1.v, (.int .i64 0), (.int .u64 0)])) hF hS (ex_build (cells := [s1.v, (.int .i64 0), (.int .u64 0)]) rfl (by kernel_rfl)) rfl rfl fun a hF => ?_
  refine q_box (cs := [s1.v, (.int .i64 0), (.int .u64 0)]) hF hS rfl rfl rfl fun a w b3 hF hS => ?_
  refine q_x (v := (.pointer (some ⟨b3, 0, none⟩))) hF hS (ex_assign rfl) rfl rfl fun a hF => ?_
  refine q_end (n_sq ?_)
  refine q_seq ?_
  refine q_region ?_
  refine q_x (v := (.pointer (some ⟨b3, 0, none⟩))) hF hS (ex_move rfl) rfl rfl fun a hF => ?_
  have hS4 : St _ _ _ _ ([[⟨b3, [s1.v, (.int .i64 0), (.int .u64 0)], 103⟩]] ++ [[⟨b2, [(.int .i64 0), (.int .i64 0)], 24⟩]]) := hS
  have hE4 := hS4.enter
  obtain ⟨t_5, ht_5, hr⟩ := bindS hr
  refine q_do rfl fun _ hK => wp_callX (vs := [(.pointer (some ⟨b3, 0, none⟩))]) hF Try.func119 (by kernel_rfl) rfl rfl rfl (c_spec_l1Cur_anyRatio (spec_l1Cur.mk p_code 0 (⟨0⟩ : K .u64)) t_5 ht_5 _ m b3 s1 h1 _ hE4) fun a w _ hR hF => hK _ _ ?_
  obtain ⟨m4', s6, rfl, hm4, hR4, h6⟩ := hR
  have hS : St _ _ _ _ [[⟨b3, [s6.v, (.int .i64 t_5.2.at_), (.int .u64 t_5.2.seed.v)], 103⟩], [⟨b2, [(.int .i64 0), (.int .i64 0)], 24⟩]] := hS4.leave hR4 hm4
  have hm4 := MLe.weakX hS4 hm4
  refine q_x (v := (.pointer (some ⟨b3, 0, none⟩))) hF hS (ex_move rfl) rfl rfl fun a hF => ?_
  refine q_do rfl fun _ hK => wp_buildSlice' (l := ([0, 1, -1, 2, 3, -4, 8, 60, -61, 61] : List Int)) (cells := [(.int .i64 0), (.int .i64 1), (.int .i64 (-1)), (.int .i64 2), (.int .i64 3), (.int .i64 (-4)), (.int .i64 8), (.int .i64 60), (.int .i64 (-61)), (.int .i64 61)]) hF hS Try.underlying42 inf3 rfl rfl (by kernel_rfl) rfl rfl rfl ⟨rfl, rfl, rfl, rfl, rfl, rfl, rfl, rfl, rfl, rfl, rfl⟩ rfl rfl fun a w q7 s7 hF hS h7 _ => hK _ _ ?_
  obtain ⟨m8, hm8, hS, hz8⟩ := hS.freeze
  have h8 := h7.froz hm8.le hz8
  have hS9 : St _ _ _ _ ([[⟨b3, [s6.v, (.int .i64 t_5.2.at_), (.int .u64 t_5.2.seed.v)], 103⟩]] ++ [[⟨b2, [(.int .i64 0), (.int .i64 0)], 24⟩]]) := hS
  have hE9 := hS9.enter
  obtain ⟨t_10, ht_10, hr⟩ := bindS hr
  refine q_do rfl fun _ hK => wp_callX (vs := [(.pointer (some ⟨b3, 0, none⟩)), s7.v]) hF Try.func100 (by kernel_rfl) rfl rfl rfl (c_spec_l1Cur_among t_5.2 ([0, 1, -1, 2, 3, -4, 8, 60, -61, 61] : List Int) t_10 ht_10 _ m8 b3 s6 (h6.mono hm8.le) s7 h8 _ hE9) fun a w _ hR hF => hK _ _ ?_
  obtain ⟨m9', s11, rfl, hm9, hR9, h11⟩ := hR
  have hS : St _ _ _ _ [[⟨b3, [s11.v, (.int .i64 t_10.2.at_), (.int .u64 t_10.2.seed.v)], 103⟩], [⟨b2, [(.int .i64 0), (.int .i64 0)], 24⟩]] := hS9.leave hR9 hm9
  have hm9 := MLe.weakX hS9 hm9
  refine q_store (vs := [(.int .i64 t_5.1.Num), (.int .i64 t_5.1.Den)]) (cs' := [(.int .i64 t_5.1.Num), (.int .i64 t_5.1.Den)]) 1 0 hF hS sz24 rfl rfl rfl rfl rfl rfl rfl rfl fun a w hF hS => ?_
  refine q_x (v := (.int .i64 t_10.1)) hF hS (ex_assign rfl) rfl rfl fun a hF => ?_
  refine q_end (n_sq (q_ret ?_))
  obtain rfl := someI hr
  exact ret_of hF hS rfl (.cellA (us := [(.int .i64 t_5.1.Num), (.int .i64 t_5.1.Den)]) 1 0 Try.underlying24 rfl sz24 rfl rfl rfl rfl (.tmp rfl .nil)) rfl

theorem c_impl_GeoMass (p_a : impl_Frac) (p_k : Int) (r : impl_Frac × Bool) (hr : impl_GeoMass p_a p_k = some r) (w0 : World) (m : Mem) (hv : Vis m w0) :
    Ret Try.prog 46 [(.agg #[(.int .i64 p_a.Num), (.int .i64 p_a.Den)]), (.int .i64 p_k)] w0 (fun v _ => v = (.tuple #[(.agg #[(.int .i64 r.1.Num), (.int .i64 r.1.Den)]), (.bool r.2)])) := by
  unfold impl_GeoMass at hr
  refine ret_start Try.func46 rfl 26 rfl rfl m hv fun a hF hS => ?_
  refine q_seq ?_
  refine q_region ?_
  refine q_box (cs := [(.int .i64 p_a.Num), (.int .i64 p_a.Den)]) hF hS rfl rfl rfl fun a w b1 hF hS => ?_
  refine q_alloc (cs := [(.int .i64 0), (.int .i64 0)]) hF hS rfl rfl rfl fun a w b2 hF hS => ?_
  refine q_x (v := (.bool false)) hF hS (ex_assign rfl) rfl rfl fun a hF => ?_
  refine q_end (n_sq ?_)
  refine q_seq ?_
  refine q_seq ?_
  obtain ⟨t_4, hj1, hr⟩ := bindS hr
  refine q_join (fun a w => Fr a 26 [(1, (.int .i64 p_k)), (2, (.pointer (some ⟨b1, 0, none⟩))), (4, (.pointer (some ⟨b2, 0, none⟩))), (16, (.bool t_4))] ∧ St [] w0 w m [[⟨b2, [(.int .i64 0), (.int .i64 0)], 24⟩], [⟨b1, [(.int .i64 p_a.Num), (.int .i64 p_a.Den)], 24⟩]]) ?_ ?_
  · refine q_region ?_
    refine q_x (v := (.agg #[(.int .i64 p_a.Num), (.int .i64 p_a.Den)])) hF hS (ex_loadA (vs := [(.int .i64 p_a.Num), (.int .i64 p_a.Den)]) 1 0 Try.underlying24 rfl sz24 rfl rfl rfl rfl) rfl rfl fun a hF => ?_
    obtain ⟨t_3, ht_3, hj1⟩ := bindS hj1
    refine q_call (vs := [(.agg #[(.int .i64 p_a.Num), (.int .i64 p_a.Den)])]) hF hS Try.func120 (by kernel_rfl) rfl rfl rfl (c_impl_isRatio p_a t_3 ht_3 _ m hS.vis) ?_
    rintro a w _ rfl hF hS
    refine q_x (v := (.bool (!t_3))) hF hS (ex_not rfl) rfl rfl fun a hF => ?_
    refine q_x (v := (.bool (!t_3))) hF hS (ex_move rfl) rfl rfl fun a hF => ?_
    rcases bcase (!t_3) with hc2 | hc2
    · have hj1 := cond_f hc2 hj1
      refine q_xg (v := (.int .i64 p_k)) hF hS (ex_move rfl) (wanted_t hF rfl rfl rfl hc2) rfl fun a hF => ?_
      refine q_xg (v := (.bool (decide (p_k < (-60))))) hF hS (ex_ibin rfl rfl rfl) (wanted_t hF rfl rfl rfl hc2) rfl fun a hF => ?_
      refine q_x (v := (.bool (decide (p_k < (-60))))) hF hS (ex_pick_f rfl rfl hc2) rfl rfl fun a hF => ?_
      refine q_x (v := (.bool (decide (p_k < (-60))))) hF hS (ex_move rfl) rfl rfl fun a hF => ?_
      rcases bcase (decide (p_k < (-60))) with hc3 | hc3
      · have hj1 := cond_f hc3 hj1
        refine q_xg (v := (.int .i64 p_k)) hF hS (ex_move rfl) (wanted_t hF rfl rfl rfl hc3) rfl fun a hF => ?_
        refine q_xg (v := (.bool (decide (60 < p_k)))) hF hS (ex_ibin rfl rfl rfl) (wanted_t hF rfl rfl rfl hc3) rfl fun a hF => ?_
        refine q_x (v := (.bool (decide (60 < p_k)))) hF hS (ex_pick_f rfl rfl hc3) rfl rfl fun a hF => ?_
        refine q_end (n_jn ?_)
        obtain rfl := someI hj1
        exact ⟨hF.sub ⟨rfl, rfl, rfl, rfl, trivial⟩, hS⟩
      · have hj1 := cond_t hc3 hj1
        refine q_skip hF (wanted_f hF rfl rfl rfl hc3 rfl) rfl fun a hF => ?_
        refine q_skip hF (wanted_f hF rfl rfl rfl hc3 rfl) rfl fun a hF => ?_
        refine q_x (v := (.bool true)) hF hS (ex_pick_t rfl rfl hc3) rfl rfl fun a hF => ?_
        refine q_end (n_jn ?_)
        obtain rfl := someI hj1
        exact ⟨hF.sub ⟨rfl, rfl, rfl, rfl, trivial⟩, hS⟩
    · have hj1 := cond_t hc2 hj1
      refine q_skip hF (wanted_f hF rfl rfl rfl hc2 rfl) rfl fun a hF => ?_
      refine q_skip hF (wanted_f hF rfl rfl rfl hc2 rfl) rfl fun a hF => ?_
      refine q_x (v := (.bool true)) hF hS (ex_pick_t rfl rfl hc2) rfl rfl fun a hF => ?_
      refine q_x (v := (.bool true)) hF hS (ex_move rfl) rfl rfl fun a hF => ?_
      refine q_skip hF (wanted_f hF rfl rfl rfl rfl rfl) rfl fun a hF => ?_
      refine q_skip hF (wanted_f hF rfl rfl rfl rfl rfl) rfl fun a hF => ?_
      refine q_x (v := (.bool true)) hF hS (ex_pick_t rfl rfl rfl) rfl rfl fun a hF => ?_
      refine q_end (n_jn ?_)
      obtain rfl := someI hj1
      exact ⟨hF.sub ⟨rfl, rfl, rfl, rfl, trivial⟩, hS⟩
  · rintro a w ⟨hF, hS⟩
    refine n_sq ?_
    rcases bcase (t_4) with hc4 | hc4
    · have hr := cond_f hc4 hr
      refine q_cond_f hF rfl hc4 ?_
      refine q_skipc (n_sq ?_)
      refine q_seq ?_
      refine q_region ?_
      refine q_x (v := (.agg #[(.int .i64 p_a.Num), (.int .i64 p_a.Den)])) hF hS (ex_loadA (vs := [(.int .i64 p_a.Num), (.int .i64 p_a.Den)]) 1 0 Try.underlying24 rfl sz24 rfl rfl rfl rfl) rfl rfl fun a hF => ?_
      refine q_x (v := (.int .i64 p_k)) hF hS (ex_move rfl) rfl rfl fun a hF => ?_
      refine q_x (v := (.int .i64 p_k)) hF hS (ex_move rfl) rfl rfl fun a hF => ?_
      refine q_x (v := (.int .i64 (w64 (-p_k)))) hF hS (ex_neg rfl) rfl rfl fun a hF => ?_
      refine q_x (v := (.int .i64 (max p_k (w64 (-p_k))))) hF hS (ex_max rfl rfl) rfl rfl fun a hF => ?_
      obtain ⟨t_5, ht_5, hr⟩ := bindS hr
      refine q_call (vs := [(.agg #[(.int .i64 p_a.Num), (.int .i64 p_a.Den)]), (.int .i64 (max p_k (w64 (-p_k))))]) hF hS Try.func127 (by kernel_rfl) rfl rfl rfl (c_impl_geoMass p_a (max p_k (w64 (-p_k))) t_5 ht_5 _ m hS.vis) ?_
      rintro a w _ rfl hF hS
      refine q_x (v := (.agg #[(.int .i64 t_5.1.Num), (.int .i64 t_5.1.Den)])) hF hS (ex_extract rfl rfl) rfl rfl fun a hF => ?_
      refine q_x (v := (.bool t_5.2)) hF hS (ex_extract rfl rfl) rfl rfl fun a hF => ?_
      refine q_store (vs := [(.int .i64 t_5.1.Num), (.int .i64 t_5.1.Den)]) (cs' := [(.int .i64 t_5.1.Num), (.int .i64 t_5.1.Den)]) 0 0 hF hS sz24 rfl rfl rfl rfl rfl rfl rfl rfl fun a w hF hS => ?_
      refine q_x (v := (.bool t_5.2)) hF hS (ex_assign rfl) rfl rfl fun a hF => ?_
      refine q_end (n_sq (q_ret ?_))
      obtain rfl := someI hr
      exact ret_of hF hS rfl (.cellA (us := [(.int .i64 t_5.1.Num), (.int .i64 t_5.1.Den)]) 0 0 Try.underlying24 rfl sz24 rfl rfl rfl rfl (.tmp rfl .nil)) rfl
    · have hr := cond_t hc4 hr
      refine q_cond_t hF rfl hc4 ?_
      refine q_seq ?_
      refine q_region ?_
      refine q_x (v := (.agg #[(.int .i64 0), (.int .i64 0)])) hF hS (ex_build (cells := [(.int .i64 0), (.int .i64 0)]) rfl (by kernel_rfl)) rfl rfl fun a hF => ?_
      refine q_store (vs := [(.int .i64 0), (.int .i64 0)]) (cs' := [(.int .i64 0), (.int .i64 0)]) 0 0 hF hS sz24 rfl rfl rfl rfl rfl rfl rfl rfl fun a w hF hS => ?_
      refine q_x (v := (.bool false)) hF hS (ex_assign rfl) rfl rfl fun a hF => ?_
      refine q_end (n_sq (q_ret (r_sq ?_)))
      obtain rfl := someI hr
      exact ret_of hF hS rfl (.cellA (us := [(.int .i64 0), (.int .i64 0)]) 0 0 Try.underlying24 rfl sz24 rfl rfl rfl rfl (.tmp rfl .nil)) rfl

theorem c_spec_GeoMass (p_a : impl_Frac) (p_k : Int) (r : impl_Frac × Bool) (hr : spec_GeoMass p_a p_k = some r) (w0 : World) (m : Mem) (hv : Vis m w0) :
    Ret Try.prog 47 [(.agg #[(.int .i64 p_a.Num), (.int .i64 p_a.Den)]), (.int .i64 p_k)] w0 (fun v _ => v = (.tuple #[(.agg #[(.int .i64 r.1.Num), (.int .i64 r.1.Den)]), (.bool r.2)])) := by
  unfold spec_GeoMass at hr
  refine ret_start Try.func47 rfl 20 rfl rfl m hv fun a hF hS => ?_
  refine q_seq ?_
  refine q_region ?_
  refine q_box (cs := [(.int .i64 p_a.Num), (.int .i64 p_a.Den)]) hF hS rfl rfl rfl fun a w b1 hF hS => ?_
  refine q_alloc (cs := [(.int .i64 0), (.int .i64 0)]) hF hS rfl rfl rfl fun a w b2 hF hS => ?_
  refine q_x (v := (.bool false)) hF hS (ex_assign rfl) rfl rfl fun a hF => ?_
  refine q_end (n_sq ?_)
  refine q_seq ?_
  refine q_seq ?_
  obtain ⟨t_5, hj1, hr⟩ := bindS hr
  refine q_join (fun a w => Fr a 20 [(1, (.int .i64 p_k)), (2, (.pointer (some ⟨b1, 0, none⟩))), (4, (.pointer (some ⟨b2, 0, none⟩))), (13, (.bool t_5))] ∧ St [] w0 w m [[⟨b2, [(.int .i64 0), (.int .i64 0)], 24⟩], [⟨b1, [(.int .i64 p_a.Num), (.int .i64 p_a.Den)], 24⟩]]) ?_ ?_
  · refine q_region ?_
    refine q_x (v := (.agg #[(.int .i64 p_a.Num), (.int .i64 p_a.Den)])) hF hS (ex_loadA (vs := [(.int .i64 p_a.Num), (.int .i64 p_a.Den)]) 1 0 Try.underlying24 rfl sz24 rfl rfl rfl rfl) rfl rfl fun a hF => ?_
    obtain ⟨t_3, ht_3, hj1⟩ := bindS hj1
    refine q_call (vs := [(.agg #[(.int .i64 p_a.Num), (.int .i64 p_a.Den)])]) hF hS Try.func123 (by kernel_rfl) rfl rfl rfl (c_spec_zRatio p_a t_3 ht_3 _ m hS.vis) ?_
    rintro a w _ rfl hF hS
    refine q_x (v := (.bool (!t_3))) hF hS (ex_not rfl) rfl rfl fun a hF => ?_
    refine q_x (v := (.bool (!t_3))) hF hS (ex_move rfl) rfl rfl fun a hF => ?_
    rcases bcase (!t_3) with hc2 | hc2
    · have hj1 := cond_f hc2 hj1
      refine q_xg (v := (.int .i64 p_k)) hF hS (ex_move rfl) (wanted_t hF rfl rfl rfl hc2) rfl fun a hF => ?_
      obtain ⟨t_4, ht_4, hj1⟩ := bindS hj1
      refine q_callg (vs := [(.int .i64 p_k), (.int .i64 (-60)), (.int .i64 60)]) hF hS (wanted_t hF rfl rfl rfl hc2) Try.func104 (by kernel_rfl) rfl rfl rfl (c_spec_l1In p_k (-60) 60 t_4 ht_4 _ m hS.vis) ?_
      rintro a w _ rfl hF hS
      refine q_xg (v := (.bool (!t_4))) hF hS (ex_not rfl) (wanted_t hF rfl rfl rfl hc2) rfl fun a hF => ?_
      refine q_x (v := (.bool (!t_4))) hF hS (ex_pick_f rfl rfl hc2) rfl rfl fun a hF => ?_
      refine q_end (n_jn ?_)
      obtain rfl := someI hj1
      exact ⟨hF.sub ⟨rfl, rfl, rfl, rfl, trivial⟩, hS⟩
    · have hj1 := cond_t hc2 hj1
      refine q_skip hF (wanted_f hF rfl rfl rfl hc2 rfl) rfl fun a hF => ?_
      refine q_skip hF (wanted_f hF rfl rfl rfl hc2 rfl) rfl fun a hF => ?_
      refine q_skip hF (wanted_f hF rfl rfl rfl hc2 rfl) rfl fun a hF => ?_
      refine q_x (v := (.bool true)) hF hS (ex_pick_t rfl rfl hc2) rfl rfl fun a hF => ?_
      refine q_end (n_jn ?_)
      obtain rfl := someI hj1
      exact ⟨hF.sub ⟨rfl, rfl, rfl, rfl, trivial⟩, hS⟩
  · rintro a w ⟨hF, hS⟩
    refine n_sq ?_
    rcases bcase (t_5) with hc3 | hc3
    · have hr := cond_f hc3 hr
      refine q_cond_f hF rfl hc3 ?_
      refine q_skipc (n_sq ?_)
      refine q_seq ?_
      refine q_region ?_
      refine q_x (v := (.agg #[(.int .i64 p_a.Num), (.int .i64 p_a.Den)])) hF hS (ex_loadA (vs := [(.int .i64 p_a.Num), (.int .i64 p_a.Den)]) 1 0 Try.underlying24 rfl sz24 rfl rfl rfl rfl) rfl rfl fun a hF => ?_
      refine q_x (v := (.int .i64 p_k)) hF hS (ex_move rfl) rfl rfl fun a hF => ?_
      obtain ⟨t_6, ht_6, hr⟩ := bindS hr
      refine q_call (vs := [(.agg #[(.int .i64 p_a.Num), (.int .i64 p_a.Den)]), (.int .i64 p_k)]) hF hS Try.func128 (by kernel_rfl) rfl rfl rfl (c_spec_zMass p_a p_k t_6 ht_6 _ m hS.vis) ?_
      rintro a w _ rfl hF hS
      refine q_x (v := (.agg #[(.int .i64 t_6.1.Num), (.int .i64 t_6.1.Den)])) hF hS (ex_extract rfl rfl) rfl rfl fun a hF => ?_
      refine q_x (v := (.bool t_6.2)) hF hS (ex_extract rfl rfl) rfl rfl fun a hF => ?_
      refine q_store (vs := [(.int .i64 t_6.1.Num), (.int .i64 t_6.1.Den)]) (cs' := [(.int .i64 t_6.1.Num), (.int .i64 t_6.1.Den)]) 0 0 hF hS sz24 rfl rfl rfl rfl rfl rfl rfl rfl fun a w hF hS => ?_
      refine q_x (v := (.bool t_6.2)) hF hS (ex_assign rfl) rfl rfl fun a hF => ?_
      refine q_end (n_sq (q_ret ?_))
      obtain rfl := someI hr
      exact ret_of hF hS rfl (.cellA (us := [(.int .i64 t_6.1.Num), (.int .i64 t_6.1.Den)]) 0 0 Try.underlying24 rfl sz24 rfl rfl rfl rfl (.tmp rfl .nil)) rfl
    · have hr := cond_t hc3 hr
      refine q_cond_t hF rfl hc3 ?_
      refine q_seq ?_
      refine q_region ?_
      refine q_x (v := (.agg #[(.int .i64 0), (.int .i64 0)])) hF hS (ex_build (cells := [(.int .i64 0), (.int .i64 0)]) rfl (by kernel_rfl)) rfl rfl fun a hF => ?_
      refine q_store (vs := [(.int .i64 0), (.int .i64 0)]) (cs' := [(.int .i64 0), (.int .i64 0)]) 0 0 hF hS sz24 rfl rfl rfl rfl rfl rfl rfl rfl fun a w hF hS => ?_
      refine q_x (v := (.bool false)) hF hS (ex_assign rfl) rfl rfl fun a hF => ?_
      refine q_end (n_sq (q_ret (r_sq ?_)))
      obtain rfl := someI hr
      exact ret_of hF hS rfl (.cellA (us := [(.int .i64 0), (.int .i64 0)]) 0 0 Try.underlying24 rfl sz24 rfl rfl rfl rfl (.tmp rfl .nil)) rfl

theorem c_spec_DrawLeastRadius (p_code : List (K .u8)) (r : impl_Frac × impl_Frac) (hr : spec_DrawLeastRadius p_code = some r) (w0 : World) (m : Mem) (hv : Vis m w0) (s1 : Sl) (h1 : Rd m s1 p_code) :
    Ret Try.prog 48 [s1.v] w0 (fun v _ => v = (.tuple #[(.agg #[(.int .i64 r.1.Num), (.int .i64 r.1.Den)]), (.agg #[(.int .i64 r.2.Num), (.int .i64 r.2.Den)])])) := by
  unfold spec_DrawLeastRadius at hr
  refine ret_start Try.func48 rfl 26 rfl rfl m hv fun a hF hS => ?_
  refine q_seq ?_
  refine q_region ?_
  refine q_alloc (cs := [(.int .i64 0), (.int .i64 0)]) hF hS rfl rfl rfl fun a w b2 hF hS => ?_
  refine q_alloc (cs := [(.int .i64 0), (.int .i64 0)]) hF hS rfl rfl rfl fun a w b3 hF hS => ?_
  refine q_end (n_sq ?_)
  refine q_seq ?_
  refine q_region ?_
  refine q_x (v := s1.v) hF hS (ex_move rfl) rfl rfl fun a hF => ?_
  refine q_x (v := (.agg #[s1.v, (.int .i64 0), (.int .u64 0)])) hF hS (ex_build (cells := [s1.v, (.int .i64 0), (.int .u64 0)]) rfl (by kernel_rfl)) rfl rfl fun a hF => ?_
  refine q_box (cs := [s1.v, (.int .i64 0), (.int .u64 0)]) hF hS rfl rfl rfl fun a w b4 hF hS => ?_
  refine q_x (v := (.pointer (some ⟨b4, 0, none⟩))) hF hS (ex_assign rfl) rfl rfl fun a hF => ?_
  refine q_end (n_sq ?_)
  refine q_seq ?_
  refine q_region ?_
  refine q_x (v := (.pointer (some ⟨b4, 0, none⟩))) hF hS (ex_move rfl) rfl rfl fun a hF => ?_
  have hS5 : St _ _ _ _ ([[⟨b4, [s1.v, (.int .i64 0), (.int .u64 0)], 103⟩]] ++ [[⟨b3, [(.int .i64 0), (.int .i64 0)], 24⟩], [⟨b2, [(.int .i64 0), (.int .i64 0)], 24⟩]]) := hS
  have hE5 := hS5.enter
  obtain ⟨t_6, ht_6, hr⟩ := bindS hr
  refine q_do rfl fun _ hK => wp_callX (vs := [(.pointer (some ⟨b4, 0, none⟩))]) hF Try.func119 (by kernel_rfl) rfl rfl rfl (c_spec_l1Cur_anyRatio (spec_l1Cur.mk p_code 0 (⟨0⟩ : K .u64)) t_6 ht_6 _ m b4 s1 h1 _ hE5) fun a w _ hR hF => hK _ _ ?_
  obtain ⟨m5', s7, rfl, hm5, hR5, h7⟩ := hR
  have hS : St _ _ _ _ [[⟨b4, [s7.v, (.int .i64 t_6.2.at_), (.int .u64 t_6.2.seed.v)], 103⟩], [⟨b3, [(.int .i64 0), (.int .i64 0)], 24⟩], [⟨b2, [(.int .i64 0), (.int .i64 0)], 24⟩]] := hS5.leave hR5 hm5
  have hm5 := MLe.weakX hS5 hm5
  refine q_alloc (cs := [(.int .i64 0), (.int .i64 0)]) hF hS rfl rfl rfl fun a w b8 hF hS => ?_
  refine q_store (vs := [(.int .i64 t_6.1.Num), (.int .i64 t_6.1.Den)]) (cs' := [(.int .i64 t_6.1.Num), (.int .i64 t_6.1.Den)]) 0 0 hF hS sz24 rfl rfl rfl rfl rfl rfl rfl rfl fun a w hF hS => ?_
  refine q_end (n_sq ?_)
  refine q_seq ?_
  refine q_region ?_
  refine q_x (v := (.pointer (some ⟨b4, 0, none⟩))) hF hS (ex_move rfl) rfl rfl fun a hF => ?_
  have hS : St _ _ _ _ [[⟨b4, [s7.v, (.int .i64 t_6.2.at_), (.int .u64 t_6.2.seed.v)], 103⟩], [⟨b8, [(.int .i64 t_6.1.Num), (.int .i64 t_6.1.Den)], 24⟩], [⟨b3, [(.int .i64 0), (.int .i64 0)], 24⟩], [⟨b2, [(.int .i64 0), (.int .i64 0)], 24⟩]] := hS.sel [1, 0, 2, 3] (by decide)
  have hS9 : St _ _ _ _ ([[⟨b4, [s7.v, (.int .i64 t_6.2.at_), (.int .u64 t_6.2.seed.v)], 103⟩]] ++ [[⟨b8, [(.int .i64 t_6.1.Num), (.int .i64 t_6.1.Den)], 24⟩], [⟨b3, [(.int .i64 0), (.int .i64 0)], 24⟩], [⟨b2, [(.int .i64 0), (.int .i64 0)], 24⟩]]) := hS
  have hE9 := hS9.enter
  obtain ⟨t_10, ht_10, hr⟩ := bindS hr
  refine q_do rfl fun _ hK => wp_callX (vs := [(.pointer (some ⟨b4, 0, none⟩)), (.int .i64 200)]) hF Try.func99 (by kernel_rfl) rfl rfl rfl (c_spec_l1Cur_pick t_6.2 200 t_10 ht_10 _ m5' b4 s7 h7 _ hE9) fun a w _ hR hF => hK _ _ ?_
  obtain ⟨m9', s11, rfl, hm9, hR9, h11⟩ := hR
  have hS : St _ _ _ _ [[⟨b4, [s11.v, (.int .i64 t_10.2.at_), (.int .u64 t_10.2.seed.v)], 103⟩], [⟨b8, [(.int .i64 t_6.1.Num), (.int .i64 t_6.1.Den)], 24⟩], [⟨b3, [(.int .i64 0), (.int .i64 0)], 24⟩], [⟨b2, [(.int .i64 0), (.int .i64 0)], 24⟩]] := hS9.leave hR9 hm9
  have hm9 := MLe.weakX hS9 hm9
  refine q_x (v := (.int .i64 (w64 (1 + t_10.1)))) hF hS (ex_ibin rfl rfl rfl) rfl rfl fun a hF => ?_
  obtain ⟨t_12, ht_12, hr⟩ := bindS hr
  refine q_call (vs := [(.int .i64 1), (.int .i64 (w64 (1 + t_10.1)))]) hF hS Try.func117 (by kernel_rfl) rfl rfl rfl (c_spec_fMake 1 (w64 (1 + t_10.1)) t_12 ht_12 _ m9' hS.vis) ?_
  rintro a w _ rfl hF hS
  refine q_x (v := (.tuple #[(.agg #[(.int .i64 t_12.1.Num), (.int .i64 t_12.1.Den)]), (.bool t_12.2)])) hF hS (ex_move rfl) rfl rfl fun a hF => ?_
  refine q_x (v := (.agg #[(.int .i64 t_12.1.Num), (.int .i64 t_12.1.Den)])) hF hS (ex_extract rfl rfl) rfl rfl fun a hF => ?_
  refine q_x (v := (.bool t_12.2)) hF hS (ex_extract rfl rfl) rfl rfl fun a hF => ?_
  refine q_alloc (cs := [(.int .i64 0), (.int .i64 0)]) hF hS rfl rfl rfl fun a w b13 hF hS => ?_
  refine q_store (vs := [(.int .i64 t_12.1.Num), (.int .i64 t_12.1.Den)]) (cs' := [(.int .i64 t_12.1.Num), (.int .i64 t_12.1.Den)]) 0 0 hF hS sz24 rfl rfl rfl rfl rfl rfl rfl rfl fun a w hF hS => ?_
  refine q_x (v := (.bool t_12.2)) hF hS (ex_assign rfl) rfl rfl fun a hF => ?_
  refine q_end (n_sq ?_)
  refine q_seq ?_
  refine q_seq ?_
  refine q_region ?_
  refine q_x (v := (.pointer (some ⟨b4, 0, none⟩))) hF hS (ex_move rfl) rfl rfl fun a hF => ?_
  have hS : St _ _ _ _ [[⟨b4, [s11.v, (.int .i64 t_10.2.at_), (.int .u64 t_10.2.seed.v)], 103⟩], [⟨b13, [(.int .i64 t_12.1.Num), (.int .i64 t_12.1.Den)], 24⟩], [⟨b8, [(.int .i64 t_6.1.Num), (.int .i64 t_6.1.Den)], 24⟩], [⟨b3, [(.int .i64 0), (.int .i64 0)], 24⟩], [⟨b2, [(.int .i64 0), (.int .i64 0)], 24⟩]] := hS.sel [1, 0, 2, 3, 4] (by decide)
  have hS14 : St _ _ _ _ ([[⟨b4, [s11.v, (.int .i64 t_10.2.at_), (.int .u64 t_10.2.seed.v)], 103⟩]] ++ [[⟨b13, [(.int .i64 t_12.1.Num), (.int .i64 t_12.1.Den)], 24⟩], [⟨b8, [(.int .i64 t_6.1.Num), (.int .i64 t_6.1.Den)], 24⟩], [⟨b3, [(.int .i64 0), (.int .i64 0)], 24⟩], [⟨b2, [(.int .i64 0), (.int .i64 0)], 24⟩]]) := hS
  have hE14 := hS14.enter
  obtain ⟨t_15, ht_15, hr⟩ := bindS hr
  refine q_do rfl fun _ hK => wp_callX (vs := [(.pointer (some ⟨b4, 0, none⟩)), (.int .i64 12)]) hF Try.func86 (by kernel_rfl) rfl rfl rfl (c_spec_l1Cur_one t_10.2 12 t_15 ht_15 _ m9' b4 s11 h11 _ hE14) fun a w _ hR hF => hK _ _ ?_
  obtain ⟨m14', s16, rfl, hm14, hR14, h16⟩ := hR
  have hS : St _ _ _ _ [[⟨b4, [s16.v, (.int .i64 t_15.2.at_), (.int .u64 t_15.2.seed.v)], 103⟩], [⟨b13, [(.int .i64 t_12.1.Num), (.int .i64 t_12.1.Den)], 24⟩], [⟨b8, [(.int .i64 t_6.1.Num), (.int .i64 t_6.1.Den)], 24⟩], [⟨b3, [(.int .i64 0), (.int .i64 0)], 24⟩], [⟨b2, [(.int .i64 0), (.int .i64 0)], 24⟩]] := hS14.leave hR14 hm14
  have hm14 := MLe.weakX hS14 hm14
  refine q_end (n_sq ?_)
  obtain ⟨d_20, hj1, hr⟩ := bindS hr
  refine q_join (fun a w => ∃ (m21 : Mem), Fr a 26 [(2, (.pointer (some ⟨b2, 0, none⟩))), (3, (.pointer (some ⟨b3, 0, none⟩))), (5, (.pointer (some ⟨b8, 0, none⟩))), (6, (.pointer (some ⟨b13, 0, none⟩)))] ∧ St [] w0 w m21 [[⟨b13, [(.int .i64 d_20.Num), (.int .i64 d_20.Den)], 24⟩], [⟨b8, [(.int .i64 t_6.1.Num), (.int .i64 t_6.1.Den)], 24⟩], [⟨b3, [(.int .i64 0), (.int .i64 0)], 24⟩], [⟨b2, [(.int .i64 0), (.int .i64 0)], 24⟩]] ∧ MLe [] w0.heap.size m14' m21) ?_ ?_
  · rcases bcase (t_15.1) with hc2 | hc2
    · have hj1 := cond_f hc2 hj1
      refine q_cond_f hF rfl hc2 ?_
      refine q_skipc (n_jn ?_)
      obtain rfl := someI hj1
      exact ⟨m14', hF.sub ⟨rfl, rfl, rfl, rfl, trivial⟩, hS.mask [false, true, true, true, true], (MLe.refl _ _)⟩
    · have hj1 := cond_t hc2 hj1
      refine q_cond_t hF rfl hc2 ?_
      refine q_region ?_
      refine q_x (v := (.pointer (some ⟨b4, 0, none⟩))) hF hS (ex_move rfl) rfl rfl fun a hF => ?_
      have hS17 : St _ _ _ _ ([[⟨b4, [s16.v, (.int .i64 t_15.2.at_), (.int .u64 t_15.2.seed.v)], 103⟩]] ++ [[⟨b13, [(.int .i64 t_12.1.Num), (.int .i64 t_12.1.Den)], 24⟩], [⟨b8, [(.int .i64 t_6.1.Num), (.int .i64 t_6.1.Den)], 24⟩], [⟨b3, [(.int .i64 0), (.int .i64 0)], 24⟩], [⟨b2, [(.int .i64 0), (.int .i64 0)], 24⟩]]) := hS
      have hE17 := hS17.enter
      obtain ⟨t_18, ht_18, hj1⟩ := bindS hj1
      refine q_do rfl fun _ hK => wp_callX (vs := [(.pointer (some ⟨b4, 0, none⟩))]) hF Try.func112 (by kernel_rfl) rfl rfl rfl (c_spec_l1Cur_anyFrac t_15.2 t_18 ht_18 _ m14' b4 s16 h16 _ hE17) fun a w _ hR hF => hK _ _ ?_
      obtain ⟨m17', s19, rfl, hm17, hR17, h19⟩ := hR
      have hS : St _ _ _ _ [[⟨b4, [s19.v, (.int .i64 t_18.2.at_), (.int .u64 t_18.2.seed.v)], 103⟩], [⟨b13, [(.int .i64 t_12.1.Num), (.int .i64 t_12.1.Den)], 24⟩], [⟨b8, [(.int .i64 t_6.1.Num), (.int .i64 t_6.1.Den)], 24⟩], [⟨b3, [(.int .i64 0), (.int .i64 0)], 24⟩], [⟨b2, [(.int .i64 0), (.int .i64 0)], 24⟩]] := hS17.leave hR17 hm17
      have hm17 := MLe.weakX hS17 hm17
      refine q_store (vs := [(.int .i64 t_18.1.Num), (.int .i64 t_18.1.Den)]) (cs' := [(.int .i64 t_18.1.Num), (.int .i64 t_18.1.Den)]) 1 0 hF hS sz24 rfl rfl rfl rfl rfl rfl rfl rfl fun a w hF hS => ?_
      refine q_end (n_jn ?_)
      obtain rfl := someI hj1
      exact ⟨m17', hF.sub ⟨rfl, rfl, rfl, rfl, trivial⟩, hS.mask [false, true, true, true, true], hm17⟩
  · rintro a w ⟨m21, hF, hS, hm21⟩
    refine n_sq ?_
    refine q_seq ?_
    refine e_region [2, 3] mixed fun w' hw' => ?_
    have hS := hS.below hw'
    refine e_x (v := (.agg #[(.int .i64 t_6.1.Num), (.int .i64 t_6.1.Den)])) 0 hF hS rfl (ex_loadA (vs := [(.int .i64 t_6.1.Num), (.int .i64 t_6.1.Den)]) 1 0 Try.underlying24 rfl sz24 rfl rfl rfl rfl) rfl rfl (by kernel_rfl) (by kernel_rfl) (by kernel_rfl) (by kernel_rfl) fun a hF => ?_
    refine e_all [1, 2] (by kernel_rfl) rfl ⟨?_, ?_, trivial⟩
    · refine e_lx (v := (.agg #[(.int .i64 d_20.Num), (.int .i64 d_20.Den)])) hF hS rfl (ex_loadA (vs := [(.int .i64 d_20.Num), (.int .i64 d_20.Den)]) 0 0 Try.underlying24 rfl sz24 rfl rfl rfl rfl) rfl rfl fun a hF => ?_
      refine e_one 2 (by kernel_rfl) ?_
      refine e_store (vs := [(.int .i64 t_6.1.Num), (.int .i64 t_6.1.Den)]) (cs' := [(.int .i64 t_6.1.Num), (.int .i64 t_6.1.Den)]) 3 0 hF hS rfl rfl sz24 rfl rfl rfl rfl rfl rfl rfl rfl fun a w hF hS => ?_
      refine e_one 3 (by kernel_rfl) ?_
      refine e_store (vs := [(.int .i64 d_20.Num), (.int .i64 d_20.Den)]) (cs' := [(.int .i64 d_20.Num), (.int .i64 d_20.Den)]) 2 0 hF hS rfl rfl sz24 rfl rfl rfl rfl rfl rfl rfl rfl fun a w hF hS => ?_
      refine e_end (by kernel_rfl) (n_sq (q_ret ?_)) _
      obtain rfl := someI hr
      exact ret_of hF hS rfl (.cellA (us := [(.int .i64 t_6.1.Num), (.int .i64 t_6.1.Den)]) 3 0 Try.underlying24 rfl sz24 rfl rfl rfl rfl (.cellA (us := [(.int .i64 d_20.Num), (.int .i64 d_20.Den)]) 2 0 Try.underlying24 rfl sz24 rfl rfl rfl rfl .nil)) rfl
    · refine e_store (vs := [(.int .i64 t_6.1.Num), (.int .i64 t_6.1.Den)]) (cs' := [(.int .i64 t_6.1.Num), (.int .i64 t_6.1.Den)]) 3 0 hF hS rfl rfl sz24 rfl rfl rfl rfl rfl rfl rfl rfl fun a w hF hS => ?_
      refine e_x (v := (.agg #[(.int .i64 d_20.Num), (.int .i64 d_20.Den)])) 1 hF hS rfl (ex_loadA (vs := [(.int .i64 d_20.Num), (.int .i64 d_20.Den)]) 0 0 Try.underlying24 rfl sz24 rfl rfl rfl rfl) rfl rfl (by kernel_rfl) (by kernel_rfl) (by kernel_rfl) (by kernel_rfl) fun a hF => ?_
      refine e_one 3 (by kernel_rfl) ?_
      refine e_store (vs := [(.int .i64 d_20.Num), (.int .i64 d_20.Den)]) (cs' := [(.int .i64 d_20.Num), (.int .i64 d_20.Den)]) 2 0 hF hS rfl rfl sz24 rfl rfl rfl rfl rfl rfl rfl rfl fun a w hF hS => ?_
      refine e_end (by kernel_rfl) (n_sq (q_ret ?_)) _
      obtain rfl := someI hr
      exact ret_of hF hS rfl (.cellA (us := [(.int .i64 t_6.1.Num), (.int .i64 t_6.1.Den)]) 3 0 Try.underlying24 rfl sz24 rfl rfl rfl rfl (.cellA (us := [(.int .i64 d_20.Num), (.int .i64 d_20.Den)]) 2 0 Try.underlying24 rfl sz24 rfl rfl rfl rfl .nil)) rfl

theorem c_impl_LeastRadius (p_a : impl_Frac) (p_delta : impl_Frac) (r : Int × Bool) (hr : impl_LeastRadius p_a p_delta = some r) (w0 : World) (m : Mem) (hv : Vis m w0) :
    Ret Try.prog 49 [(.agg #[(.int .i64 p_a.Num), (.int .i64 p_a.Den)]), (.agg #[(.int .i64 p_delta.Num), (.int .i64 p_delta.Den)])] w0 (fun v _ => v = (.tuple #[(.int .i64 r.1), (.bool r.2)])) := by
  unfold impl_LeastRadius at hr
  refine ret_start Try.func49 rfl 44 rfl rfl m hv fun a hF hS => ?_
  refine q_seq ?_
  refine q_region ?_
  refine q_box (cs := [(.int .i64 p_a.Num), (.int .i64 p_a.Den)]) hF hS rfl rfl rfl fun a w b1 hF hS => ?_
  refine q_box (cs := [(.int .i64 p_delta.Num), (.int .i64 p_delta.Den)]) hF hS rfl rfl rfl fun a w b2 hF hS => ?_
  refine q_x (v := (.int .i64 0)) hF hS (ex_assign rfl) rfl rfl fun a hF => ?_
  refine q_x (v := (.bool false)) hF hS (ex_assign rfl) rfl rfl fun a hF => ?_
  refine q_end (n_sq ?_)
  refine q_seq ?_
  refine q_seq ?_
  obtain ⟨t_5, hj1, hr⟩ := bindS hr
  refine q_join (fun a w => Fr a 44 [(2, (.pointer (some ⟨b1, 0, none⟩))), (3, (.pointer (some ⟨b2, 0, none⟩))), (17, (.bool t_5))] ∧ St [] w0 w m [[⟨b2, [(.int .i64 p_delta.Num), (.int .i64 p_delta.Den)], 24⟩], [⟨b1, [(.int .i64 p_a.Num), (.int .i64 p_a.Den)], 24⟩]]) ?_ ?_
  · refine q_region ?_
    refine q_x (v := (.agg #[(.int .i64 p_a.Num), (.int .i64 p_a.Den)])) hF hS (ex_loadA (vs := [(.int .i64 p_a.Num), (.int .i64 p_a.Den)]) 1 0 Try.underlying24 rfl sz24 rfl rfl rfl rfl) rfl rfl fun a hF => ?_
    obtain ⟨t_3, ht_3, hj1⟩ := bindS hj1
    refine q_call (vs := [(.agg #[(.int .i64 p_a.Num), (.int .i64 p_a.Den)])]) hF hS Try.func120 (by kernel_rfl) rfl rfl rfl (c_impl_isRatio p_a t_3 ht_3 _ m hS.vis) ?_
    rintro a w _ rfl hF hS
    refine q_x (v := (.bool (!t_3))) hF hS (ex_not rfl) rfl rfl fun a hF => ?_
    refine q_x (v := (.bool (!t_3))) hF hS (ex_move rfl) rfl rfl fun a hF => ?_
    rcases bcase (!t_3) with hc2 | hc2
    · have hj1 := cond_f hc2 hj1
      refine q_xg (v := (.agg #[(.int .i64 p_delta.Num), (.int .i64 p_delta.Den)])) hF hS (ex_loadA (vs := [(.int .i64 p_delta.Num), (.int .i64 p_delta.Den)]) 0 0 Try.underlying24 rfl sz24 rfl rfl rfl rfl) (wanted_t hF rfl rfl rfl hc2) rfl fun a hF => ?_
      obtain ⟨t_4, ht_4, hj1⟩ := bindS hj1
      refine q_callg (vs := [(.agg #[(.int .i64 p_delta.Num), (.int .i64 p_delta.Den)])]) hF hS (wanted_t hF rfl rfl rfl hc2) Try.func94 (by kernel_rfl) rfl rfl rfl (c_impl_IsFrac p_delta t_4 ht_4 _ m hS.vis) ?_
      rintro a w _ rfl hF hS
      refine q_xg (v := (.bool (!t_4))) hF hS (ex_not rfl) (wanted_t hF rfl rfl rfl hc2) rfl fun a hF => ?_
      refine q_x (v := (.bool (!t_4))) hF hS (ex_pick_f rfl rfl hc2) rfl rfl fun a hF => ?_
      refine q_end (n_jn ?_)
      obtain rfl := someI hj1
      exact ⟨hF.sub ⟨rfl, rfl, rfl, trivial⟩, hS⟩
    · have hj1 := cond_t hc2 hj1
      refine q_skip hF (wanted_f hF rfl rfl rfl hc2 rfl) rfl fun a hF => ?_
      refine q_skip hF (wanted_f hF rfl rfl rfl hc2 rfl) rfl fun a hF => ?_
      refine q_skip hF (wanted_f hF rfl rfl rfl hc2 rfl) rfl fun a hF => ?_
      refine q_x (v := (.bool true)) hF hS (ex_pick_t rfl rfl hc2) rfl rfl fun a hF => ?_
      refine q_end (n_jn ?_)
      obtain rfl := someI hj1
      exact ⟨hF.sub ⟨rfl, rfl, rfl, trivial⟩, hS⟩
  · rintro a w ⟨hF, hS⟩
    refine n_sq ?_
    rcases bcase (t_5) with hc3 | hc3
    · have hr := cond_f hc3 hr
      refine q_cond_f hF rfl hc3 ?_
      refine q_skipc (n_sq ?_)
      refine q_seq ?_
      refine q_seq ?_
      refine q_region ?_
      refine q_x (v := (.int .i64 0)) hF hS (ex_move rfl) rfl rfl fun a hF => ?_
      refine q_end (n_sq ?_)
      refine q_block ?_
      obtain ⟨o4, hl4, hr⟩ := bindS hr
      refine q_loop (fun (t_6 : Int) a w => Fr a 44 [(2, (.pointer (some ⟨b1, 0, none⟩))), (3, (.pointer (some ⟨b2, 0, none⟩))), (18, (.int .i64 t_6))] ∧ St [] w0 w m [[⟨b2, [(.int .i64 p_delta.Num), (.int .i64 p_delta.Den)], 24⟩], [⟨b1, [(.int .i64 p_a.Num), (.int .i64 p_a.Den)], 24⟩]]) (fun (o : (Unit) ⊕ (Int × Bool)) e a w => o = .inl () ∧ e = .exit 0 ∧ Fr a 44 [] ∧ St [] w0 w m []) hl4 ⟨hF.sub ⟨rfl, rfl, rfl, trivial⟩, hS⟩ ?_ ?_
      · clear hF hS
        rintro t_6 a w st ⟨hF, hS⟩ hb4
        unfold impl_LeastRadius_l1 at hb4
        refine q_seq ?_
        refine q_region ?_
        refine q_x (v := (.bool (decide (t_6 < 60)))) hF hS (ex_ibin rfl rfl rfl) rfl rfl fun a hF => ?_
        refine q_end (n_sq ?_)
        refine q_seq ?_
        rcases bcase (decide (t_6 < 60)) with hc5 | hc5
        · have hb4 := cond_f hc5 hb4
          refine q_cond_f hF rfl hc5 ?_
          refine q_exit (x_sq ?_)
          obtain rfl := someI hb4
          exact ⟨nofun, .inl ⟨rfl, rfl, hF.sub trivial, hS.mask [false, false]⟩⟩
        · have hb4 := cond_t hc5 hb4
          refine q_cond_t hF rfl hc5 ?_
          refine q_skipc (n_sq ?_)
          refine q_seq ?_
          refine q_block ?_
          refine q_seq ?_
          refine q_region ?_
          refine q_x (v := (.int .i64 t_6)) hF hS (ex_move rfl) rfl rfl fun a hF => ?_
          refine q_x (v := (.int .i64 t_6)) hF hS (ex_assign rfl) rfl rfl fun a hF => ?_
          refine q_end (n_sq ?_)
          refine q_seq ?_
          refine q_region ?_
          refine q_x (v := (.agg #[(.int .i64 p_a.Num), (.int .i64 p_a.Den)])) hF hS (ex_loadA (vs := [(.int .i64 p_a.Num), (.int .i64 p_a.Den)]) 1 0 Try.underlying24 rfl sz24 rfl rfl rfl rfl) rfl rfl fun a hF => ?_
          refine q_x (v := (.int .i64 t_6)) hF hS (ex_move rfl) rfl rfl fun a hF => ?_
          refine q_x (v := (.int .i64 (w64 (t_6 + 1)))) hF hS (ex_ibin rfl rfl rfl) rfl rfl fun a hF => ?_
          obtain ⟨t_7, ht_7, hb4⟩ := bindS hb4
          refine q_call (vs := [(.agg #[(.int .i64 p_a.Num), (.int .i64 p_a.Den)]), (.int .i64 (w64 (t_6 + 1)))]) hF hS Try.func129 (by kernel_rfl) rfl rfl rfl (c_impl_geoTail p_a (w64 (t_6 + 1)) t_7 ht_7 _ m hS.vis) ?_
          rintro a w _ rfl hF hS
          refine q_x (v := (.tuple #[(.agg #[(.int .i64 t_7.1.Num), (.int .i64 t_7.1.Den)]), (.bool t_7.2)])) hF hS (ex_move rfl) rfl rfl fun a hF => ?_
          refine q_x (v := (.agg #[(.int .i64 t_7.1.Num), (.int .i64 t_7.1.Den)])) hF hS (ex_extract rfl rfl) rfl rfl fun a hF => ?_
          refine q_x (v := (.bool t_7.2)) hF hS (ex_extract rfl rfl) rfl rfl fun a hF => ?_
          refine q_alloc (cs := [(.int .i64 0), (.int .i64 0)]) hF hS rfl rfl rfl fun a w b8 hF hS => ?_
          refine q_store (vs := [(.int .i64 t_7.1.Num), (.int .i64 t_7.1.Den)]) (cs' := [(.int .i64 t_7.1.Num), (.int .i64 t_7.1.Den)]) 0 0 hF hS sz24 rfl rfl rfl rfl rfl rfl rfl rfl fun a w hF hS => ?_
          refine q_x (v := (.bool t_7.2)) hF hS (ex_assign rfl) rfl rfl fun a hF => ?_
          refine q_end (n_sq ?_)
          refine q_seq ?_
          refine q_seq ?_
          refine q_region ?_
          refine q_x (v := (.bool t_7.2)) hF hS (ex_move rfl) rfl rfl fun a hF => ?_
          refine q_x (v := (.bool (!t_7.2))) hF hS (ex_not rfl) rfl rfl fun a hF => ?_
          refine q_end (n_sq ?_)
          rcases bcase (!t_7.2) with hc6 | hc6
          · have hb4 := cond_f hc6 hb4
            refine q_cond_f hF rfl hc6 ?_
            refine q_skipc (n_sq ?_)
            refine q_seq ?_
            refine q_region ?_
            refine q_x (v := (.agg #[(.int .i64 2), (.int .i64 1)])) hF hS (ex_build (cells := [(.int .i64 2), (.int .i64 1)]) rfl (by kernel_rfl)) rfl rfl fun a hF => ?_
            refine q_x (v := (.agg #[(.int .i64 t_7.1.Num), (.int .i64 t_7.1.Den)])) hF hS (ex_loadA (vs := [(.int .i64 t_7.1.Num), (.int .i64 t_7.1.Den)]) 0 0 Try.underlying24 rfl sz24 rfl rfl rfl rfl) rfl rfl fun a hF => ?_
            obtain ⟨t_9, ht_9, hb4⟩ := bindS hb4
            refine q_call (vs := [(.agg #[(.int .i64 2), (.int .i64 1)]), (.agg #[(.int .i64 t_7.1.Num), (.int .i64 t_7.1.Den)])]) hF hS Try.func103 (by kernel_rfl) rfl rfl rfl (c_impl_MulFrac (impl_Frac.mk 2 1) t_7.1 t_9 ht_9 _ m hS.vis) ?_
            rintro a w _ rfl hF hS
            refine q_x (v := (.tuple #[(.agg #[(.int .i64 t_9.1.Num), (.int .i64 t_9.1.Den)]), (.bool t_9.2)])) hF hS (ex_move rfl) rfl rfl fun a hF => ?_
            refine q_x (v := (.agg #[(.int .i64 t_9.1.Num), (.int .i64 t_9.1.Den)])) hF hS (ex_extract rfl rfl) rfl rfl fun a hF => ?_
            refine q_x (v := (.bool t_9.2)) hF hS (ex_extract rfl rfl) rfl rfl fun a hF => ?_
            refine q_alloc (cs := [(.int .i64 0), (.int .i64 0)]) hF hS rfl rfl rfl fun a w b10 hF hS => ?_
            refine q_store (vs := [(.int .i64 t_9.1.Num), (.int .i64 t_9.1.Den)]) (cs' := [(.int .i64 t_9.1.Num), (.int .i64 t_9.1.Den)]) 0 0 hF hS sz24 rfl rfl rfl rfl rfl rfl rfl rfl fun a w hF hS => ?_
            refine q_x (v := (.bool t_9.2)) hF hS (ex_assign rfl) rfl rfl fun a hF => ?_
            refine q_end (n_sq ?_)
            refine q_seq ?_
            refine q_seq ?_
            refine q_region ?_
            refine q_x (v := (.bool t_9.2)) hF hS (ex_move rfl) rfl rfl fun a hF => ?_
            refine q_x (v := (.bool (!t_9.2))) hF hS (ex_not rfl) rfl rfl fun a hF => ?_
            refine q_end (n_sq ?_)
            rcases bcase (!t_9.2) with hc7 | hc7
            · have hb4 := cond_f hc7 hb4
              refine q_cond_f hF rfl hc7 ?_
              refine q_skipc (n_sq ?_)
              refine q_seq ?_
              refine q_region ?_
              refine q_x (v := (.agg #[(.int .i64 t_9.1.Num), (.int .i64 t_9.1.Den)])) hF hS (ex_loadA (vs := [(.int .i64 t_9.1.Num), (.int .i64 t_9.1.Den)]) 0 0 Try.underlying24 rfl sz24 rfl rfl rfl rfl) rfl rfl fun a hF => ?_
              refine q_x (v := (.agg #[(.int .i64 p_delta.Num), (.int .i64 p_delta.Den)])) hF hS (ex_loadA (vs := [(.int .i64 p_delta.Num), (.int .i64 p_delta.Den)]) 2 0 Try.underlying24 rfl sz24 rfl rfl rfl rfl) rfl rfl fun a hF => ?_
              obtain ⟨t_11, ht_11, hb4⟩ := bindS hb4
              refine q_call (vs := [(.agg #[(.int .i64 t_9.1.Num), (.int .i64 t_9.1.Den)]), (.agg #[(.int .i64 p_delta.Num), (.int .i64 p_delta.Den)])]) hF hS Try.func126 (by kernel_rfl) rfl rfl rfl (c_impl_cmpFrac t_9.1 p_delta t_11 ht_11 _ m hS.vis) ?_
              rintro a w _ rfl hF hS
              refine q_x (v := (.bool (decide (t_11 ≤ 0)))) hF hS (ex_ibin rfl rfl rfl) rfl rfl fun a hF => ?_
              refine q_end (n_sq ?_)
              rcases bcase (decide (t_11 ≤ 0)) with hc8 | hc8
              · have hb4 := cond_f hc8 hb4
                refine q_cond_f hF rfl hc8 ?_
                refine q_skipc (n_ib (n_sq ?_))
                refine q_region ?_
                refine q_x (v := (.int .i64 (w64 (t_6 + 1)))) hF hS (ex_ibin rfl rfl rfl) rfl rfl fun a hF => ?_
                refine q_x (v := (.int .i64 (w64 (t_6 + 1)))) hF hS (ex_move rfl) rfl rfl fun a hF => ?_
                refine q_end ?_
                obtain rfl := someI hb4
                exact ⟨rfl, hF.sub ⟨rfl, rfl, rfl, trivial⟩, hS.mask [false, false, true, true]⟩
              · have hb4 := cond_t hc8 hb4
                refine q_cond_t hF rfl hc8 ?_
                refine q_seq ?_
                refine q_region ?_
                refine q_x (v := (.int .i64 t_6)) hF hS (ex_move rfl) rfl rfl fun a hF => ?_
                refine q_x (v := (.int .i64 t_6)) hF hS (ex_assign rfl) rfl rfl fun a hF => ?_
                refine q_x (v := (.bool true)) hF hS (ex_assign rfl) rfl rfl fun a hF => ?_
                refine q_end (n_sq (q_ret (r_ib (r_sq ?_))))
                obtain rfl := someI hb4
                refine ⟨nofun, .inr fun ho => ?_⟩
                subst ho
                refine r_ib (r_sq ?_)
                obtain rfl := someI hr
                exact ret_of hF hS rfl (.tmp rfl (.tmp rfl .nil)) rfl
            · have hb4 := cond_t hc7 hb4
              refine q_cond_t hF rfl hc7 ?_
              refine q_seq ?_
              refine q_region ?_
              refine q_x (v := (.int .i64 0)) hF hS (ex_assign rfl) rfl rfl fun a hF => ?_
              refine q_x (v := (.bool false)) hF hS (ex_assign rfl) rfl rfl fun a hF => ?_
              refine q_end (n_sq (q_ret (r_sq (r_ib (r_sq ?_)))))
              obtain rfl := someI hb4
              refine ⟨nofun, .inr fun ho => ?_⟩
              subst ho
              refine r_ib (r_sq ?_)
              obtain rfl := someI hr
              exact ret_of hF hS rfl (.tmp rfl (.tmp rfl .nil)) rfl
          · have hb4 := cond_t hc6 hb4
            refine q_cond_t hF rfl hc6 ?_
            refine q_seq ?_
            refine q_region ?_
            refine q_x (v := (.int .i64 0)) hF hS (ex_assign rfl) rfl rfl fun a hF => ?_
            refine q_x (v := (.bool false)) hF hS (ex_assign rfl) rfl rfl fun a hF => ?_
            refine q_end (n_sq (q_ret (r_sq (r_ib (r_sq ?_)))))
            obtain rfl := someI hb4
            refine ⟨nofun, .inr fun ho => ?_⟩
            subst ho
            refine r_ib (r_sq ?_)
            obtain rfl := someI hr
            exact ret_of hF hS rfl (.tmp rfl (.tmp rfl .nil)) rfl
      · rintro e a w ⟨rfl, rfl, hF, hS⟩
        refine x_ib (n_sq ?_)
        refine q_seq ?_
        refine q_region ?_
        refine q_x (v := (.int .i64 0)) hF hS (ex_assign rfl) rfl rfl fun a hF => ?_
        refine q_x (v := (.bool false)) hF hS (ex_assign rfl) rfl rfl fun a hF => ?_
        refine q_end (n_sq (q_ret ?_))
        obtain rfl := someI hr
        exact ret_of hF hS rfl (.tmp rfl (.tmp rfl .nil)) rfl
    · have hr := cond_t hc3 hr
      refine q_cond_t hF rfl hc3 ?_
      refine q_seq ?_
      refine q_region ?_
      refine q_x (v := (.int .i64 0)) hF hS (ex_assign rfl) rfl rfl fun a hF => ?_
      refine q_x (v := (.bool false)) hF hS (ex_assign rfl) rfl rfl fun a hF => ?_
      refine q_end (n_sq (q_ret (r_sq ?_)))
      obtain rfl := someI hr
      exact ret_of hF hS rfl (.tmp rfl (.tmp rfl .nil)) rfl

theorem c_spec_l1Sign (p_n : Int) (r : Int) (hr : spec_l1Sign p_n = some r) (w0 : World) (m : Mem) (hv : Vis m w0) :
    Ret Try.prog 168 [(.int .i64 p_n)] w0 (fun v _ => v = (.int .i64 r)) := by
  unfold spec_l1Sign at hr
  refine ret_start Try.func168 rfl 9 rfl rfl m hv fun a hF hS => ?_
  refine q_seq ?_
  refine q_region ?_
  refine q_x (v := (.int .i64 0)) hF hS (ex_assign rfl) rfl rfl fun a hF => ?_
  refine q_end (n_sq ?_)
  refine q_seq ?_
  refine q_block ?_
  refine q_seq ?_
  refine q_region ?_
  refine q_x (v := (.int .i64 p_n)) hF hS (ex_move rfl) rfl rfl fun a hF => ?_
  refine q_x (v := (.bool (decide (p_n < 0)))) hF hS (ex_ibin rfl rfl rfl) rfl rfl fun a hF => ?_
  refine q_x (v := (.bool (decide (p_n < 0)))) hF hS (ex_assign rfl) rfl rfl fun a hF => ?_
  refine q_end (n_sq ?_)
  rcases bcase (decide (p_n < 0)) with hc1 | hc1
  · have hr := cond_f hc1 hr
    refine q_cond_f hF rfl hc1 ?_
    refine q_seq ?_
    refine q_region ?_
    refine q_x (v := (.int .i64 p_n)) hF hS (ex_move rfl) rfl rfl fun a hF => ?_
    refine q_x (v := (.bool (decide (0 < p_n)))) hF hS (ex_ibin rfl rfl rfl) rfl rfl fun a hF => ?_
    refine q_x (v := (.bool (decide (0 < p_n)))) hF hS (ex_assign rfl) rfl rfl fun a hF => ?_
    refine q_end (n_sq ?_)
    rcases bcase (decide (0 < p_n)) with hc2 | hc2
    · have hr := cond_f hc2 hr
      refine q_cond_f hF rfl hc2 ?_
      refine q_skipc (n_ib (n_sq ?_))
      refine q_seq ?_
      refine q_region ?_
      refine q_x (v := (.int .i64 0)) hF hS (ex_assign rfl) rfl rfl fun a hF => ?_
      refine q_end (n_sq (q_ret ?_))
      obtain rfl := someI hr
      exact ret_of hF hS rfl (.tmp rfl .nil) rfl
    · have hr := cond_t hc2 hr
      refine q_cond_t hF rfl hc2 ?_
      refine q_seq ?_
      refine q_region ?_
      refine q_x (v := (.int .i64 1)) hF hS (ex_assign rfl) rfl rfl fun a hF => ?_
      refine q_end (n_sq (q_ret (r_ib (r_sq ?_))))
      obtain rfl := someI hr
      exact ret_of hF hS rfl (.tmp rfl .nil) rfl
  · have hr := cond_t hc1 hr
    refine q_cond_t hF rfl hc1 ?_
    refine q_seq ?_
    refine q_region ?_
    refine q_x (v := (.int .i64 (-1))) hF hS (ex_assign rfl) rfl rfl fun a hF => ?_
    refine q_end (n_sq (q_ret (r_ib (r_sq ?_))))
    obtain rfl := someI hr
    exact ret_of hF hS rfl (.tmp rfl .nil) rfl

theorem c_spec_fCmp (p_a : impl_Frac) (p_b : impl_Frac) (r : Int) (hr : spec_fCmp p_a p_b = some r) (w0 : World) (m : Mem) (hv : Vis m w0) :
    Ret Try.prog 131 [(.agg #[(.int .i64 p_a.Num), (.int .i64 p_a.Den)]), (.agg #[(.int .i64 p_b.Num), (.int .i64 p_b.Den)])] w0 (fun v _ => v = (.int .i64 r)) := by
  unfold spec_fCmp at hr
  refine ret_start Try.func131 rfl 17 rfl rfl m hv fun a hF hS => ?_
  refine q_seq ?_
  refine q_region ?_
  refine q_box (cs := [(.int .i64 p_a.Num), (.int .i64 p_a.Den)]) hF hS rfl rfl rfl fun a w b1 hF hS => ?_
  refine q_box (cs := [(.int .i64 p_b.Num), (.int .i64 p_b.Den)]) hF hS rfl rfl rfl fun a w b2 hF hS => ?_
  refine q_x (v := (.int .i64 0)) hF hS (ex_assign rfl) rfl rfl fun a hF => ?_
  refine q_end (n_sq ?_)
  refine q_seq ?_
  refine q_region ?_
  refine q_x (v := (.pointer (some ⟨b1, 0, none⟩))) hF hS (ex_fieldAddr Try.underlying24 rfl sz3 rfl rfl) rfl rfl fun a hF => ?_
  refine q_x (v := (.int .i64 p_a.Num)) hF hS (ex_load1 1 0 Try.underlying3 rfl rfl rfl rfl) rfl rfl fun a hF => ?_
  refine q_x (v := (.pointer (some ⟨b2, 1, none⟩))) hF hS (ex_fieldAddr Try.underlying24 rfl sz3 rfl rfl) rfl rfl fun a hF => ?_
  refine q_x (v := (.int .i64 p_b.Den)) hF hS (ex_load1 0 0 Try.underlying3 rfl rfl rfl rfl) rfl rfl fun a hF => ?_
  refine q_x (v := (.int .i64 (w64 (p_a.Num * p_b.Den)))) hF hS (ex_ibin rfl rfl rfl) rfl rfl fun a hF => ?_
  refine q_x (v := (.pointer (some ⟨b2, 0, none⟩))) hF hS (ex_fieldAddr Try.underlying24 rfl sz3 rfl rfl) rfl rfl fun a hF => ?_
  refine q_x (v := (.int .i64 p_b.Num)) hF hS (ex_load1 0 0 Try.underlying3 rfl rfl rfl rfl) rfl rfl fun a hF => ?_
  refine q_x (v := (.pointer (some ⟨b1, 1, none⟩))) hF hS (ex_fieldAddr Try.underlying24 rfl sz3 rfl rfl) rfl rfl fun a hF => ?_
  refine q_x (v := (.int .i64 p_a.Den)) hF hS (ex_load1 1 0 Try.underlying3 rfl rfl rfl rfl) rfl rfl fun a hF => ?_
  refine q_x (v := (.int .i64 (w64 (p_b.Num * p_a.Den)))) hF hS (ex_ibin rfl rfl rfl) rfl rfl fun a hF => ?_
  refine q_x (v := (.int .i64 (w64 ((w64 (p_a.Num * p_b.Den)) - (w64 (p_b.Num * p_a.Den)))))) hF hS (ex_ibin rfl rfl rfl) rfl rfl fun a hF => ?_
  obtain ⟨t_3, ht_3, hr⟩ := bindS hr
  refine q_call (vs := [(.int .i64 (w64 ((w64 (p_a.Num * p_b.Den)) - (w64 (p_b.Num * p_a.Den)))))]) hF hS Try.func168 (by kernel_rfl) rfl rfl rfl (c_spec_l1Sign (w64 ((w64 (p_a.Num * p_b.Den)) - (w64 (p_b.Num * p_a.Den)))) t_3 ht_3 _ m hS.vis) ?_
  rintro a w _ rfl hF hS
  refine q_x (v := (.int .i64 t_3)) hF hS (ex_assign rfl) rfl rfl fun a hF => ?_
  refine q_end (n_sq (q_ret ?_))
  obtain rfl := someI hr
  exact ret_of hF hS rfl (.tmp rfl .nil) rfl

theorem c_spec_LeastRadius (p_a : impl_Frac) (p_delta : impl_Frac) (r : Int × Bool) (hr : spec_LeastRadius p_a p_delta = some r) (w0 : World) (m : Mem) (hv : Vis m w0) :
    Ret Try.prog 50 [(.agg #[(.int .i64 p_a.Num), (.int .i64 p_a.Den)]), (.agg #[(.int .i64 p_delta.Num), (.int .i64 p_delta.Den)])] w0 (fun v _ => v = (.tuple #[(.int .i64 r.1), (.bool r.2)])) := by
  unfold spec_LeastRadius at hr
  refine ret_start Try.func50 rfl 47 rfl rfl m hv fun a hF hS => ?_
  refine q_seq ?_
  refine q_region ?_
  refine q_box (cs := [(.int .i64 p_a.Num), (.int .i64 p_a.Den)]) hF hS rfl rfl rfl fun a w b1 hF hS => ?_
  refine q_box (cs := [(.int .i64 p_delta.Num), (.int .i64 p_delta.Den)]) hF hS rfl rfl rfl fun a w b2 hF hS => ?_
  refine q_x (v := (.int .i64 0)) hF hS (ex_assign rfl) rfl rfl fun a hF => ?_
  refine q_x (v := (.bool false)) hF hS (ex_assign rfl) rfl rfl fun a hF => ?_
  refine q_end (n_sq ?_)
  refine q_seq ?_
  refine q_seq ?_
  obtain ⟨t_5, hj1, hr⟩ := bindS hr
  refine q_join (fun a w => Fr a 47 [(2, (.pointer (some ⟨b1, 0, none⟩))), (3, (.pointer (some ⟨b2, 0, none⟩))), (18, (.bool t_5))] ∧ St [] w0 w m [[⟨b2, [(.int .i64 p_delta.Num), (.int .i64 p_delta.Den)], 24⟩], [⟨b1, [(.int .i64 p_a.Num), (.int .i64 p_a.Den)], 24⟩]]) ?_ ?_
  · refine q_region ?_
    refine q_x (v := (.agg #[(.int .i64 p_a.Num), (.int .i64 p_a.Den)])) hF hS (ex_loadA (vs := [(.int .i64 p_a.Num), (.int .i64 p_a.Den)]) 1 0 Try.underlying24 rfl sz24 rfl rfl rfl rfl) rfl rfl fun a hF => ?_
    obtain ⟨t_3, ht_3, hj1⟩ := bindS hj1
    refine q_call (vs := [(.agg #[(.int .i64 p_a.Num), (.int .i64 p_a.Den)])]) hF hS Try.func123 (by kernel_rfl) rfl rfl rfl (c_spec_zRatio p_a t_3 ht_3 _ m hS.vis) ?_
    rintro a w _ rfl hF hS
    refine q_x (v := (.bool (!t_3))) hF hS (ex_not rfl) rfl rfl fun a hF => ?_
    refine q_x (v := (.bool (!t_3))) hF hS (ex_move rfl) rfl rfl fun a hF => ?_
    rcases bcase (!t_3) with hc2 | hc2
    · have hj1 := cond_f hc2 hj1
      refine q_xg (v := (.agg #[(.int .i64 p_delta.Num), (.int .i64 p_delta.Den)])) hF hS (ex_loadA (vs := [(.int .i64 p_delta.Num), (.int .i64 p_delta.Den)]) 0 0 Try.underlying24 rfl sz24 rfl rfl rfl rfl) (wanted_t hF rfl rfl rfl hc2) rfl fun a hF => ?_
      obtain ⟨t_4, ht_4, hj1⟩ := bindS hj1
      refine q_callg (vs := [(.agg #[(.int .i64 p_delta.Num), (.int .i64 p_delta.Den)])]) hF hS (wanted_t hF rfl rfl rfl hc2) Try.func115 (by kernel_rfl) rfl rfl rfl (c_spec_fGood p_delta t_4 ht_4 _ m hS.vis) ?_
      rintro a w _ rfl hF hS
      refine q_xg (v := (.bool (!t_4))) hF hS (ex_not rfl) (wanted_t hF rfl rfl rfl hc2) rfl fun a hF => ?_
      refine q_x (v := (.bool (!t_4))) hF hS (ex_pick_f rfl rfl hc2) rfl rfl fun a hF => ?_
      refine q_end (n_jn ?_)
      obtain rfl := someI hj1
      exact ⟨hF.sub ⟨rfl, rfl, rfl, trivial⟩, hS⟩
    · have hj1 := cond_t hc2 hj1
      refine q_skip hF (wanted_f hF rfl rfl rfl hc2 rfl) rfl fun a hF => ?_
      refine q_skip hF (wanted_f hF rfl rfl rfl hc2 rfl) rfl fun a hF => ?_
      refine q_skip hF (wanted_f hF rfl rfl rfl hc2 rfl) rfl fun a hF => ?_
      refine q_x (v := (.bool true)) hF hS (ex_pick_t rfl rfl hc2) rfl rfl fun a hF => ?_
      refine q_end (n_jn ?_)
      obtain rfl := someI hj1
      exact ⟨hF.sub ⟨rfl, rfl, rfl, trivial⟩, hS⟩
  · rintro a w ⟨hF, hS⟩
    refine n_sq ?_
    rcases bcase (t_5) with hc3 | hc3
    · have hr := cond_f hc3 hr
      refine q_cond_f hF rfl hc3 ?_
      refine q_skipc (n_sq ?_)
      refine q_seq ?_
      refine q_seq ?_
      refine q_region ?_
      refine q_x (v := (.int .i64 0)) hF hS (ex_assign rfl) rfl rfl fun a hF => ?_
      refine q_end (n_sq ?_)
      refine q_block ?_
      obtain ⟨o4, hl4, hr⟩ := bindS hr
      refine q_loop (fun (k_6 : Int) a w => Fr a 47 [(2, (.pointer (some ⟨b1, 0, none⟩))), (3, (.pointer (some ⟨b2, 0, none⟩))), (6, (.int .i64 k_6))] ∧ St [] w0 w m [[⟨b2, [(.int .i64 p_delta.Num), (.int .i64 p_delta.Den)], 24⟩], [⟨b1, [(.int .i64 p_a.Num), (.int .i64 p_a.Den)], 24⟩]]) (fun (o : (Unit) ⊕ (Int × Bool)) e a w => o = .inl () ∧ e = .exit 0 ∧ Fr a 47 [] ∧ St [] w0 w m []) hl4 ⟨hF.sub ⟨rfl, rfl, rfl, trivial⟩, hS⟩ ?_ ?_
      · clear hF hS
        rintro k_6 a w st ⟨hF, hS⟩ hb4
        unfold spec_LeastRadius_l1 at hb4
        refine q_seq ?_
        refine q_seq ?_
        refine q_region ?_
        refine q_x (v := (.int .i64 k_6)) hF hS (ex_move rfl) rfl rfl fun a hF => ?_
        refine q_x (v := (.bool (decide (k_6 < 60)))) hF hS (ex_ibin rfl rfl rfl) rfl rfl fun a hF => ?_
        refine q_end (n_sq ?_)
        rcases bcase (decide (k_6 < 60)) with hc5 | hc5
        · have hb4 := cond_f hc5 hb4
          refine q_cond_f hF rfl hc5 ?_
          refine q_exit (x_sq ?_)
          obtain rfl := someI hb4
          exact ⟨nofun, .inl ⟨rfl, rfl, hF.sub trivial, hS.mask [false, false]⟩⟩
        · have hb4 := cond_t hc5 hb4
          refine q_cond_t hF rfl hc5 ?_
          refine q_skipc (n_sq ?_)
          refine q_seq ?_
          refine q_block ?_
          refine q_seq ?_
          refine q_region ?_
          refine q_x (v := (.agg #[(.int .i64 p_a.Num), (.int .i64 p_a.Den)])) hF hS (ex_loadA (vs := [(.int .i64 p_a.Num), (.int .i64 p_a.Den)]) 1 0 Try.underlying24 rfl sz24 rfl rfl rfl rfl) rfl rfl fun a hF => ?_
          refine q_x (v := (.int .i64 k_6)) hF hS (ex_move rfl) rfl rfl fun a hF => ?_
          refine q_x (v := (.int .i64 (w64 (k_6 + 1)))) hF hS (ex_ibin rfl rfl rfl) rfl rfl fun a hF => ?_
          obtain ⟨t_7, ht_7, hb4⟩ := bindS hb4
          refine q_call (vs := [(.agg #[(.int .i64 p_a.Num), (.int .i64 p_a.Den)]), (.int .i64 (w64 (k_6 + 1)))]) hF hS Try.func130 (by kernel_rfl) rfl rfl rfl (c_spec_zTail p_a (w64 (k_6 + 1)) t_7 ht_7 _ m hS.vis) ?_
          rintro a w _ rfl hF hS
          refine q_x (v := (.tuple #[(.agg #[(.int .i64 t_7.1.Num), (.int .i64 t_7.1.Den)]), (.bool t_7.2)])) hF hS (ex_move rfl) rfl rfl fun a hF => ?_
          refine q_x (v := (.agg #[(.int .i64 t_7.1.Num), (.int .i64 t_7.1.Den)])) hF hS (ex_extract rfl rfl) rfl rfl fun a hF => ?_
          refine q_x (v := (.bool t_7.2)) hF hS (ex_extract rfl rfl) rfl rfl fun a hF => ?_
          refine q_alloc (cs := [(.int .i64 0), (.int .i64 0)]) hF hS rfl rfl rfl fun a w b8 hF hS => ?_
          refine q_store (vs := [(.int .i64 t_7.1.Num), (.int .i64 t_7.1.Den)]) (cs' := [(.int .i64 t_7.1.Num), (.int .i64 t_7.1.Den)]) 0 0 hF hS sz24 rfl rfl rfl rfl rfl rfl rfl rfl fun a w hF hS => ?_
          refine q_x (v := (.bool t_7.2)) hF hS (ex_assign rfl) rfl rfl fun a hF => ?_
          refine q_end (n_sq ?_)
          refine q_seq ?_
          obtain ⟨j6, hj6, hb4⟩ := bindS hb4
          refine q_join (fun a w => ∃ b12, ∃ two_13, ∃ y_14, j6 = (two_13, y_14) ∧ Fr a 47 [(2, (.pointer (some ⟨b1, 0, none⟩))), (3, (.pointer (some ⟨b2, 0, none⟩))), (6, (.int .i64 k_6)), (8, (.bool t_7.2)), (9, (.pointer (some ⟨b12, 0, none⟩))), (10, (.bool two_13))] ∧ St [] w0 w m [[⟨b12, [(.int .i64 y_14.Num), (.int .i64 y_14.Den)], 24⟩], [⟨b2, [(.int .i64 p_delta.Num), (.int .i64 p_delta.Den)], 24⟩], [⟨b1, [(.int .i64 p_a.Num), (.int .i64 p_a.Den)], 24⟩]]) ?_ ?_
          · refine e_region [7] mixed fun w' hw' => ?_
            have hS := hS.below hw'
            refine e_x (v := (.agg #[(.int .i64 t_7.1.Num), (.int .i64 t_7.1.Den)])) 0 hF hS rfl (ex_loadA (vs := [(.int .i64 t_7.1.Num), (.int .i64 t_7.1.Den)]) 0 0 Try.underlying24 rfl sz24 rfl rfl rfl rfl) rfl rfl (by kernel_rfl) (by kernel_rfl) (by kernel_rfl) (by kernel_rfl) fun a hF => ?_
            obtain ⟨t_10, ht_10, hj6⟩ := bindS hj6
            obtain ⟨t_11, ht_11, hj6⟩ := bindS hj6
            refine e_all [1, 6] (by kernel_rfl) rfl ⟨?_, ?_, trivial⟩
            · refine e_call (vs := [(.int .i64 2)]) hF hS rfl Try.func107 (by kernel_rfl) rfl rfl rfl (c_spec_fInt 2 t_10 ht_10 _ m hS.vis) ?_
              rintro a w _ rfl hF hS
              refine e_all [2, 6] (by kernel_rfl) rfl ⟨?_, ?_, trivial⟩
              · refine e_call (vs := [(.agg #[(.int .i64 t_7.1.Num), (.int .i64 t_7.1.Den)]), (.agg #[(.int .i64 t_10.Num), (.int .i64 t_10.Den)])]) hF hS rfl Try.func106 (by kernel_rfl) rfl rfl rfl (c_spec_fMul t_7.1 t_10 t_11 ht_11 _ m hS.vis) ?_
                rintro a w _ rfl hF hS
                refine e_p (v := (.tuple #[(.agg #[(.int .i64 t_11.1.Num), (.int .i64 t_11.1.Den)]), (.bool t_11.2)])) 3 hF rfl (ex_move rfl) rfl rfl (by kernel_rfl) (by kernel_rfl) (by kernel_rfl) fun a hF => ?_
                refine e_p (v := (.agg #[(.int .i64 t_11.1.Num), (.int .i64 t_11.1.Den)])) 4 hF rfl (ex_extract rfl rfl) rfl rfl (by kernel_rfl) (by kernel_rfl) (by kernel_rfl) fun a hF => ?_
                refine e_p (v := (.bool t_11.2)) 5 hF rfl (ex_extract rfl rfl) rfl rfl (by kernel_rfl) (by kernel_rfl) (by kernel_rfl) fun a hF => ?_
                refine e_one 6 (by kernel_rfl) ?_
                refine e_alloc (cs := [(.int .i64 0), (.int .i64 0)]) hF hS rfl rfl rfl rfl fun a w b12 hF hS => ?_
                refine e_one 7 (by kernel_rfl) ?_
                refine e_store (vs := [(.int .i64 t_11.1.Num), (.int .i64 t_11.1.Den)]) (cs' := [(.int .i64 t_11.1.Num), (.int .i64 t_11.1.Den)]) 0 0 hF hS rfl rfl sz24 rfl rfl rfl rfl rfl rfl rfl rfl fun a w hF hS => ?_
                refine e_p (v := (.bool t_11.2)) 8 hF rfl (ex_assign rfl) rfl rfl (by kernel_rfl) (by kernel_rfl) (by kernel_rfl) fun a hF => ?_
                refine e_end (by kernel_rfl) (n_jn ?_) _
                obtain rfl := someI hj6
                exact ⟨b12, _, _, rfl, hF.sub ⟨rfl, rfl, rfl, rfl, rfl, rfl, trivial⟩, hS.mask [true, false, true, true]⟩
              · refine e_alloc (cs := [(.int .i64 0), (.int .i64 0)]) hF hS rfl rfl rfl rfl fun a w b12 hF hS => ?_
                refine e_one 2 (by kernel_rfl) ?_
                refine e_call (vs := [(.agg #[(.int .i64 t_7.1.Num), (.int .i64 t_7.1.Den)]), (.agg #[(.int .i64 t_10.Num), (.int .i64 t_10.Den)])]) hF hS rfl Try.func106 (by kernel_rfl) rfl rfl rfl (c_spec_fMul t_7.1 t_10 t_11 ht_11 _ m hS.vis) ?_
                rintro a w _ rfl hF hS
                refine e_p (v := (.tuple #[(.agg #[(.int .i64 t_11.1.Num), (.int .i64 t_11.1.Den)]), (.bool t_11.2)])) 3 hF rfl (ex_move rfl) rfl rfl (by kernel_rfl) (by kernel_rfl) (by kernel_rfl) fun a hF => ?_
                refine e_p (v := (.agg #[(.int .i64 t_11.1.Num), (.int .i64 t_11.1.Den)])) 4 hF rfl (ex_extract rfl rfl) rfl rfl (by kernel_rfl) (by kernel_rfl) (by kernel_rfl) fun a hF => ?_
                refine e_p (v := (.bool t_11.2)) 5 hF rfl (ex_extract rfl rfl) rfl rfl (by kernel_rfl) (by kernel_rfl) (by kernel_rfl) fun a hF => ?_
                refine e_one 7 (by kernel_rfl) ?_
                refine e_store (vs := [(.int .i64 t_11.1.Num), (.int .i64 t_11.1.Den)]) (cs' := [(.int .i64 t_11.1.Num), (.int .i64 t_11.1.Den)]) 0 0 hF hS rfl rfl sz24 rfl rfl rfl rfl rfl rfl rfl rfl fun a w hF hS => ?_
                refine e_p (v := (.bool t_11.2)) 8 hF rfl (ex_assign rfl) rfl rfl (by kernel_rfl) (by kernel_rfl) (by kernel_rfl) fun a hF => ?_
                refine e_end (by kernel_rfl) (n_jn ?_) _
                obtain rfl := someI hj6
                exact ⟨b12, _, _, rfl, hF.sub ⟨rfl, rfl, rfl, rfl, rfl, rfl, trivial⟩, hS.mask [true, false, true, true]⟩
            · refine e_alloc (cs := [(.int .i64 0), (.int .i64 0)]) hF hS rfl rfl rfl rfl fun a w b12 hF hS => ?_
              refine e_one 1 (by kernel_rfl) ?_
              refine e_call (vs := [(.int .i64 2)]) hF hS rfl Try.func107 (by kernel_rfl) rfl rfl rfl (c_spec_fInt 2 t_10 ht_10 _ m hS.vis) ?_
              rintro a w _ rfl hF hS
              refine e_one 2 (by kernel_rfl) ?_
              refine e_call (vs := [(.agg #[(.int .i64 t_7.1.Num), (.int .i64 t_7.1.Den)]), (.agg #[(.int .i64 t_10.Num), (.int .i64 t_10.Den)])]) hF hS rfl Try.func106 (by kernel_rfl) rfl rfl rfl (c_spec_fMul t_7.1 t_10 t_11 ht_11 _ m hS.vis) ?_
              rintro a w _ rfl hF hS
              refine e_p (v := (.tuple #[(.agg #[(.int .i64 t_11.1.Num), (.int .i64 t_11.1.Den)]), (.bool t_11.2)])) 3 hF rfl (ex_move rfl) rfl rfl (by kernel_rfl) (by kernel_rfl) (by kernel_rfl) fun a hF => ?_
              refine e_p (v := (.agg #[(.int .i64 t_11.1.Num), (.int .i64 t_11.1.Den)])) 4 hF rfl (ex_extract rfl rfl) rfl rfl (by kernel_rfl) (by kernel_rfl) (by kernel_rfl) fun a hF => ?_
              refine e_p (v := (.bool t_11.2)) 5 hF rfl (ex_extract rfl rfl) rfl rfl (by kernel_rfl) (by kernel_rfl) (by kernel_rfl) fun a hF => ?_
              refine e_one 7 (by kernel_rfl) ?_
              refine e_store (vs := [(.int .i64 t_11.1.Num), (.int .i64 t_11.1.Den)]) (cs' := [(.int .i64 t_11.1.Num), (.int .i64 t_11.1.Den)]) 0 0 hF hS rfl rfl sz24 rfl rfl rfl rfl rfl rfl rfl rfl fun a w hF hS => ?_
              refine e_p (v := (.bool t_11.2)) 8 hF rfl (ex_assign rfl) rfl rfl (by kernel_rfl) (by kernel_rfl) (by kernel_rfl) fun a hF => ?_
              refine e_end (by kernel_rfl) (n_jn ?_) _
              obtain rfl := someI hj6
              exact ⟨b12, _, _, rfl, hF.sub ⟨rfl, rfl, rfl, rfl, rfl, rfl, trivial⟩, hS.mask [true, false, true, true]⟩
          · rintro a w ⟨b12, two_13, y_14, rfl, hF, hS⟩
            refine n_sq ?_
            refine q_seq ?_
            refine q_seq ?_
            obtain ⟨t_15, hj7, hb4⟩ := bindS hb4
            refine q_join (fun a w => Fr a 47 [(2, (.pointer (some ⟨b1, 0, none⟩))), (3, (.pointer (some ⟨b2, 0, none⟩))), (6, (.int .i64 k_6)), (9, (.pointer (some ⟨b12, 0, none⟩))), (41, (.bool t_15))] ∧ St [] w0 w m [[⟨b12, [(.int .i64 y_14.Num), (.int .i64 y_14.Den)], 24⟩], [⟨b2, [(.int .i64 p_delta.Num), (.int .i64 p_delta.Den)], 24⟩], [⟨b1, [(.int .i64 p_a.Num), (.int .i64 p_a.Den)], 24⟩]]) ?_ ?_
            · refine q_region ?_
              refine q_x (v := (.bool t_7.2)) hF hS (ex_move rfl) rfl rfl fun a hF => ?_
              refine q_x (v := (.bool (!t_7.2))) hF hS (ex_not rfl) rfl rfl fun a hF => ?_
              refine q_x (v := (.bool (!t_7.2))) hF hS (ex_move rfl) rfl rfl fun a hF => ?_
              rcases bcase (!t_7.2) with hc8 | hc8
              · have hj7 := cond_f hc8 hj7
                refine q_xg (v := (.bool two_13)) hF hS (ex_move rfl) (wanted_t hF rfl rfl rfl hc8) rfl fun a hF => ?_
                refine q_xg (v := (.bool (!two_13))) hF hS (ex_not rfl) (wanted_t hF rfl rfl rfl hc8) rfl fun a hF => ?_
                refine q_x (v := (.bool (!two_13))) hF hS (ex_pick_f rfl rfl hc8) rfl rfl fun a hF => ?_
                refine q_end (n_jn ?_)
                obtain rfl := someI hj7
                exact ⟨hF.sub ⟨rfl, rfl, rfl, rfl, rfl, trivial⟩, hS⟩
              · have hj7 := cond_t hc8 hj7
                refine q_skip hF (wanted_f hF rfl rfl rfl hc8 rfl) rfl fun a hF => ?_
                refine q_skip hF (wanted_f hF rfl rfl rfl hc8 rfl) rfl fun a hF => ?_
                refine q_x (v := (.bool true)) hF hS (ex_pick_t rfl rfl hc8) rfl rfl fun a hF => ?_
                refine q_end (n_jn ?_)
                obtain rfl := someI hj7
                exact ⟨hF.sub ⟨rfl, rfl, rfl, rfl, rfl, trivial⟩, hS⟩
            · rintro a w ⟨hF, hS⟩
              refine n_sq ?_
              rcases bcase (t_15) with hc9 | hc9
              · have hb4 := cond_f hc9 hb4
                refine q_cond_f hF rfl hc9 ?_
                refine q_skipc (n_sq ?_)
                refine q_seq ?_
                refine q_region ?_
                refine q_x (v := (.agg #[(.int .i64 y_14.Num), (.int .i64 y_14.Den)])) hF hS (ex_loadA (vs := [(.int .i64 y_14.Num), (.int .i64 y_14.Den)]) 0 0 Try.underlying24 rfl sz24 rfl rfl rfl rfl) rfl rfl fun a hF => ?_
                refine q_x (v := (.agg #[(.int .i64 p_delta.Num), (.int .i64 p_delta.Den)])) hF hS (ex_loadA (vs := [(.int .i64 p_delta.Num), (.int .i64 p_delta.Den)]) 1 0 Try.underlying24 rfl sz24 rfl rfl rfl rfl) rfl rfl fun a hF => ?_
                obtain ⟨t_16, ht_16, hb4⟩ := bindS hb4
                refine q_call (vs := [(.agg #[(.int .i64 y_14.Num), (.int .i64 y_14.Den)]), (.agg #[(.int .i64 p_delta.Num), (.int .i64 p_delta.Den)])]) hF hS Try.func131 (by kernel_rfl) rfl rfl rfl (c_spec_fCmp y_14 p_delta t_16 ht_16 _ m hS.vis) ?_
                rintro a w _ rfl hF hS
                refine q_x (v := (.bool (decide (t_16 ≤ 0)))) hF hS (ex_ibin rfl rfl rfl) rfl rfl fun a hF => ?_
                refine q_end (n_sq ?_)
                rcases bcase (decide (t_16 ≤ 0)) with hc10 | hc10
                · have hb4 := cond_f hc10 hb4
                  refine q_cond_f hF rfl hc10 ?_
                  refine q_skipc (n_ib (n_sq ?_))
                  refine q_region ?_
                  refine q_x (v := (.int .i64 k_6)) hF hS (ex_move rfl) rfl rfl fun a hF => ?_
                  refine q_x (v := (.int .i64 (w64 (k_6 + 1)))) hF hS (ex_ibin rfl rfl rfl) rfl rfl fun a hF => ?_
                  refine q_x (v := (.int .i64 (w64 (k_6 + 1)))) hF hS (ex_assign rfl) rfl rfl fun a hF => ?_
                  refine q_end ?_
                  obtain rfl := someI hb4
                  exact ⟨rfl, hF.sub ⟨rfl, rfl, rfl, trivial⟩, hS.mask [false, true, true]⟩
                · have hb4 := cond_t hc10 hb4
                  refine q_cond_t hF rfl hc10 ?_
                  refine q_seq ?_
                  refine q_region ?_
                  refine q_x (v := (.int .i64 k_6)) hF hS (ex_move rfl) rfl rfl fun a hF => ?_
                  refine q_x (v := (.int .i64 k_6)) hF hS (ex_assign rfl) rfl rfl fun a hF => ?_
                  refine q_x (v := (.bool true)) hF hS (ex_assign rfl) rfl rfl fun a hF => ?_
                  refine q_end (n_sq (q_ret (r_ib (r_sq ?_))))
                  obtain rfl := someI hb4
                  refine ⟨nofun, .inr fun ho => ?_⟩
                  subst ho
                  refine r_ib (r_sq ?_)
                  obtain rfl := someI hr
                  exact ret_of hF hS rfl (.tmp rfl (.tmp rfl .nil)) rfl
              · have hb4 := cond_t hc9 hb4
                refine q_cond_t hF rfl hc9 ?_
                refine q_seq ?_
                refine q_region ?_
                refine q_x (v := (.int .i64 0)) hF hS (ex_assign rfl) rfl rfl fun a hF => ?_
                refine q_x (v := (.bool false)) hF hS (ex_assign rfl) rfl rfl fun a hF => ?_
                refine q_end (n_sq (q_ret (r_sq (r_ib (r_sq ?_)))))
                obtain rfl := someI hb4
                refine ⟨nofun, .inr fun ho => ?_⟩
                subst ho
                refine r_ib (r_sq ?_)
                obtain rfl := someI hr
                exact ret_of hF hS rfl (.tmp rfl (.tmp rfl .nil)) rfl
      · rintro e a w ⟨rfl, rfl, hF, hS⟩
        refine x_ib (n_sq ?_)
        refine q_seq ?_
        refine q_region ?_
        refine q_x (v := (.int .i64 0)) hF hS (ex_assign rfl) rfl rfl fun a hF => ?_
        refine q_x (v := (.bool false)) hF hS (ex_assign rfl) rfl rfl fun a hF => ?_
        refine q_end (n_sq (q_ret ?_))
        obtain rfl := someI hr
        exact ret_of hF hS rfl (.tmp rfl (.tmp rfl .nil)) rfl
    · have hr := cond_t hc3 hr
      refine q_cond_t hF rfl hc3 ?_
      refine q_seq ?_
      refine q_region ?_
      refine q_x (v := (.int .i64 0)) hF hS (ex_assign rfl) rfl rfl fun a hF => ?_
      refine q_x (v := (.bool false)) hF hS (ex_assign rfl) rfl rfl fun a hF => ?_
      refine q_end (n_sq (q_ret (r_sq ?_)))
      obtain rfl := someI hr
      exact ret_of hF hS rfl (.tmp rfl (.tmp rfl .nil)) rfl

theorem c_impl_VarianceOf (p_a : impl_Frac) (r : impl_Frac × Bool) (hr : impl_VarianceOf p_a = some r) (w0 : World) (m : Mem) (hv : Vis m w0) :
    Ret Try.prog 51 [(.agg #[(.int .i64 p_a.Num), (.int .i64 p_a.Den)])] w0 (fun v _ => v = (.tuple #[(.agg #[(.int .i64 r.1.Num), (.int .i64 r.1.Den)]), (.bool r.2)])) := by
  unfold impl_VarianceOf at hr
  refine ret_start Try.func51 rfl 34 rfl rfl m hv fun a hF hS => ?_
  refine q_seq ?_
  refine q_region ?_
  refine q_box (cs := [(.int .i64 p_a.Num), (.int .i64 p_a.Den)]) hF hS rfl rfl rfl fun a w b1 hF hS => ?_
  refine q_alloc (cs := [(.int .i64 0), (.int .i64 0)]) hF hS rfl rfl rfl fun a w b2 hF hS => ?_
  refine q_x (v := (.bool false)) hF hS (ex_assign rfl) rfl rfl fun a hF => ?_
  refine q_end (n_sq ?_)
  refine q_seq ?_
  refine q_seq ?_
  refine q_region ?_
  refine q_x (v := (.agg #[(.int .i64 p_a.Num), (.int .i64 p_a.Den)])) hF hS (ex_loadA (vs := [(.int .i64 p_a.Num), (.int .i64 p_a.Den)]) 1 0 Try.underlying24 rfl sz24 rfl rfl rfl rfl) rfl rfl fun a hF => ?_
  obtain ⟨t_3, ht_3, hr⟩ := bindS hr
  refine q_call (vs := [(.agg #[(.int .i64 p_a.Num), (.int .i64 p_a.Den)])]) hF hS Try.func120 (by kernel_rfl) rfl rfl rfl (c_impl_isRatio p_a t_3 ht_3 _ m hS.vis) ?_
  rintro a w _ rfl hF hS
  refine q_x (v := (.bool (!t_3))) hF hS (ex_not rfl) rfl rfl fun a hF => ?_
  refine q_end (n_sq ?_)
  rcases bcase (!t_3) with hc1 | hc1
  · have hr := cond_f hc1 hr
    refine q_cond_f hF rfl hc1 ?_
    refine q_skipc (n_sq ?_)
    refine q_seq ?_
    refine q_region ?_
    refine q_x (v := (.agg #[(.int .i64 2), (.int .i64 1)])) hF hS (ex_build (cells := [(.int .i64 2), (.int .i64 1)]) rfl (by kernel_rfl)) rfl rfl fun a hF => ?_
    refine q_x (v := (.agg #[(.int .i64 p_a.Num), (.int .i64 p_a.Den)])) hF hS (ex_loadA (vs := [(.int .i64 p_a.Num), (.int .i64 p_a.Den)]) 1 0 Try.underlying24 rfl sz24 rfl rfl rfl rfl) rfl rfl fun a hF => ?_
    obtain ⟨t_4, ht_4, hr⟩ := bindS hr
    refine q_call (vs := [(.agg #[(.int .i64 2), (.int .i64 1)]), (.agg #[(.int .i64 p_a.Num), (.int .i64 p_a.Den)])]) hF hS Try.func103 (by kernel_rfl) rfl rfl rfl (c_impl_MulFrac (impl_Frac.mk 2 1) p_a t_4 ht_4 _ m hS.vis) ?_
    rintro a w _ rfl hF hS
    refine q_x (v := (.tuple #[(.agg #[(.int .i64 t_4.1.Num), (.int .i64 t_4.1.Den)]), (.bool t_4.2)])) hF hS (ex_move rfl) rfl rfl fun a hF => ?_
    refine q_x (v := (.agg #[(.int .i64 t_4.1.Num), (.int .i64 t_4.1.Den)])) hF hS (ex_extract rfl rfl) rfl rfl fun a hF => ?_
    refine q_x (v := (.bool t_4.2)) hF hS (ex_extract rfl rfl) rfl rfl fun a hF => ?_
    refine q_alloc (cs := [(.int .i64 0), (.int .i64 0)]) hF hS rfl rfl rfl fun a w b5 hF hS => ?_
    refine q_store (vs := [(.int .i64 t_4.1.Num), (.int .i64 t_4.1.Den)]) (cs' := [(.int .i64 t_4.1.Num), (.int .i64 t_4.1.Den)]) 0 0 hF hS sz24 rfl rfl rfl rfl rfl rfl rfl rfl fun a w hF hS => ?_
    refine q_x (v := (.bool t_4.2)) hF hS (ex_assign rfl) rfl rfl fun a hF => ?_
    refine q_end (n_sq ?_)
    refine q_seq ?_
    refine q_seq ?_
    refine q_region ?_
    refine q_x (v := (.bool t_4.2)) hF hS (ex_move rfl) rfl rfl fun a hF => ?_
    refine q_x (v := (.bool (!t_4.2))) hF hS (ex_not rfl) rfl rfl fun a hF => ?_
    refine q_end (n_sq ?_)
    rcases bcase (!t_4.2) with hc2 | hc2
    · have hr := cond_f hc2 hr
      refine q_cond_f hF rfl hc2 ?_
      refine q_skipc (n_sq ?_)
      refine q_seq ?_
      refine q_region ?_
      refine q_x (v := (.agg #[(.int .i64 p_a.Num), (.int .i64 p_a.Den)])) hF hS (ex_loadA (vs := [(.int .i64 p_a.Num), (.int .i64 p_a.Den)]) 2 0 Try.underlying24 rfl sz24 rfl rfl rfl rfl) rfl rfl fun a hF => ?_
      obtain ⟨t_6, ht_6, hr⟩ := bindS hr
      refine q_call (vs := [(.agg #[(.int .i64 p_a.Num), (.int .i64 p_a.Den)])]) hF hS Try.func132 (by kernel_rfl) rfl rfl rfl (c_impl_lessOne p_a t_6 ht_6 _ m hS.vis) ?_
      rintro a w _ rfl hF hS
      obtain ⟨t_7, ht_7, hr⟩ := bindS hr
      refine q_call (vs := [(.agg #[(.int .i64 t_6.Num), (.int .i64 t_6.Den)]), (.int .i64 2)]) hF hS Try.func102 (by kernel_rfl) rfl rfl rfl (c_impl_PowFrac t_6 2 t_7 ht_7 _ m hS.vis) ?_
      rintro a w _ rfl hF hS
      refine q_x (v := (.tuple #[(.agg #[(.int .i64 t_7.1.Num), (.int .i64 t_7.1.Den)]), (.bool t_7.2)])) hF hS (ex_move rfl) rfl rfl fun a hF => ?_
      refine q_x (v := (.agg #[(.int .i64 t_7.1.Num), (.int .i64 t_7.1.Den)])) hF hS (ex_extract rfl rfl) rfl rfl fun a hF => ?_
      refine q_x (v := (.bool t_7.2)) hF hS (ex_extract rfl rfl) rfl rfl fun a hF => ?_
      refine q_alloc (cs := [(.int .i64 0), (.int .i64 0)]) hF hS rfl rfl rfl fun a w b8 hF hS => ?_
      refine q_store (vs := [(.int .i64 t_7.1.Num), (.int .i64 t_7.1.Den)]) (cs' := [(.int .i64 t_7.1.Num), (.int .i64 t_7.1.Den)]) 0 0 hF hS sz24 rfl rfl rfl rfl rfl rfl rfl rfl fun a w hF hS => ?_
      refine q_x (v := (.bool t_7.2)) hF hS (ex_assign rfl) rfl rfl fun a hF => ?_
      refine q_end (n_sq ?_)
      refine q_seq ?_
      refine q_seq ?_
      refine q_region ?_
      refine q_x (v := (.bool t_7.2)) hF hS (ex_move rfl) rfl rfl fun a hF => ?_
      refine q_x (v := (.bool (!t_7.2))) hF hS (ex_not rfl) rfl rfl fun a hF => ?_
      refine q_end (n_sq ?_)
      rcases bcase (!t_7.2) with hc3 | hc3
      · have hr := cond_f hc3 hr
        refine q_cond_f hF rfl hc3 ?_
        refine q_skipc (n_sq ?_)
        refine q_seq ?_
        refine q_region ?_
        refine q_x (v := (.agg #[(.int .i64 t_4.1.Num), (.int .i64 t_4.1.Den)])) hF hS (ex_loadA (vs := [(.int .i64 t_4.1.Num), (.int .i64 t_4.1.Den)]) 1 0 Try.underlying24 rfl sz24 rfl rfl rfl rfl) rfl rfl fun a hF => ?_
        refine q_x (v := (.agg #[(.int .i64 t_7.1.Num), (.int .i64 t_7.1.Den)])) hF hS (ex_loadA (vs := [(.int .i64 t_7.1.Num), (.int .i64 t_7.1.Den)]) 0 0 Try.underlying24 rfl sz24 rfl rfl rfl rfl) rfl rfl fun a hF => ?_
        obtain ⟨t_9, ht_9, hr⟩ := bindS hr
        refine q_call (vs := [(.agg #[(.int .i64 t_4.1.Num), (.int .i64 t_4.1.Den)]), (.agg #[(.int .i64 t_7.1.Num), (.int .i64 t_7.1.Den)])]) hF hS Try.func80 (by kernel_rfl) rfl rfl rfl (c_impl_DivFrac t_4.1 t_7.1 t_9 ht_9 _ m hS.vis) ?_
        rintro a w _ rfl hF hS
        refine q_x (v := (.agg #[(.int .i64 t_9.1.Num), (.int .i64 t_9.1.Den)])) hF hS (ex_extract rfl rfl) rfl rfl fun a hF => ?_
        refine q_x (v := (.bool t_9.2)) hF hS (ex_extract rfl rfl) rfl rfl fun a hF => ?_
        refine q_store (vs := [(.int .i64 t_9.1.Num), (.int .i64 t_9.1.Den)]) (cs' := [(.int .i64 t_9.1.Num), (.int .i64 t_9.1.Den)]) 2 0 hF hS sz24 rfl rfl rfl rfl rfl rfl rfl rfl fun a w hF hS => ?_
        refine q_x (v := (.bool t_9.2)) hF hS (ex_assign rfl) rfl rfl fun a hF => ?_
        refine q_end (n_sq (q_ret ?_))
        obtain rfl := someI hr
        exact ret_of hF hS rfl (.cellA (us := [(.int .i64 t_9.1.Num), (.int .i64 t_9.1.Den)]) 2 0 Try.underlying24 rfl sz24 rfl rfl rfl rfl (.tmp rfl .nil)) rfl
      · have hr := cond_t hc3 hr
        refine q_cond_t hF rfl hc3 ?_
        refine q_seq ?_
        refine q_region ?_
        refine q_x (v := (.agg #[(.int .i64 0), (.int .i64 0)])) hF hS (ex_build (cells := [(.int .i64 0), (.int .i64 0)]) rfl (by kernel_rfl)) rfl rfl fun a hF => ?_
        refine q_store (vs := [(.int .i64 0), (.int .i64 0)]) (cs' := [(.int .i64 0), (.int .i64 0)]) 2 0 hF hS sz24 rfl rfl rfl rfl rfl rfl rfl rfl fun a w hF hS => ?_
        refine q_x (v := (.bool false)) hF hS (ex_assign rfl) rfl rfl fun a hF => ?_
        refine q_end (n_sq (q_ret (r_sq ?_)))
        obtain rfl := someI hr
        exact ret_of hF hS rfl (.cellA (us := [(.int .i64 0), (.int .i64 0)]) 2 0 Try.underlying24 rfl sz24 rfl rfl rfl rfl (.tmp rfl .nil)) rfl
    · have hr := cond_t hc2 hr
      refine q_cond_t hF rfl hc2 ?_
      refine q_seq ?_
      refine q_region ?_
      refine q_x (v := (.agg #[(.int .i64 0), (.int .i64 0)])) hF hS (ex_build (cells := [(.int .i64 0), (.int .i64 0)]) rfl (by kernel_rfl)) rfl rfl fun a hF => ?_
      refine q_store (vs := [(.int .i64 0), (.int .i64 0)]) (cs' := [(.int .i64 0), (.int .i64 0)]) 1 0 hF hS sz24 rfl rfl rfl rfl rfl rfl rfl rfl fun a w hF hS => ?_
      refine q_x (v := (.bool false)) hF hS (ex_assign rfl) rfl rfl fun a hF => ?_
      refine q_end (n_sq (q_ret (r_sq ?_)))
      obtain rfl := someI hr
      exact ret_of hF hS rfl (.cellA (us := [(.int .i64 0), (.int .i64 0)]) 1 0 Try.underlying24 rfl sz24 rfl rfl rfl rfl (.tmp rfl .nil)) rfl
  · have hr := cond_t hc1 hr
    refine q_cond_t hF rfl hc1 ?_
    refine q_seq ?_
    refine q_region ?_
    refine q_x (v := (.agg #[(.int .i64 0), (.int .i64 0)])) hF hS (ex_build (cells := [(.int .i64 0), (.int .i64 0)]) rfl (by kernel_rfl)) rfl rfl fun a hF => ?_
    refine q_store (vs := [(.int .i64 0), (.int .i64 0)]) (cs' := [(.int .i64 0), (.int .i64 0)]) 0 0 hF hS sz24 rfl rfl rfl rfl rfl rfl rfl rfl fun a w hF hS => ?_
    refine q_x (v := (.bool false)) hF hS (ex_assign rfl) rfl rfl fun a hF => ?_
    refine q_end (n_sq (q_ret (r_sq ?_)))
    obtain rfl := someI hr
    exact ret_of hF hS rfl (.cellA (us := [(.int .i64 0), (.int .i64 0)]) 0 0 Try.underlying24 rfl sz24 rfl rfl rfl rfl (.tmp rfl .nil)) rfl

end Go.Proofs.Ytdbgmkfniichdaa
