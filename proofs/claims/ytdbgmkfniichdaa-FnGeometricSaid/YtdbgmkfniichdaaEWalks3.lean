/- The walks of the functions: each returns what its plain function says. -/
import Derived.Test.YtdbgmkfniichdaaEWalks2
namespace Go.Proofs.Ytdbgmkfniichdaa
open Go.Gx Go.Gx.F Go.RowKit
set_option linter.all false
set_option maxRecDepth 10000


theorem c_spec_VarianceOf (p_a : impl_Frac) (r : impl_Frac × Bool) (hr : spec_VarianceOf p_a = some r) (w0 : World) (m : Mem) (hv : Vis m w0) :
    Ret Try.prog 52 [(.agg #[(.int .i64 p_a.Num), (.int .i64 p_a.Den)])] w0 (fun v _ => v = (.tuple #[(.agg #[(.int .i64 r.1.Num), (.int .i64 r.1.Den)]), (.bool r.2)])) := by
  unfold spec_VarianceOf at hr
  refine ret_start Try.func52 rfl 43 rfl rfl m hv fun a hF hS => ?_
  refine q_seq ?_
  refine q_region ?_
  refine q_box (cs := [(.int .i64 p_a.Num), (.int .i64 p_a.Den)]) hF hS rfl rfl rfl fun a w b1 hF hS => ?_
  refine q_alloc (cs := [(.int .i64 0), (.int .i64 0)]) hF hS rfl rfl rfl fun a w b2 hF hS => ?_
  refine q_x (v := (.bool false)) hF hS (ex_assign rfl) rfl rfl fun a hF => ?_
  refine q_end (n_sq ?_)
  refine q_seq ?_
  refine q_seq ?_
  refine q_region ?_
  refine q_x (v := (.agg #[(.int .i64 p_a.Num), (.int .i64 p_a.Den)])) hF hS (ex_loadA (vs := [(.int .i64 p_a.Num), (.int .i64 p_a.Den)]) 1 0 Try.underlying24 rfl sz24 rfl rfl rfl rfl) rfl rfl fun a hF => ?_
  obtain ⟨t_3, ht_3, hr⟩ := bindS hr
  refine q_call (vs := [(.agg #[(.int .i64 p_a.Num), (.int .i64 p_a.Den)])]) hF hS Try.func123 (by kernel_rfl) rfl rfl rfl (c_spec_zRatio p_a t_3 ht_3 _ m hS.vis) ?_
  rintro a w _ rfl hF hS
  refine q_x (v := (.bool (!t_3))) hF hS (ex_not rfl) rfl rfl fun a hF => ?_
  refine q_end (n_sq ?_)
  rcases bcase (!t_3) with hc1 | hc1
  · have hr := cond_f hc1 hr
    refine q_cond_f hF rfl hc1 ?_
    refine q_skipc (n_sq ?_)
    refine q_seq ?_
    obtain ⟨j2, hj2, hr⟩ := bindS hr
    refine q_join (fun a w => ∃ b7, ∃ one_8, ∃ x_9, j2 = (one_8, x_9) ∧ Fr a 43 [(1, (.pointer (some ⟨b1, 0, none⟩))), (2, (.pointer (some ⟨b2, 0, none⟩))), (4, (.pointer (some ⟨b7, 0, none⟩))), (5, (.bool one_8))] ∧ St [] w0 w m [[⟨b7, [(.int .i64 x_9.Num), (.int .i64 x_9.Den)], 24⟩], [⟨b2, [(.int .i64 0), (.int .i64 0)], 24⟩], [⟨b1, [(.int .i64 p_a.Num), (.int .i64 p_a.Den)], 24⟩]]) ?_ ?_
    · refine e_region [7] mixed fun w' hw' => ?_
      have hS := hS.below hw'
      refine e_x (v := (.agg #[(.int .i64 p_a.Num), (.int .i64 p_a.Den)])) 0 hF hS rfl (ex_loadA (vs := [(.int .i64 p_a.Num), (.int .i64 p_a.Den)]) 1 0 Try.underlying24 rfl sz24 rfl rfl rfl rfl) rfl rfl (by kernel_rfl) (by kernel_rfl) (by kernel_rfl) (by kernel_rfl) fun a hF => ?_
      obtain ⟨t_5, ht_5, hj2⟩ := bindS hj2
      obtain ⟨t_6, ht_6, hj2⟩ := bindS hj2
      refine e_all [1, 6] (by kernel_rfl) rfl ⟨?_, ?_, trivial⟩
      · refine e_call (vs := [(.int .i64 2)]) hF hS rfl Try.func107 (by kernel_rfl) rfl rfl rfl (c_spec_fInt 2 t_5 ht_5 _ m hS.vis) ?_
        rintro a w _ rfl hF hS
        refine e_all [2, 6] (by kernel_rfl) rfl ⟨?_, ?_, trivial⟩
        · refine e_call (vs := [(.agg #[(.int .i64 p_a.Num), (.int .i64 p_a.Den)]), (.agg #[(.int .i64 t_5.Num), (.int .i64 t_5.Den)])]) hF hS rfl Try.func106 (by kernel_rfl) rfl rfl rfl (c_spec_fMul p_a t_5 t_6 ht_6 _ m hS.vis) ?_
          rintro a w _ rfl hF hS
          refine e_p (v := (.tuple #[(.agg #[(.int .i64 t_6.1.Num), (.int .i64 t_6.1.Den)]), (.bool t_6.2)])) 3 hF rfl (ex_move rfl) rfl rfl (by kernel_rfl) (by kernel_rfl) (by kernel_rfl) fun a hF => ?_
          refine e_p (v := (.agg #[(.int .i64 t_6.1.Num), (.int .i64 t_6.1.Den)])) 4 hF rfl (ex_extract rfl rfl) rfl rfl (by kernel_rfl) (by kernel_rfl) (by kernel_rfl) fun a hF => ?_
          refine e_p (v := (.bool t_6.2)) 5 hF rfl (ex_extract rfl rfl) rfl rfl (by kernel_rfl) (by kernel_rfl) (by kernel_rfl) fun a hF => ?_
          refine e_one 6 (by kernel_rfl) ?_
          refine e_alloc (cs := [(.int .i64 0), (.int .i64 0)]) hF hS rfl rfl rfl rfl fun a w b7 hF hS => ?_
          refine e_one 7 (by kernel_rfl) ?_
          refine e_store (vs := [(.int .i64 t_6.1.Num), (.int .i64 t_6.1.Den)]) (cs' := [(.int .i64 t_6.1.Num), (.int .i64 t_6.1.Den)]) 0 0 hF hS rfl rfl sz24 rfl rfl rfl rfl rfl rfl rfl rfl fun a w hF hS => ?_
          refine e_p (v := (.bool t_6.2)) 8 hF rfl (ex_assign rfl) rfl rfl (by kernel_rfl) (by kernel_rfl) (by kernel_rfl) fun a hF => ?_
          refine e_end (by kernel_rfl) (n_jn ?_) _
          obtain rfl := someI hj2
          exact ⟨b7, _, _, rfl, hF.sub ⟨rfl, rfl, rfl, rfl, trivial⟩, hS⟩
        · refine e_alloc (cs := [(.int .i64 0), (.int .i64 0)]) hF hS rfl rfl rfl rfl fun a w b7 hF hS => ?_
          refine e_one 2 (by kernel_rfl) ?_
          refine e_call (vs := [(.agg #[(.int .i64 p_a.Num), (.int .i64 p_a.Den)]), (.agg #[(.int .i64 t_5.Num), (.int .i64 t_5.Den)])]) hF hS rfl Try.func106 (by kernel_rfl) rfl rfl rfl (c_spec_fMul p_a t_5 t_6 ht_6 _ m hS.vis) ?_
          rintro a w _ rfl hF hS
          refine e_p (v := (.tuple #[(.agg #[(.int .i64 t_6.1.Num), (.int .i64 t_6.1.Den)]), (.bool t_6.2)])) 3 hF rfl (ex_move rfl) rfl rfl (by kernel_rfl) (by kernel_rfl) (by kernel_rfl) fun a hF => ?_
          refine e_p (v := (.agg #[(.int .i64 t_6.1.Num), (.int .i64 t_6.1.Den)])) 4 hF rfl (ex_extract rfl rfl) rfl rfl (by kernel_rfl) (by kernel_rfl) (by kernel_rfl) fun a hF => ?_
          refine e_p (v := (.bool t_6.2)) 5 hF rfl (ex_extract rfl rfl) rfl rfl (by kernel_rfl) (by kernel_rfl) (by kernel_rfl) fun a hF => ?_
          refine e_one 7 (by kernel_rfl) ?_
          refine e_store (vs := [(.int .i64 t_6.1.Num), (.int .i64 t_6.1.Den)]) (cs' := [(.int .i64 t_6.1.Num), (.int .i64 t_6.1.Den)]) 0 0 hF hS rfl rfl sz24 rfl rfl rfl rfl rfl rfl rfl rfl fun a w hF hS => ?_
          refine e_p (v := (.bool t_6.2)) 8 hF rfl (ex_assign rfl) rfl rfl (by kernel_rfl) (by kernel_rfl) (by kernel_rfl) fun a hF => ?_
          refine e_end (by kernel_rfl) (n_jn ?_) _
          obtain rfl := someI hj2
          exact ⟨b7, _, _, rfl, hF.sub ⟨rfl, rfl, rfl, rfl, trivial⟩, hS⟩
      · refine e_alloc (cs := [(.int .i64 0), (.int .i64 0)]) hF hS rfl rfl rfl rfl fun a w b7 hF hS => ?_
        refine e_one 1 (by kernel_rfl) ?_
        refine e_call (vs := [(.int .i64 2)]) hF hS rfl Try.func107 (by kernel_rfl) rfl rfl rfl (c_spec_fInt 2 t_5 ht_5 _ m hS.vis) ?_
        rintro a w _ rfl hF hS
        refine e_one 2 (by kernel_rfl) ?_
        refine e_call (vs := [(.agg #[(.int .i64 p_a.Num), (.int .i64 p_a.Den)]), (.agg #[(.int .i64 t_5.Num), (.int .i64 t_5.Den)])]) hF hS rfl Try.func106 (by kernel_rfl) rfl rfl rfl (c_spec_fMul p_a t_5 t_6 ht_6 _ m hS.vis) ?_
        rintro a w _ rfl hF hS
        refine e_p (v := (.tuple #[(.agg #[(.int .i64 t_6.1.Num), (.int .i64 t_6.1.Den)]), (.bool t_6.2)])) 3 hF rfl (ex_move rfl) rfl rfl (by kernel_rfl) (by kernel_rfl) (by kernel_rfl) fun a hF => ?_
        refine e_p (v := (.agg #[(.int .i64 t_6.1.Num), (.int .i64 t_6.1.Den)])) 4 hF rfl (ex_extract rfl rfl) rfl rfl (by kernel_rfl) (by kernel_rfl) (by kernel_rfl) fun a hF => ?_
        refine e_p (v := (.bool t_6.2)) 5 hF rfl (ex_extract rfl rfl) rfl rfl (by kernel_rfl) (by kernel_rfl) (by kernel_rfl) fun a hF => ?_
        refine e_one 7 (by kernel_rfl) ?_
        refine e_store (vs := [(.int .i64 t_6.1.Num), (.int .i64 t_6.1.Den)]) (cs' := [(.int .i64 t_6.1.Num), (.int .i64 t_6.1.Den)]) 0 0 hF hS rfl rfl sz24 rfl rfl rfl rfl rfl rfl rfl rfl fun a w hF hS => ?_
        refine e_p (v := (.bool t_6.2)) 8 hF rfl (ex_assign rfl) rfl rfl (by kernel_rfl) (by kernel_rfl) (by kernel_rfl) fun a hF => ?_
        refine e_end (by kernel_rfl) (n_jn ?_) _
        obtain rfl := someI hj2
        exact ⟨b7, _, _, rfl, hF.sub ⟨rfl, rfl, rfl, rfl, trivial⟩, hS⟩
    · rintro a w ⟨b7, one_8, x_9, rfl, hF, hS⟩
      refine n_sq ?_
      refine q_seq ?_
      obtain ⟨d_15, hj3, hr⟩ := bindS hr
      refine q_join (fun a w => ∃ b14, Fr a 43 [(2, (.pointer (some ⟨b2, 0, none⟩))), (4, (.pointer (some ⟨b7, 0, none⟩))), (5, (.bool one_8)), (6, (.pointer (some ⟨b14, 0, none⟩)))] ∧ St [] w0 w m [[⟨b14, [(.int .i64 d_15.Num), (.int .i64 d_15.Den)], 24⟩], [⟨b7, [(.int .i64 x_9.Num), (.int .i64 x_9.Den)], 24⟩], [⟨b2, [(.int .i64 0), (.int .i64 0)], 24⟩]]) ?_ ?_
      · refine e_region [7] mixed fun w' hw' => ?_
        have hS := hS.below hw'
        refine e_x (v := (.agg #[(.int .i64 p_a.Num), (.int .i64 p_a.Den)])) 1 hF hS rfl (ex_loadA (vs := [(.int .i64 p_a.Num), (.int .i64 p_a.Den)]) 2 0 Try.underlying24 rfl sz24 rfl rfl rfl rfl) rfl rfl (by kernel_rfl) (by kernel_rfl) (by kernel_rfl) (by kernel_rfl) fun a hF => ?_
        obtain ⟨t_12, ht_12, hj3⟩ := bindS hj3
        obtain ⟨t_13, ht_13, hj3⟩ := bindS hj3
        refine e_all [0, 6] (by kernel_rfl) rfl ⟨?_, ?_, trivial⟩
        · refine e_call (vs := [(.int .i64 1)]) hF hS rfl Try.func107 (by kernel_rfl) rfl rfl rfl (c_spec_fInt 1 t_12 ht_12 _ m hS.vis) ?_
          rintro a w _ rfl hF hS
          refine e_all [2, 6] (by kernel_rfl) rfl ⟨?_, ?_, trivial⟩
          · refine e_call (vs := [(.agg #[(.int .i64 t_12.Num), (.int .i64 t_12.Den)]), (.agg #[(.int .i64 p_a.Num), (.int .i64 p_a.Den)])]) hF hS rfl Try.func85 (by kernel_rfl) rfl rfl rfl (c_spec_fSub t_12 p_a t_13 ht_13 _ m hS.vis) ?_
            rintro a w _ rfl hF hS
            refine e_p (v := (.tuple #[(.agg #[(.int .i64 t_13.1.Num), (.int .i64 t_13.1.Den)]), (.bool t_13.2)])) 3 hF rfl (ex_move rfl) rfl rfl (by kernel_rfl) (by kernel_rfl) (by kernel_rfl) fun a hF => ?_
            refine e_p (v := (.agg #[(.int .i64 t_13.1.Num), (.int .i64 t_13.1.Den)])) 4 hF rfl (ex_extract rfl rfl) rfl rfl (by kernel_rfl) (by kernel_rfl) (by kernel_rfl) fun a hF => ?_
            refine e_p (v := (.bool t_13.2)) 5 hF rfl (ex_extract rfl rfl) rfl rfl (by kernel_rfl) (by kernel_rfl) (by kernel_rfl) fun a hF => ?_
            refine e_one 6 (by kernel_rfl) ?_
            refine e_alloc (cs := [(.int .i64 0), (.int .i64 0)]) hF hS rfl rfl rfl rfl fun a w b14 hF hS => ?_
            refine e_one 7 (by kernel_rfl) ?_
            refine e_store (vs := [(.int .i64 t_13.1.Num), (.int .i64 t_13.1.Den)]) (cs' := [(.int .i64 t_13.1.Num), (.int .i64 t_13.1.Den)]) 0 0 hF hS rfl rfl sz24 rfl rfl rfl rfl rfl rfl rfl rfl fun a w hF hS => ?_
            refine e_p (v := (.bool t_13.2)) 8 hF rfl (ex_assign rfl) rfl rfl (by kernel_rfl) (by kernel_rfl) (by kernel_rfl) fun a hF => ?_
            refine e_end (by kernel_rfl) (n_jn ?_) _
            obtain rfl := someI hj3
            exact ⟨b14, hF.sub ⟨rfl, rfl, rfl, rfl, trivial⟩, hS.mask [true, true, true, false]⟩
          · refine e_alloc (cs := [(.int .i64 0), (.int .i64 0)]) hF hS rfl rfl rfl rfl fun a w b14 hF hS => ?_
            refine e_one 2 (by kernel_rfl) ?_
            refine e_call (vs := [(.agg #[(.int .i64 t_12.Num), (.int .i64 t_12.Den)]), (.agg #[(.int .i64 p_a.Num), (.int .i64 p_a.Den)])]) hF hS rfl Try.func85 (by kernel_rfl) rfl rfl rfl (c_spec_fSub t_12 p_a t_13 ht_13 _ m hS.vis) ?_
            rintro a w _ rfl hF hS
            refine e_p (v := (.tuple #[(.agg #[(.int .i64 t_13.1.Num), (.int .i64 t_13.1.Den)]), (.bool t_13.2)])) 3 hF rfl (ex_move rfl) rfl rfl (by kernel_rfl) (by kernel_rfl) (by kernel_rfl) fun a hF => ?_
            refine e_p (v := (.agg #[(.int .i64 t_13.1.Num), (.int .i64 t_13.1.Den)])) 4 hF rfl (ex_extract rfl rfl) rfl rfl (by kernel_rfl) (by kernel_rfl) (by kernel_rfl) fun a hF => ?_
            refine e_p (v := (.bool t_13.2)) 5 hF rfl (ex_extract rfl rfl) rfl rfl (by kernel_rfl) (by kernel_rfl) (by kernel_rfl) fun a hF => ?_
            refine e_one 7 (by kernel_rfl) ?_
            refine e_store (vs := [(.int .i64 t_13.1.Num), (.int .i64 t_13.1.Den)]) (cs' := [(.int .i64 t_13.1.Num), (.int .i64 t_13.1.Den)]) 0 0 hF hS rfl rfl sz24 rfl rfl rfl rfl rfl rfl rfl rfl fun a w hF hS => ?_
            refine e_p (v := (.bool t_13.2)) 8 hF rfl (ex_assign rfl) rfl rfl (by kernel_rfl) (by kernel_rfl) (by kernel_rfl) fun a hF => ?_
            refine e_end (by kernel_rfl) (n_jn ?_) _
            obtain rfl := someI hj3
            exact ⟨b14, hF.sub ⟨rfl, rfl, rfl, rfl, trivial⟩, hS.mask [true, true, true, false]⟩
        · refine e_alloc (cs := [(.int .i64 0), (.int .i64 0)]) hF hS rfl rfl rfl rfl fun a w b14 hF hS => ?_
          refine e_one 0 (by kernel_rfl) ?_
          refine e_call (vs := [(.int .i64 1)]) hF hS rfl Try.func107 (by kernel_rfl) rfl rfl rfl (c_spec_fInt 1 t_12 ht_12 _ m hS.vis) ?_
          rintro a w _ rfl hF hS
          refine e_one 2 (by kernel_rfl) ?_
          refine e_call (vs := [(.agg #[(.int .i64 t_12.Num), (.int .i64 t_12.Den)]), (.agg #[(.int .i64 p_a.Num), (.int .i64 p_a.Den)])]) hF hS rfl Try.func85 (by kernel_rfl) rfl rfl rfl (c_spec_fSub t_12 p_a t_13 ht_13 _ m hS.vis) ?_
          rintro a w _ rfl hF hS
          refine e_p (v := (.tuple #[(.agg #[(.int .i64 t_13.1.Num), (.int .i64 t_13.1.Den)]), (.bool t_13.2)])) 3 hF rfl (ex_move rfl) rfl rfl (by kernel_rfl) (by kernel_rfl) (by kernel_rfl) fun a hF => ?_
          refine e_p (v := (.agg #[(.int .i64 t_13.1.Num), (.int .i64 t_13.1.Den)])) 4 hF rfl (ex_extract rfl rfl) rfl rfl (by kernel_rfl) (by kernel_rfl) (by kernel_rfl) fun a hF => ?_
          refine e_p (v := (.bool t_13.2)) 5 hF rfl (ex_extract rfl rfl) rfl rfl (by kernel_rfl) (by kernel_rfl) (by kernel_rfl) fun a hF => ?_
          refine e_one 7 (by kernel_rfl) ?_
          refine e_store (vs := [(.int .i64 t_13.1.Num), (.int .i64 t_13.1.Den)]) (cs' := [(.int .i64 t_13.1.Num), (.int .i64 t_13.1.Den)]) 0 0 hF hS rfl rfl sz24 rfl rfl rfl rfl rfl rfl rfl rfl fun a w hF hS => ?_
          refine e_p (v := (.bool t_13.2)) 8 hF rfl (ex_assign rfl) rfl rfl (by kernel_rfl) (by kernel_rfl) (by kernel_rfl) fun a hF => ?_
          refine e_end (by kernel_rfl) (n_jn ?_) _
          obtain rfl := someI hj3
          exact ⟨b14, hF.sub ⟨rfl, rfl, rfl, rfl, trivial⟩, hS.mask [true, true, true, false]⟩
      · rintro a w ⟨b14, hF, hS⟩
        refine n_sq ?_
        refine q_seq ?_
        refine q_region ?_
        refine q_x (v := (.agg #[(.int .i64 d_15.Num), (.int .i64 d_15.Den)])) hF hS (ex_loadA (vs := [(.int .i64 d_15.Num), (.int .i64 d_15.Den)]) 0 0 Try.underlying24 rfl sz24 rfl rfl rfl rfl) rfl rfl fun a hF => ?_
        obtain ⟨t_16, ht_16, hr⟩ := bindS hr
        refine q_call (vs := [(.agg #[(.int .i64 d_15.Num), (.int .i64 d_15.Den)]), (.int .i64 2)]) hF hS Try.func105 (by kernel_rfl) rfl rfl rfl (c_spec_fPow d_15 2 t_16 ht_16 _ m hS.vis) ?_
        rintro a w _ rfl hF hS
        refine q_x (v := (.tuple #[(.agg #[(.int .i64 t_16.1.Num), (.int .i64 t_16.1.Den)]), (.bool t_16.2)])) hF hS (ex_move rfl) rfl rfl fun a hF => ?_
        refine q_x (v := (.agg #[(.int .i64 t_16.1.Num), (.int .i64 t_16.1.Den)])) hF hS (ex_extract rfl rfl) rfl rfl fun a hF => ?_
        refine q_x (v := (.bool t_16.2)) hF hS (ex_extract rfl rfl) rfl rfl fun a hF => ?_
        refine q_alloc (cs := [(.int .i64 0), (.int .i64 0)]) hF hS rfl rfl rfl fun a w b17 hF hS => ?_
        refine q_store (vs := [(.int .i64 t_16.1.Num), (.int .i64 t_16.1.Den)]) (cs' := [(.int .i64 t_16.1.Num), (.int .i64 t_16.1.Den)]) 0 0 hF hS sz24 rfl rfl rfl rfl rfl rfl rfl rfl fun a w hF hS => ?_
        refine q_x (v := (.bool t_16.2)) hF hS (ex_assign rfl) rfl rfl fun a hF => ?_
        refine q_end (n_sq ?_)
        refine q_seq ?_
        refine q_seq ?_
        obtain ⟨t_18, hj4, hr⟩ := bindS hr
        refine q_join (fun a w => Fr a 43 [(2, (.pointer (some ⟨b2, 0, none⟩))), (4, (.pointer (some ⟨b7, 0, none⟩))), (8, (.pointer (some ⟨b17, 0, none⟩))), (36, (.bool t_18))] ∧ St [] w0 w m [[⟨b17, [(.int .i64 t_16.1.Num), (.int .i64 t_16.1.Den)], 24⟩], [⟨b7, [(.int .i64 x_9.Num), (.int .i64 x_9.Den)], 24⟩], [⟨b2, [(.int .i64 0), (.int .i64 0)], 24⟩]]) ?_ ?_
        · refine q_region ?_
          refine q_x (v := (.bool one_8)) hF hS (ex_move rfl) rfl rfl fun a hF => ?_
          refine q_x (v := (.bool (!one_8))) hF hS (ex_not rfl) rfl rfl fun a hF => ?_
          refine q_x (v := (.bool (!one_8))) hF hS (ex_move rfl) rfl rfl fun a hF => ?_
          rcases bcase (!one_8) with hc5 | hc5
          · have hj4 := cond_f hc5 hj4
            refine q_xg (v := (.bool t_16.2)) hF hS (ex_move rfl) (wanted_t hF rfl rfl rfl hc5) rfl fun a hF => ?_
            refine q_xg (v := (.bool (!t_16.2))) hF hS (ex_not rfl) (wanted_t hF rfl rfl rfl hc5) rfl fun a hF => ?_
            refine q_x (v := (.bool (!t_16.2))) hF hS (ex_pick_f rfl rfl hc5) rfl rfl fun a hF => ?_
            refine q_end (n_jn ?_)
            obtain rfl := someI hj4
            exact ⟨hF.sub ⟨rfl, rfl, rfl, rfl, trivial⟩, hS.mask [true, false, true, true]⟩
          · have hj4 := cond_t hc5 hj4
            refine q_skip hF (wanted_f hF rfl rfl rfl hc5 rfl) rfl fun a hF => ?_
            refine q_skip hF (wanted_f hF rfl rfl rfl hc5 rfl) rfl fun a hF => ?_
            refine q_x (v := (.bool true)) hF hS (ex_pick_t rfl rfl hc5) rfl rfl fun a hF => ?_
            refine q_end (n_jn ?_)
            obtain rfl := someI hj4
            exact ⟨hF.sub ⟨rfl, rfl, rfl, rfl, trivial⟩, hS.mask [true, false, true, true]⟩
        · rintro a w ⟨hF, hS⟩
          refine n_sq ?_
          rcases bcase (t_18) with hc6 | hc6
          · have hr := cond_f hc6 hr
            refine q_cond_f hF rfl hc6 ?_
            refine q_skipc (n_sq ?_)
            refine q_seq ?_
            refine q_region ?_
            refine q_x (v := (.agg #[(.int .i64 x_9.Num), (.int .i64 x_9.Den)])) hF hS (ex_loadA (vs := [(.int .i64 x_9.Num), (.int .i64 x_9.Den)]) 1 0 Try.underlying24 rfl sz24 rfl rfl rfl rfl) rfl rfl fun a hF => ?_
            refine q_x (v := (.agg #[(.int .i64 t_16.1.Num), (.int .i64 t_16.1.Den)])) hF hS (ex_loadA (vs := [(.int .i64 t_16.1.Num), (.int .i64 t_16.1.Den)]) 0 0 Try.underlying24 rfl sz24 rfl rfl rfl rfl) rfl rfl fun a hF => ?_
            obtain ⟨t_19, ht_19, hr⟩ := bindS hr
            refine q_call (vs := [(.agg #[(.int .i64 x_9.Num), (.int .i64 x_9.Den)]), (.agg #[(.int .i64 t_16.1.Num), (.int .i64 t_16.1.Den)])]) hF hS Try.func84 (by kernel_rfl) rfl rfl rfl (c_spec_fDiv x_9 t_16.1 t_19 ht_19 _ m hS.vis) ?_
            rintro a w _ rfl hF hS
            refine q_x (v := (.agg #[(.int .i64 t_19.1.Num), (.int .i64 t_19.1.Den)])) hF hS (ex_extract rfl rfl) rfl rfl fun a hF => ?_
            refine q_x (v := (.bool t_19.2)) hF hS (ex_extract rfl rfl) rfl rfl fun a hF => ?_
            refine q_store (vs := [(.int .i64 t_19.1.Num), (.int .i64 t_19.1.Den)]) (cs' := [(.int .i64 t_19.1.Num), (.int .i64 t_19.1.Den)]) 2 0 hF hS sz24 rfl rfl rfl rfl rfl rfl rfl rfl fun a w hF hS => ?_
            refine q_x (v := (.bool t_19.2)) hF hS (ex_assign rfl) rfl rfl fun a hF => ?_
            refine q_end (n_sq (q_ret ?_))
            obtain rfl := someI hr
            exact ret_of hF hS rfl (.cellA (us := [(.int .i64 t_19.1.Num), (.int .i64 t_19.1.Den)]) 2 0 Try.underlying24 rfl sz24 rfl rfl rfl rfl (.tmp rfl .nil)) rfl
          · have hr := cond_t hc6 hr
            refine q_cond_t hF rfl hc6 ?_
            refine q_seq ?_
            refine q_region ?_
            refine q_x (v := (.agg #[(.int .i64 0), (.int .i64 0)])) hF hS (ex_build (cells := [(.int .i64 0), (.int .i64 0)]) rfl (by kernel_rfl)) rfl rfl fun a hF => ?_
            refine q_store (vs := [(.int .i64 0), (.int .i64 0)]) (cs' := [(.int .i64 0), (.int .i64 0)]) 2 0 hF hS sz24 rfl rfl rfl rfl rfl rfl rfl rfl fun a w hF hS => ?_
            refine q_x (v := (.bool false)) hF hS (ex_assign rfl) rfl rfl fun a hF => ?_
            refine q_end (n_sq (q_ret (r_sq ?_)))
            obtain rfl := someI hr
            exact ret_of hF hS rfl (.cellA (us := [(.int .i64 0), (.int .i64 0)]) 2 0 Try.underlying24 rfl sz24 rfl rfl rfl rfl (.tmp rfl .nil)) rfl
  · have hr := cond_t hc1 hr
    refine q_cond_t hF rfl hc1 ?_
    refine q_seq ?_
    refine q_region ?_
    refine q_x (v := (.agg #[(.int .i64 0), (.int .i64 0)])) hF hS (ex_build (cells := [(.int .i64 0), (.int .i64 0)]) rfl (by kernel_rfl)) rfl rfl fun a hF => ?_
    refine q_store (vs := [(.int .i64 0), (.int .i64 0)]) (cs' := [(.int .i64 0), (.int .i64 0)]) 0 0 hF hS sz24 rfl rfl rfl rfl rfl rfl rfl rfl fun a w hF hS => ?_
    refine q_x (v := (.bool false)) hF hS (ex_assign rfl) rfl rfl fun a hF => ?_
    refine q_end (n_sq (q_ret (r_sq ?_)))
    obtain rfl := someI hr
    exact ret_of hF hS rfl (.cellA (us := [(.int .i64 0), (.int .i64 0)]) 0 0 Try.underlying24 rfl sz24 rfl rfl rfl rfl (.tmp rfl .nil)) rfl

theorem c_laws_FnGeometric (p_code : List (K .u8)) (p_more : List (K .u8)) (r : Bool) (hr : laws_FnGeometric p_code p_more = some r) (w0 : World) (m : Mem) (hv : Vis m w0) (s1 : Sl) (h1 : Rd m s1 p_code) (s2 : Sl) (h2 : Rd m s2 p_more) :
    Ret Try.prog 6 [s1.v, s2.v] w0 (fun v _ => v = (.bool r)) := by
  unfold laws_FnGeometric at hr
  refine ret_start Try.func6 rfl 199 rfl rfl m hv fun a hF hS => ?_
  refine q_seq ?_
  refine q_region ?_
  refine q_x (v := (.bool false)) hF hS (ex_assign rfl) rfl rfl fun a hF => ?_
  refine q_end (n_sq ?_)
  refine q_seq ?_
  refine q_seq ?_
  refine q_region ?_
  refine q_x (v := s1.v) hF hS (ex_move rfl) rfl rfl fun a hF => ?_
  refine q_x (v := s2.v) hF hS (ex_move rfl) rfl rfl fun a hF => ?_
  obtain ⟨t_3, ht_3, hr⟩ := bindS hr
  refine q_call (vs := [s1.v, s2.v]) hF hS Try.func37 (by kernel_rfl) rfl rfl rfl (c_laws_big p_code p_more t_3 ht_3 _ m hS.vis s1 h1 s2 h2) ?_
  rintro a w _ rfl hF hS
  refine q_end (n_sq ?_)
  rcases bcase (t_3) with hc1 | hc1
  · have hr := cond_f hc1 hr
    refine q_cond_f hF rfl hc1 ?_
    refine q_skipc (n_sq ?_)
    refine q_seq ?_
    refine q_region ?_
    refine q_x (v := s1.v) hF hS (ex_move rfl) rfl rfl fun a hF => ?_
    obtain ⟨t_4, ht_4, hr⟩ := bindS hr
    refine q_call (vs := [s1.v]) hF hS Try.func38 (by kernel_rfl) rfl rfl rfl (c_spec_DrawClampedMasses p_code t_4 ht_4 _ m hS.vis s1 h1) ?_
    rintro a w _ rfl hF hS
    refine q_x (v := (.tuple #[(.agg #[(.int .i64 t_4.1.Num), (.int .i64 t_4.1.Den)]), (.int .i64 t_4.2.1), (.int .i64 t_4.2.2.1), (.int .i64 t_4.2.2.2)])) hF hS (ex_move rfl) rfl rfl fun a hF => ?_
    refine q_x (v := (.agg #[(.int .i64 t_4.1.Num), (.int .i64 t_4.1.Den)])) hF hS (ex_extract rfl rfl) rfl rfl fun a hF => ?_
    refine q_x (v := (.int .i64 t_4.2.1)) hF hS (ex_extract rfl rfl) rfl rfl fun a hF => ?_
    refine q_x (v := (.int .i64 t_4.2.2.1)) hF hS (ex_extract rfl rfl) rfl rfl fun a hF => ?_
    refine q_x (v := (.int .i64 t_4.2.2.2)) hF hS (ex_extract rfl rfl) rfl rfl fun a hF => ?_
    refine q_alloc (cs := [(.int .i64 0), (.int .i64 0)]) hF hS rfl rfl rfl fun a w b5 hF hS => ?_
    refine q_store (vs := [(.int .i64 t_4.1.Num), (.int .i64 t_4.1.Den)]) (cs' := [(.int .i64 t_4.1.Num), (.int .i64 t_4.1.Den)]) 0 0 hF hS sz24 rfl rfl rfl rfl rfl rfl rfl rfl fun a w hF hS => ?_
    refine q_x (v := (.int .i64 t_4.2.1)) hF hS (ex_assign rfl) rfl rfl fun a hF => ?_
    refine q_x (v := (.int .i64 t_4.2.2.1)) hF hS (ex_assign rfl) rfl rfl fun a hF => ?_
    refine q_x (v := (.int .i64 t_4.2.2.2)) hF hS (ex_assign rfl) rfl rfl fun a hF => ?_
    refine q_end (n_sq ?_)
    refine q_seq ?_
    refine q_region ?_
    refine q_x (v := (.agg #[(.int .i64 t_4.1.Num), (.int .i64 t_4.1.Den)])) hF hS (ex_loadA (vs := [(.int .i64 t_4.1.Num), (.int .i64 t_4.1.Den)]) 0 0 Try.underlying24 rfl sz24 rfl rfl rfl rfl) rfl rfl fun a hF => ?_
    refine q_x (v := (.int .i64 t_4.2.1)) hF hS (ex_move rfl) rfl rfl fun a hF => ?_
    refine q_x (v := (.int .i64 t_4.2.2.1)) hF hS (ex_move rfl) rfl rfl fun a hF => ?_
    refine q_x (v := (.int .i64 t_4.2.2.2)) hF hS (ex_move rfl) rfl rfl fun a hF => ?_
    obtain ⟨t_6, ht_6, hr⟩ := bindS hr
    refine q_call (vs := [(.agg #[(.int .i64 t_4.1.Num), (.int .i64 t_4.1.Den)]), (.int .i64 t_4.2.1), (.int .i64 t_4.2.2.1), (.int .i64 t_4.2.2.2)]) hF hS Try.func39 (by kernel_rfl) rfl rfl rfl (c_impl_ClampedMasses t_4.1 t_4.2.1 t_4.2.2.1 t_4.2.2.2 t_6 ht_6 _ m hS.vis) ?_
    rintro a w _ ⟨q8, s8, rfl, hR7, h8⟩ hF hS2
    have hS : St _ _ _ _ [q8, [⟨b5, [(.int .i64 t_4.1.Num), (.int .i64 t_4.1.Den)], 24⟩]] := hS.joinF hR7
    refine q_x (v := (.tuple #[s8.v, (.bool t_6.2)])) hF hS (ex_move rfl) rfl rfl fun a hF => ?_
    refine q_x (v := s8.v) hF hS (ex_extract rfl rfl) rfl rfl fun a hF => ?_
    refine q_x (v := (.bool t_6.2)) hF hS (ex_extract rfl rfl) rfl rfl fun a hF => ?_
    refine q_x (v := s8.v) hF hS (ex_assign rfl) rfl rfl fun a hF => ?_
    refine q_x (v := (.bool t_6.2)) hF hS (ex_assign rfl) rfl rfl fun a hF => ?_
    refine q_end (n_sq ?_)
    refine q_seq ?_
    refine q_region ?_
    refine q_x (v := (.agg #[(.int .i64 t_4.1.Num), (.int .i64 t_4.1.Den)])) hF hS (ex_loadA (vs := [(.int .i64 t_4.1.Num), (.int .i64 t_4.1.Den)]) 1 0 Try.underlying24 rfl sz24 rfl rfl rfl rfl) rfl rfl fun a hF => ?_
    refine q_x (v := (.int .i64 t_4.2.1)) hF hS (ex_move rfl) rfl rfl fun a hF => ?_
    refine q_x (v := (.int .i64 t_4.2.2.1)) hF hS (ex_move rfl) rfl rfl fun a hF => ?_
    refine q_x (v := (.int .i64 t_4.2.2.2)) hF hS (ex_move rfl) rfl rfl fun a hF => ?_
    obtain ⟨t_9, ht_9, hr⟩ := bindS hr
    refine q_call (vs := [(.agg #[(.int .i64 t_4.1.Num), (.int .i64 t_4.1.Den)]), (.int .i64 t_4.2.1), (.int .i64 t_4.2.2.1), (.int .i64 t_4.2.2.2)]) hF hS Try.func40 (by kernel_rfl) rfl rfl rfl (c_spec_ClampedMasses t_4.1 t_4.2.1 t_4.2.2.1 t_4.2.2.2 t_9 ht_9 _ m hS.vis) ?_
    rintro a w _ ⟨q11, s11, rfl, hR10, h11⟩ hF hS2
    have hS : St _ _ _ _ [q11, q8, [⟨b5, [(.int .i64 t_4.1.Num), (.int .i64 t_4.1.Den)], 24⟩]] := hS.joinF hR10
    refine q_x (v := (.tuple #[s11.v, (.bool t_9.2)])) hF hS (ex_move rfl) rfl rfl fun a hF => ?_
    refine q_x (v := s11.v) hF hS (ex_extract rfl rfl) rfl rfl fun a hF => ?_
    refine q_x (v := (.bool t_9.2)) hF hS (ex_extract rfl rfl) rfl rfl fun a hF => ?_
    refine q_x (v := s11.v) hF hS (ex_assign rfl) rfl rfl fun a hF => ?_
    refine q_x (v := (.bool t_9.2)) hF hS (ex_assign rfl) rfl rfl fun a hF => ?_
    refine q_end (n_sq ?_)
    refine q_seq ?_
    refine q_seq ?_
    obtain ⟨t_14, hj2, hr⟩ := bindS hr
    refine q_join (fun a w => Fr a 199 [(1, s2.v), (5, (.pointer (some ⟨b5, 0, none⟩))), (6, (.int .i64 t_4.2.1)), (7, (.int .i64 t_4.2.2.1)), (9, s8.v), (10, (.bool t_6.2)), (73, (.bool t_14))] ∧ St [] w0 w m [q8, [⟨b5, [(.int .i64 t_4.1.Num), (.int .i64 t_4.1.Den)], 24⟩]]) ?_ ?_
    · refine q_region ?_
      refine q_x (v := (.bool t_6.2)) hF hS (ex_move rfl) rfl rfl fun a hF => ?_
      refine q_x (v := (.bool t_9.2)) hF hS (ex_move rfl) rfl rfl fun a hF => ?_
      refine q_x (v := (.bool (t_6.2 != t_9.2))) hF hS (ex_bne Try.underlying4 rfl rfl) rfl rfl fun a hF => ?_
      refine q_x (v := (.bool (t_6.2 != t_9.2))) hF hS (ex_move rfl) rfl rfl fun a hF => ?_
      rcases bcase (t_6.2 != t_9.2) with hc3 | hc3
      · have hj2 := cond_f hc3 hj2
        refine q_xg (v := s8.v) hF hS (ex_move rfl) (wanted_t hF rfl rfl rfl hc3) rfl fun a hF => ?_
        refine q_xg (v := s11.v) hF hS (ex_move rfl) (wanted_t hF rfl rfl rfl hc3) rfl fun a hF => ?_
        obtain ⟨m13, hl13, hv13, hz13⟩ := hS.lend
        obtain ⟨t_12, ht_12, hj2⟩ := bindS hj2
        refine q_callg (vs := [s8.v, s11.v]) hF hS (wanted_t hF rfl rfl rfl hc3) Try.func41 (by kernel_rfl) rfl rfl rfl (c_laws_pSameFracs t_6.1 t_9.1 t_12 ht_12 _ m13 hv13 s8 (h8.froz hl13 (hz13 1 _ rfl)) s11 (h11.froz hl13 (hz13 0 _ rfl))) ?_
        rintro a w _ rfl hF hS
        refine q_xg (v := (.bool (!t_12))) hF hS (ex_not rfl) (wanted_t hF rfl rfl rfl hc3) rfl fun a hF => ?_
        refine q_x (v := (.bool (!t_12))) hF hS (ex_pick_f rfl rfl hc3) rfl rfl fun a hF => ?_
        refine q_end (n_jn ?_)
        obtain rfl := someI hj2
        exact ⟨hF.sub ⟨rfl, rfl, rfl, rfl, rfl, rfl, rfl, trivial⟩, hS.mask [false, true, true]⟩
      · have hj2 := cond_t hc3 hj2
        refine q_skip hF (wanted_f hF rfl rfl rfl hc3 rfl) rfl fun a hF => ?_
        refine q_skip hF (wanted_f hF rfl rfl rfl hc3 rfl) rfl fun a hF => ?_
        refine q_skip hF (wanted_f hF rfl rfl rfl hc3 rfl) rfl fun a hF => ?_
        refine q_skip hF (wanted_f hF rfl rfl rfl hc3 rfl) rfl fun a hF => ?_
        refine q_x (v := (.bool true)) hF hS (ex_pick_t rfl rfl hc3) rfl rfl fun a hF => ?_
        refine q_end (n_jn ?_)
        obtain rfl := someI hj2
        exact ⟨hF.sub ⟨rfl, rfl, rfl, rfl, rfl, rfl, rfl, trivial⟩, hS.mask [false, true, true]⟩
    · rintro a w ⟨hF, hS⟩
      refine n_sq ?_
      rcases bcase (t_14) with hc4 | hc4
      · have hr := cond_f hc4 hr
        refine q_cond_f hF rfl hc4 ?_
        refine q_skipc (n_sq ?_)
        refine q_seq ?_
        refine q_seq ?_
        refine q_region ?_
        refine q_x (v := (.bool t_6.2)) hF hS (ex_move rfl) rfl rfl fun a hF => ?_
        refine q_end (n_sq ?_)
        obtain ⟨j5, hj5, hr⟩ := bindS hr
        refine q_join (fun a w => j5 = .inl () ∧ Fr a 199 [(1, s2.v)] ∧ St [] w0 w m []) ?_ ?_
        · rcases bcase (t_6.2) with hc6 | hc6
          · have hj5 := cond_f hc6 hj5
            refine q_cond_f hF rfl hc6 ?_
            refine q_skipc (n_jn ?_)
            obtain rfl := someI hj5
            exact ⟨rfl, hF.sub ⟨rfl, trivial⟩, hS.mask [false, false]⟩
          · have hj5 := cond_t hc6 hj5
            refine q_cond_t hF rfl hc6 ?_
            refine q_seq ?_
            refine q_region ?_
            refine q_x (v := s8.v) hF hS (ex_move rfl) rfl rfl fun a hF => ?_
            obtain ⟨m16, hl16, hv16, hz16⟩ := hS.lend
            obtain ⟨t_15, ht_15, hj5⟩ := bindS hj5
            refine q_call (vs := [s8.v]) hF hS Try.func35 (by kernel_rfl) rfl rfl rfl (c_impl_SumFracs t_6.1 t_15 ht_15 _ m16 hv16 s8 (h8.froz hl16 (hz16 0 _ rfl))) ?_
            rintro a w _ rfl hF hS
            refine q_x (v := (.tuple #[(.agg #[(.int .i64 t_15.1.Num), (.int .i64 t_15.1.Den)]), (.bool t_15.2)])) hF hS (ex_move rfl) rfl rfl fun a hF => ?_
            refine q_x (v := (.agg #[(.int .i64 t_15.1.Num), (.int .i64 t_15.1.Den)])) hF hS (ex_extract rfl rfl) rfl rfl fun a hF => ?_
            refine q_x (v := (.bool t_15.2)) hF hS (ex_extract rfl rfl) rfl rfl fun a hF => ?_
            refine q_alloc (cs := [(.int .i64 0), (.int .i64 0)]) hF hS rfl rfl rfl fun a w b17 hF hS => ?_
            refine q_store (vs := [(.int .i64 t_15.1.Num), (.int .i64 t_15.1.Den)]) (cs' := [(.int .i64 t_15.1.Num), (.int .i64 t_15.1.Den)]) 0 0 hF hS sz24 rfl rfl rfl rfl rfl rfl rfl rfl fun a w hF hS => ?_
            refine q_x (v := (.bool t_15.2)) hF hS (ex_assign rfl) rfl rfl fun a hF => ?_
            refine q_end (n_sq ?_)
            refine q_seq ?_
            refine q_seq ?_
            obtain ⟨t_18, hj7, hj5⟩ := bindS hj5
            refine q_join (fun a w => Fr a 199 [(1, s2.v), (5, (.pointer (some ⟨b5, 0, none⟩))), (6, (.int .i64 t_4.2.1)), (7, (.int .i64 t_4.2.2.1)), (85, (.bool t_18))] ∧ St [] w0 w m [[⟨b5, [(.int .i64 t_4.1.Num), (.int .i64 t_4.1.Den)], 24⟩]]) ?_ ?_
            · refine q_region ?_
              refine q_x (v := (.bool t_15.2)) hF hS (ex_move rfl) rfl rfl fun a hF => ?_
              refine q_x (v := (.bool t_15.2)) hF hS (ex_move rfl) rfl rfl fun a hF => ?_
              rcases bcase (t_15.2) with hc8 | hc8
              · have hj7 := cond_f hc8 hj7
                refine q_skip hF (wanted_f hF rfl rfl rfl hc8 rfl) rfl fun a hF => ?_
                refine q_skip hF (wanted_f hF rfl rfl rfl hc8 rfl) rfl fun a hF => ?_
                refine q_skip hF (wanted_f hF rfl rfl rfl hc8 rfl) rfl fun a hF => ?_
                refine q_x (v := (.bool false)) hF hS (ex_pick_f rfl rfl hc8) rfl rfl fun a hF => ?_
                refine q_end (n_jn ?_)
                obtain rfl := someI hj7
                exact ⟨hF.sub ⟨rfl, rfl, rfl, rfl, rfl, trivial⟩, hS.mask [false, false, true]⟩
              · have hj7 := cond_t hc8 hj7
                refine q_xg (v := (.agg #[(.int .i64 t_15.1.Num), (.int .i64 t_15.1.Den)])) hF hS (ex_loadA (vs := [(.int .i64 t_15.1.Num), (.int .i64 t_15.1.Den)]) 0 0 Try.underlying24 rfl sz24 rfl rfl rfl rfl) (wanted_t hF rfl rfl rfl hc8) rfl fun a hF => ?_
                refine q_xg (v := (.agg #[(.int .i64 1), (.int .i64 1)])) hF hS (ex_build (cells := [(.int .i64 1), (.int .i64 1)]) rfl (by kernel_rfl)) (wanted_t hF rfl rfl rfl hc8) rfl fun a hF => ?_
                refine q_xg (v := (.bool (!((t_15.1.Num == 1) && ((t_15.1.Den == 1) && true))))) hF hS (ex_neA (xs := [(.int .i64 t_15.1.Num), (.int .i64 t_15.1.Den)]) (ys := [(.int .i64 1), (.int .i64 1)]) rfl rfl (by kernel_rfl) (eqv_struct (xs := [(.int .i64 t_15.1.Num), (.int .i64 t_15.1.Den)]) (ys := [(.int .i64 1), (.int .i64 1)]) Try.underlying24 (by kernel_rfl) (eqf_cons rfl (part_cell Try.underlying3 rfl rfl) (part_cell Try.underlying3 rfl rfl) (eqv_int Try.underlying3) (eqf_cons rfl (part_cell Try.underlying3 rfl rfl) (part_cell Try.underlying3 rfl rfl) (eqv_int Try.underlying3) (eqf_nil))))) (wanted_t hF rfl rfl rfl hc8) rfl fun a hF => ?_
                refine q_x (v := (.bool (!((t_15.1.Num == 1) && ((t_15.1.Den == 1) && true))))) hF hS (ex_pick_t rfl rfl hc8) rfl rfl fun a hF => ?_
                refine q_end (n_jn ?_)
                obtain rfl := someI hj7
                exact ⟨hF.sub ⟨rfl, rfl, rfl, rfl, rfl, trivial⟩, hS.mask [false, false, true]⟩
            · rintro a w ⟨hF, hS⟩
              refine n_sq ?_
              rcases bcase (t_18) with hc9 | hc9
              · have hj5 := cond_f hc9 hj5
                refine q_cond_f hF rfl hc9 ?_
                refine q_skipc (n_sq ?_)
                refine q_seq ?_
                refine q_region ?_
                refine q_x (v := (.agg #[(.int .i64 t_4.1.Num), (.int .i64 t_4.1.Den)])) hF hS (ex_loadA (vs := [(.int .i64 t_4.1.Num), (.int .i64 t_4.1.Den)]) 0 0 Try.underlying24 rfl sz24 rfl rfl rfl rfl) rfl rfl fun a hF => ?_
                refine q_x (v := (.int .i64 t_4.2.1)) hF hS (ex_move rfl) rfl rfl fun a hF => ?_
                refine q_x (v := (.int .i64 t_4.2.2.1)) hF hS (ex_move rfl) rfl rfl fun a hF => ?_
                obtain ⟨t_19, ht_19, hj5⟩ := bindS hj5
                refine q_call (vs := [(.agg #[(.int .i64 t_4.1.Num), (.int .i64 t_4.1.Den)]), (.int .i64 t_4.2.1), (.int .i64 t_4.2.2.1)]) hF hS Try.func42 (by kernel_rfl) rfl rfl rfl (c_impl_WorstRatio t_4.1 t_4.2.1 t_4.2.2.1 t_19 ht_19 _ m hS.vis) ?_
                rintro a w _ rfl hF hS
                refine q_x (v := (.tuple #[(.agg #[(.int .i64 t_19.1.Num), (.int .i64 t_19.1.Den)]), (.bool t_19.2)])) hF hS (ex_move rfl) rfl rfl fun a hF => ?_
                refine q_x (v := (.agg #[(.int .i64 t_19.1.Num), (.int .i64 t_19.1.Den)])) hF hS (ex_extract rfl rfl) rfl rfl fun a hF => ?_
                refine q_x (v := (.bool t_19.2)) hF hS (ex_extract rfl rfl) rfl rfl fun a hF => ?_
                refine q_alloc (cs := [(.int .i64 0), (.int .i64 0)]) hF hS rfl rfl rfl fun a w b20 hF hS => ?_
                refine q_store (vs := [(.int .i64 t_19.1.Num), (.int .i64 t_19.1.Den)]) (cs' := [(.int .i64 t_19.1.Num), (.int .i64 t_19.1.Den)]) 0 0 hF hS sz24 rfl rfl rfl rfl rfl rfl rfl rfl fun a w hF hS => ?_
                refine q_x (v := (.bool t_19.2)) hF hS (ex_assign rfl) rfl rfl fun a hF => ?_
                refine q_end (n_sq ?_)
                refine q_seq ?_
                refine q_region ?_
                refine q_x (v := (.agg #[(.int .i64 t_4.1.Num), (.int .i64 t_4.1.Den)])) hF hS (ex_loadA (vs := [(.int .i64 t_4.1.Num), (.int .i64 t_4.1.Den)]) 1 0 Try.underlying24 rfl sz24 rfl rfl rfl rfl) rfl rfl fun a hF => ?_
                obtain ⟨t_21, ht_21, hj5⟩ := bindS hj5
                refine q_call (vs := [(.agg #[(.int .i64 t_4.1.Num), (.int .i64 t_4.1.Den)]), (.int .i64 1)]) hF hS Try.func43 (by kernel_rfl) rfl rfl rfl (c_impl_GeoRatio t_4.1 1 t_21 ht_21 _ m hS.vis) ?_
                rintro a w _ rfl hF hS
                refine q_x (v := (.tuple #[(.agg #[(.int .i64 t_21.1.Num), (.int .i64 t_21.1.Den)]), (.bool t_21.2)])) hF hS (ex_move rfl) rfl rfl fun a hF => ?_
                refine q_x (v := (.agg #[(.int .i64 t_21.1.Num), (.int .i64 t_21.1.Den)])) hF hS (ex_extract rfl rfl) rfl rfl fun a hF => ?_
                refine q_x (v := (.bool t_21.2)) hF hS (ex_extract rfl rfl) rfl rfl fun a hF => ?_
                refine q_alloc (cs := [(.int .i64 0), (.int .i64 0)]) hF hS rfl rfl rfl fun a w b22 hF hS => ?_
                refine q_store (vs := [(.int .i64 t_21.1.Num), (.int .i64 t_21.1.Den)]) (cs' := [(.int .i64 t_21.1.Num), (.int .i64 t_21.1.Den)]) 0 0 hF hS sz24 rfl rfl rfl rfl rfl rfl rfl rfl fun a w hF hS => ?_
                refine q_x (v := (.bool t_21.2)) hF hS (ex_assign rfl) rfl rfl fun a hF => ?_
                refine q_end (n_sq ?_)
                refine q_seq ?_
                obtain ⟨t_23, hj10, hj5⟩ := bindS hj5
                refine q_join (fun a w => Fr a 199 [(1, s2.v), (15, (.pointer (some ⟨b20, 0, none⟩))), (17, (.pointer (some ⟨b22, 0, none⟩))), (101, (.bool t_23))] ∧ St [] w0 w m [[⟨b22, [(.int .i64 t_21.1.Num), (.int .i64 t_21.1.Den)], 24⟩], [⟨b20, [(.int .i64 t_19.1.Num), (.int .i64 t_19.1.Den)], 24⟩]]) ?_ ?_
                · refine q_region ?_
                  refine q_x (v := (.bool t_19.2)) hF hS (ex_move rfl) rfl rfl fun a hF => ?_
                  refine q_x (v := (.bool t_19.2)) hF hS (ex_move rfl) rfl rfl fun a hF => ?_
                  rcases bcase (t_19.2) with hc11 | hc11
                  · have hj10 := cond_f hc11 hj10
                    refine q_skip hF (wanted_f hF rfl rfl rfl hc11 rfl) rfl fun a hF => ?_
                    refine q_x (v := (.bool false)) hF hS (ex_pick_f rfl rfl hc11) rfl rfl fun a hF => ?_
                    refine q_end (n_jn ?_)
                    obtain rfl := someI hj10
                    exact ⟨hF.sub ⟨rfl, rfl, rfl, rfl, trivial⟩, hS.mask [true, true, false]⟩
                  · have hj10 := cond_t hc11 hj10
                    refine q_xg (v := (.bool t_21.2)) hF hS (ex_move rfl) (wanted_t hF rfl rfl rfl hc11) rfl fun a hF => ?_
                    refine q_x (v := (.bool t_21.2)) hF hS (ex_pick_t rfl rfl hc11) rfl rfl fun a hF => ?_
                    refine q_end (n_jn ?_)
                    obtain rfl := someI hj10
                    exact ⟨hF.sub ⟨rfl, rfl, rfl, rfl, trivial⟩, hS.mask [true, true, false]⟩
                · rintro a w ⟨hF, hS⟩
                  refine n_sq ?_
                  obtain ⟨j12, hj12, hj5⟩ := bindS hj5
                  refine q_join (fun a w => j12 = .inl () ∧ Fr a 199 [(1, s2.v)] ∧ St [] w0 w m []) ?_ ?_
                  · rcases bcase (t_23) with hc13 | hc13
                    · have hj12 := cond_f hc13 hj12
                      refine q_cond_f hF rfl hc13 ?_
                      refine q_skipc (n_jn ?_)
                      obtain rfl := someI hj12
                      exact ⟨rfl, hF.sub ⟨rfl, trivial⟩, hS.mask [false, false]⟩
                    · have hj12 := cond_t hc13 hj12
                      refine q_cond_t hF rfl hc13 ?_
                      refine q_seq ?_
                      refine q_region ?_
                      refine q_x (v := (.agg #[(.int .i64 t_19.1.Num), (.int .i64 t_19.1.Den)])) hF hS (ex_loadA (vs := [(.int .i64 t_19.1.Num), (.int .i64 t_19.1.Den)]) 1 0 Try.underlying24 rfl sz24 rfl rfl rfl rfl) rfl rfl fun a hF => ?_
                      refine q_x (v := (.agg #[(.int .i64 t_21.1.Num), (.int .i64 t_21.1.Den)])) hF hS (ex_loadA (vs := [(.int .i64 t_21.1.Num), (.int .i64 t_21.1.Den)]) 0 0 Try.underlying24 rfl sz24 rfl rfl rfl rfl) rfl rfl fun a hF => ?_
                      obtain ⟨t_24, ht_24, hj12⟩ := bindS hj12
                      refine q_call (vs := [(.agg #[(.int .i64 t_19.1.Num), (.int .i64 t_19.1.Den)]), (.agg #[(.int .i64 t_21.1.Num), (.int .i64 t_21.1.Den)])]) hF hS Try.func44 (by kernel_rfl) rfl rfl rfl (c_impl_CompareFrac t_19.1 t_21.1 t_24 ht_24 _ m hS.vis) ?_
                      rintro a w _ rfl hF hS
                      refine q_x (v := (.tuple #[(.int .i64 t_24.1), (.bool t_24.2)])) hF hS (ex_move rfl) rfl rfl fun a hF => ?_
                      refine q_x (v := (.int .i64 t_24.1)) hF hS (ex_extract rfl rfl) rfl rfl fun a hF => ?_
                      refine q_x (v := (.bool t_24.2)) hF hS (ex_extract rfl rfl) rfl rfl fun a hF => ?_
                      refine q_x (v := (.int .i64 t_24.1)) hF hS (ex_assign rfl) rfl rfl fun a hF => ?_
                      refine q_x (v := (.bool t_24.2)) hF hS (ex_assign rfl) rfl rfl fun a hF => ?_
                      refine q_end (n_sq ?_)
                      refine q_seq ?_
                      obtain ⟨t_25, hj14, hj12⟩ := bindS hj12
                      refine q_join (fun a w => Fr a 199 [(1, s2.v), (113, (.bool t_25))] ∧ St [] w0 w m []) ?_ ?_
                      · refine q_region ?_
                        refine q_x (v := (.bool t_24.2)) hF hS (ex_move rfl) rfl rfl fun a hF => ?_
                        refine q_x (v := (.bool (!t_24.2))) hF hS (ex_not rfl) rfl rfl fun a hF => ?_
                        refine q_x (v := (.bool (!t_24.2))) hF hS (ex_move rfl) rfl rfl fun a hF => ?_
                        rcases bcase (!t_24.2) with hc15 | hc15
                        · have hj14 := cond_f hc15 hj14
                          refine q_xg (v := (.int .i64 t_24.1)) hF hS (ex_move rfl) (wanted_t hF rfl rfl rfl hc15) rfl fun a hF => ?_
                          refine q_xg (v := (.bool (decide (0 < t_24.1)))) hF hS (ex_ibin rfl rfl rfl) (wanted_t hF rfl rfl rfl hc15) rfl fun a hF => ?_
                          refine q_x (v := (.bool (decide (0 < t_24.1)))) hF hS (ex_pick_f rfl rfl hc15) rfl rfl fun a hF => ?_
                          refine q_end (n_jn ?_)
                          obtain rfl := someI hj14
                          exact ⟨hF.sub ⟨rfl, rfl, trivial⟩, hS.mask [false, false]⟩
                        · have hj14 := cond_t hc15 hj14
                          refine q_skip hF (wanted_f hF rfl rfl rfl hc15 rfl) rfl fun a hF => ?_
                          refine q_skip hF (wanted_f hF rfl rfl rfl hc15 rfl) rfl fun a hF => ?_
                          refine q_x (v := (.bool true)) hF hS (ex_pick_t rfl rfl hc15) rfl rfl fun a hF => ?_
                          refine q_end (n_jn ?_)
                          obtain rfl := someI hj14
                          exact ⟨hF.sub ⟨rfl, rfl, trivial⟩, hS.mask [false, false]⟩
                      · rintro a w ⟨hF, hS⟩
                        refine n_sq ?_
                        rcases bcase (t_25) with hc16 | hc16
                        · have hj12 := cond_f hc16 hj12
                          refine q_cond_f hF rfl hc16 ?_
                          refine q_skipc (n_jn ?_)
                          obtain rfl := someI hj12
                          exact ⟨rfl, hF.sub ⟨rfl, trivial⟩, hS⟩
                        · have hj12 := cond_t hc16 hj12
                          refine q_cond_t hF rfl hc16 ?_
                          refine q_seq ?_
                          refine q_region ?_
                          refine q_x (v := (.bool false)) hF hS (ex_assign rfl) rfl rfl fun a hF => ?_
                          refine q_end (n_sq (q_ret (r_jn ?_)))
                          obtain rfl := someI hj12
                          refine r_jn ?_
                          obtain rfl := someI hj5
                          refine r_sq ?_
                          obtain rfl := someI hr
                          exact ret_of hF hS rfl (.tmp rfl .nil) rfl
                  · rintro a w ⟨rfl, hF, hS⟩
                    refine n_jn ?_
                    obtain rfl := someI hj5
                    exact ⟨rfl, hF.sub ⟨rfl, trivial⟩, hS⟩
              · have hj5 := cond_t hc9 hj5
                refine q_cond_t hF rfl hc9 ?_
                refine q_seq ?_
                refine q_region ?_
                refine q_x (v := (.bool false)) hF hS (ex_assign rfl) rfl rfl fun a hF => ?_
                refine q_end (n_sq (q_ret (r_sq (r_jn ?_))))
                obtain rfl := someI hj5
                refine r_sq ?_
                obtain rfl := someI hr
                exact ret_of hF hS rfl (.tmp rfl .nil) rfl
        · rintro a w ⟨rfl, hF, hS⟩
          refine n_sq ?_
          refine q_seq ?_
          refine q_region ?_
          refine q_x (v := s2.v) hF hS (ex_move rfl) rfl rfl fun a hF => ?_
          obtain ⟨t_26, ht_26, hr⟩ := bindS hr
          refine q_call (vs := [s2.v]) hF hS Try.func45 (by kernel_rfl) rfl rfl rfl (c_spec_DrawGeoMass p_more t_26 ht_26 _ m hS.vis s2 h2) ?_
          rintro a w _ rfl hF hS
          refine q_x (v := (.tuple #[(.agg #[(.int .i64 t_26.1.Num), (.int .i64 t_26.1.Den)]), (.int .i64 t_26.2)])) hF hS (ex_move rfl) rfl rfl fun a hF => ?_
          refine q_x (v := (.agg #[(.int .i64 t_26.1.Num), (.int .i64 t_26.1.Den)])) hF hS (ex_extract rfl rfl) rfl rfl fun a hF => ?_
          refine q_x (v := (.int .i64 t_26.2)) hF hS (ex_extract rfl rfl) rfl rfl fun a hF => ?_
          refine q_alloc (cs := [(.int .i64 0), (.int .i64 0)]) hF hS rfl rfl rfl fun a w b27 hF hS => ?_
          refine q_store (vs := [(.int .i64 t_26.1.Num), (.int .i64 t_26.1.Den)]) (cs' := [(.int .i64 t_26.1.Num), (.int .i64 t_26.1.Den)]) 0 0 hF hS sz24 rfl rfl rfl rfl rfl rfl rfl rfl fun a w hF hS => ?_
          refine q_x (v := (.int .i64 t_26.2)) hF hS (ex_assign rfl) rfl rfl fun a hF => ?_
          refine q_end (n_sq ?_)
          refine q_seq ?_
          refine q_region ?_
          refine q_x (v := (.agg #[(.int .i64 t_26.1.Num), (.int .i64 t_26.1.Den)])) hF hS (ex_loadA (vs := [(.int .i64 t_26.1.Num), (.int .i64 t_26.1.Den)]) 0 0 Try.underlying24 rfl sz24 rfl rfl rfl rfl) rfl rfl fun a hF => ?_
          refine q_x (v := (.int .i64 t_26.2)) hF hS (ex_move rfl) rfl rfl fun a hF => ?_
          obtain ⟨t_28, ht_28, hr⟩ := bindS hr
          refine q_call (vs := [(.agg #[(.int .i64 t_26.1.Num), (.int .i64 t_26.1.Den)]), (.int .i64 t_26.2)]) hF hS Try.func46 (by kernel_rfl) rfl rfl rfl (c_impl_GeoMass t_26.1 t_26.2 t_28 ht_28 _ m hS.vis) ?_
          rintro a w _ rfl hF hS
          refine q_x (v := (.tuple #[(.agg #[(.int .i64 t_28.1.Num), (.int .i64 t_28.1.Den)]), (.bool t_28.2)])) hF hS (ex_move rfl) rfl rfl fun a hF => ?_
          refine q_x (v := (.agg #[(.int .i64 t_28.1.Num), (.int .i64 t_28.1.Den)])) hF hS (ex_extract rfl rfl) rfl rfl fun a hF => ?_
          refine q_x (v := (.bool t_28.2)) hF hS (ex_extract rfl rfl) rfl rfl fun a hF => ?_
          refine q_alloc (cs := [(.int .i64 0), (.int .i64 0)]) hF hS rfl rfl rfl fun a w b29 hF hS => ?_
          refine q_store (vs := [(.int .i64 t_28.1.Num), (.int .i64 t_28.1.Den)]) (cs' := [(.int .i64 t_28.1.Num), (.int .i64 t_28.1.Den)]) 0 0 hF hS sz24 rfl rfl rfl rfl rfl rfl rfl rfl fun a w hF hS => ?_
          refine q_x (v := (.bool t_28.2)) hF hS (ex_assign rfl) rfl rfl fun a hF => ?_
          refine q_end (n_sq ?_)
          refine q_seq ?_
          refine q_region ?_
          refine q_x (v := (.agg #[(.int .i64 t_26.1.Num), (.int .i64 t_26.1.Den)])) hF hS (ex_loadA (vs := [(.int .i64 t_26.1.Num), (.int .i64 t_26.1.Den)]) 1 0 Try.underlying24 rfl sz24 rfl rfl rfl rfl) rfl rfl fun a hF => ?_
          refine q_x (v := (.int .i64 t_26.2)) hF hS (ex_move rfl) rfl rfl fun a hF => ?_
          obtain ⟨t_30, ht_30, hr⟩ := bindS hr
          refine q_call (vs := [(.agg #[(.int .i64 t_26.1.Num), (.int .i64 t_26.1.Den)]), (.int .i64 t_26.2)]) hF hS Try.func47 (by kernel_rfl) rfl rfl rfl (c_spec_GeoMass t_26.1 t_26.2 t_30 ht_30 _ m hS.vis) ?_
          rintro a w _ rfl hF hS
          refine q_x (v := (.tuple #[(.agg #[(.int .i64 t_30.1.Num), (.int .i64 t_30.1.Den)]), (.bool t_30.2)])) hF hS (ex_move rfl) rfl rfl fun a hF => ?_
          refine q_x (v := (.agg #[(.int .i64 t_30.1.Num), (.int .i64 t_30.1.Den)])) hF hS (ex_extract rfl rfl) rfl rfl fun a hF => ?_
          refine q_x (v := (.bool t_30.2)) hF hS (ex_extract rfl rfl) rfl rfl fun a hF => ?_
          refine q_alloc (cs := [(.int .i64 0), (.int .i64 0)]) hF hS rfl rfl rfl fun a w b31 hF hS => ?_
          refine q_store (vs := [(.int .i64 t_30.1.Num), (.int .i64 t_30.1.Den)]) (cs' := [(.int .i64 t_30.1.Num), (.int .i64 t_30.1.Den)]) 0 0 hF hS sz24 rfl rfl rfl rfl rfl rfl rfl rfl fun a w hF hS => ?_
          refine q_x (v := (.bool t_30.2)) hF hS (ex_assign rfl) rfl rfl fun a hF => ?_
          refine q_end (n_sq ?_)
          refine q_seq ?_
          refine q_region ?_
          refine q_x (v := (.agg #[(.int .i64 t_26.1.Num), (.int .i64 t_26.1.Den)])) hF hS (ex_loadA (vs := [(.int .i64 t_26.1.Num), (.int .i64 t_26.1.Den)]) 2 0 Try.underlying24 rfl sz24 rfl rfl rfl rfl) rfl rfl fun a hF => ?_
          refine q_x (v := (.int .i64 t_26.2)) hF hS (ex_move rfl) rfl rfl fun a hF => ?_
          refine q_x (v := (.int .i64 (w64 (-t_26.2)))) hF hS (ex_neg rfl) rfl rfl fun a hF => ?_
          obtain ⟨t_32, ht_32, hr⟩ := bindS hr
          refine q_call (vs := [(.agg #[(.int .i64 t_26.1.Num), (.int .i64 t_26.1.Den)]), (.int .i64 (w64 (-t_26.2)))]) hF hS Try.func46 (by kernel_rfl) rfl rfl rfl (c_impl_GeoMass t_26.1 (w64 (-t_26.2)) t_32 ht_32 _ m hS.vis) ?_
          rintro a w _ rfl hF hS
          refine q_x (v := (.tuple #[(.agg #[(.int .i64 t_32.1.Num), (.int .i64 t_32.1.Den)]), (.bool t_32.2)])) hF hS (ex_move rfl) rfl rfl fun a hF => ?_
          refine q_x (v := (.agg #[(.int .i64 t_32.1.Num), (.int .i64 t_32.1.Den)])) hF hS (ex_extract rfl rfl) rfl rfl fun a hF => ?_
          refine q_x (v := (.bool t_32.2)) hF hS (ex_extract rfl rfl) rfl rfl fun a hF => ?_
          refine q_alloc (cs := [(.int .i64 0), (.int .i64 0)]) hF hS rfl rfl rfl fun a w b33 hF hS => ?_
          refine q_store (vs := [(.int .i64 t_32.1.Num), (.int .i64 t_32.1.Den)]) (cs' := [(.int .i64 t_32.1.Num), (.int .i64 t_32.1.Den)]) 0 0 hF hS sz24 rfl rfl rfl rfl rfl rfl rfl rfl fun a w hF hS => ?_
          refine q_x (v := (.bool t_32.2)) hF hS (ex_assign rfl) rfl rfl fun a hF => ?_
          refine q_end (n_sq ?_)
          refine q_seq ?_
          refine q_seq ?_
          obtain ⟨t_34, hj17, hr⟩ := bindS hr
          refine q_join (fun a w => Fr a 199 [(1, s2.v), (155, (.bool t_34))] ∧ St [] w0 w m []) ?_ ?_
          · refine q_region ?_
            refine q_x (v := (.bool t_28.2)) hF hS (ex_move rfl) rfl rfl fun a hF => ?_
            refine q_x (v := (.bool t_30.2)) hF hS (ex_move rfl) rfl rfl fun a hF => ?_
            refine q_x (v := (.bool (t_28.2 != t_30.2))) hF hS (ex_bne Try.underlying4 rfl rfl) rfl rfl fun a hF => ?_
            refine q_x (v := (.bool (t_28.2 != t_30.2))) hF hS (ex_move rfl) rfl rfl fun a hF => ?_
            rcases bcase (t_28.2 != t_30.2) with hc18 | hc18
            · have hj17 := cond_f hc18 hj17
              refine q_xg (v := (.agg #[(.int .i64 t_28.1.Num), (.int .i64 t_28.1.Den)])) hF hS (ex_loadA (vs := [(.int .i64 t_28.1.Num), (.int .i64 t_28.1.Den)]) 2 0 Try.underlying24 rfl sz24 rfl rfl rfl rfl) (wanted_t hF rfl rfl rfl hc18) rfl fun a hF => ?_
              refine q_xg (v := (.agg #[(.int .i64 t_30.1.Num), (.int .i64 t_30.1.Den)])) hF hS (ex_loadA (vs := [(.int .i64 t_30.1.Num), (.int .i64 t_30.1.Den)]) 1 0 Try.underlying24 rfl sz24 rfl rfl rfl rfl) (wanted_t hF rfl rfl rfl hc18) rfl fun a hF => ?_
              refine q_xg (v := (.bool (!((t_28.1.Num == t_30.1.Num) && ((t_28.1.Den == t_30.1.Den) && true))))) hF hS (ex_neA (xs := [(.int .i64 t_28.1.Num), (.int .i64 t_28.1.Den)]) (ys := [(.int .i64 t_30.1.Num), (.int .i64 t_30.1.Den)]) rfl rfl (by kernel_rfl) (eqv_struct (xs := [(.int .i64 t_28.1.Num), (.int .i64 t_28.1.Den)]) (ys := [(.int .i64 t_30.1.Num), (.int .i64 t_30.1.Den)]) Try.underlying24 (by kernel_rfl) (eqf_cons rfl (part_cell Try.underlying3 rfl rfl) (part_cell Try.underlying3 rfl rfl) (eqv_int Try.underlying3) (eqf_cons rfl (part_cell Try.underlying3 rfl rfl) (part_cell Try.underlying3 rfl rfl) (eqv_int Try.underlying3) (eqf_nil))))) (wanted_t hF rfl rfl rfl hc18) rfl fun a hF => ?_
              refine q_x (v := (.bool (!((t_28.1.Num == t_30.1.Num) && ((t_28.1.Den == t_30.1.Den) && true))))) hF hS (ex_pick_f rfl rfl hc18) rfl rfl fun a hF => ?_
              refine q_x (v := (.bool (!((t_28.1.Num == t_30.1.Num) && ((t_28.1.Den == t_30.1.Den) && true))))) hF hS (ex_move rfl) rfl rfl fun a hF => ?_
              rcases bcase (!((t_28.1.Num == t_30.1.Num) && ((t_28.1.Den == t_30.1.Den) && true))) with hc19 | hc19
              · have hj17 := cond_f hc19 hj17
                refine q_xg (v := (.bool t_32.2)) hF hS (ex_move rfl) (wanted_t hF rfl rfl rfl hc19) rfl fun a hF => ?_
                refine q_xg (v := (.bool t_28.2)) hF hS (ex_move rfl) (wanted_t hF rfl rfl rfl hc19) rfl fun a hF => ?_
                refine q_xg (v := (.bool (t_32.2 != t_28.2))) hF hS (ex_bne Try.underlying4 rfl rfl) (wanted_t hF rfl rfl rfl hc19) rfl fun a hF => ?_
                refine q_x (v := (.bool (t_32.2 != t_28.2))) hF hS (ex_pick_f rfl rfl hc19) rfl rfl fun a hF => ?_
                refine q_x (v := (.bool (t_32.2 != t_28.2))) hF hS (ex_move rfl) rfl rfl fun a hF => ?_
                rcases bcase (t_32.2 != t_28.2) with hc20 | hc20
                · have hj17 := cond_f hc20 hj17
                  refine q_xg (v := (.agg #[(.int .i64 t_32.1.Num), (.int .i64 t_32.1.Den)])) hF hS (ex_loadA (vs := [(.int .i64 t_32.1.Num), (.int .i64 t_32.1.Den)]) 0 0 Try.underlying24 rfl sz24 rfl rfl rfl rfl) (wanted_t hF rfl rfl rfl hc20) rfl fun a hF => ?_
                  refine q_xg (v := (.agg #[(.int .i64 t_28.1.Num), (.int .i64 t_28.1.Den)])) hF hS (ex_loadA (vs := [(.int .i64 t_28.1.Num), (.int .i64 t_28.1.Den)]) 2 0 Try.underlying24 rfl sz24 rfl rfl rfl rfl) (wanted_t hF rfl rfl rfl hc20) rfl fun a hF => ?_
                  refine q_xg (v := (.bool (!((t_32.1.Num == t_28.1.Num) && ((t_32.1.Den == t_28.1.Den) && true))))) hF hS (ex_neA (xs := [(.int .i64 t_32.1.Num), (.int .i64 t_32.1.Den)]) (ys := [(.int .i64 t_28.1.Num), (.int .i64 t_28.1.Den)]) rfl rfl (by kernel_rfl) (eqv_struct (xs := [(.int .i64 t_32.1.Num), (.int .i64 t_32.1.Den)]) (ys := [(.int .i64 t_28.1.Num), (.int .i64 t_28.1.Den)]) Try.underlying24 (by kernel_rfl) (eqf_cons rfl (part_cell Try.underlying3 rfl rfl) (part_cell Try.underlying3 rfl rfl) (eqv_int Try.underlying3) (eqf_cons rfl (part_cell Try.underlying3 rfl rfl) (part_cell Try.underlying3 rfl rfl) (eqv_int Try.underlying3) (eqf_nil))))) (wanted_t hF rfl rfl rfl hc20) rfl fun a hF => ?_
                  refine q_x (v := (.bool (!((t_32.1.Num == t_28.1.Num) && ((t_32.1.Den == t_28.1.Den) && true))))) hF hS (ex_pick_f rfl rfl hc20) rfl rfl fun a hF => ?_
                  refine q_end (n_jn ?_)
                  obtain rfl := someI hj17
                  exact ⟨hF.sub ⟨rfl, rfl, trivial⟩, hS.mask [false, false, false, false]⟩
                · have hj17 := cond_t hc20 hj17
                  refine q_skip hF (wanted_f hF rfl rfl rfl hc20 rfl) rfl fun a hF => ?_
                  refine q_skip hF (wanted_f hF rfl rfl rfl hc20 rfl) rfl fun a hF => ?_
                  refine q_skip hF (wanted_f hF rfl rfl rfl hc20 rfl) rfl fun a hF => ?_
                  refine q_x (v := (.bool true)) hF hS (ex_pick_t rfl rfl hc20) rfl rfl fun a hF => ?_
                  refine q_end (n_jn ?_)
                  obtain rfl := someI hj17
                  exact ⟨hF.sub ⟨rfl, rfl, trivial⟩, hS.mask [false, false, false, false]⟩
              · have hj17 := cond_t hc19 hj17
                refine q_skip hF (wanted_f hF rfl rfl rfl hc19 rfl) rfl fun a hF => ?_
                refine q_skip hF (wanted_f hF rfl rfl rfl hc19 rfl) rfl fun a hF => ?_
                refine q_skip hF (wanted_f hF rfl rfl rfl hc19 rfl) rfl fun a hF => ?_
                refine q_x (v := (.bool true)) hF hS (ex_pick_t rfl rfl hc19) rfl rfl fun a hF => ?_
                refine q_x (v := (.bool true)) hF hS (ex_move rfl) rfl rfl fun a hF => ?_
                refine q_skip hF (wanted_f hF rfl rfl rfl rfl rfl) rfl fun a hF => ?_
                refine q_skip hF (wanted_f hF rfl rfl rfl rfl rfl) rfl fun a hF => ?_
                refine q_skip hF (wanted_f hF rfl rfl rfl rfl rfl) rfl fun a hF => ?_
                refine q_x (v := (.bool true)) hF hS (ex_pick_t rfl rfl rfl) rfl rfl fun a hF => ?_
                refine q_end (n_jn ?_)
                obtain rfl := someI hj17
                exact ⟨hF.sub ⟨rfl, rfl, trivial⟩, hS.mask [false, false, false, false]⟩
            · have hj17 := cond_t hc18 hj17
              refine q_skip hF (wanted_f hF rfl rfl rfl hc18 rfl) rfl fun a hF => ?_
              refine q_skip hF (wanted_f hF rfl rfl rfl hc18 rfl) rfl fun a hF => ?_
              refine q_skip hF (wanted_f hF rfl rfl rfl hc18 rfl) rfl fun a hF => ?_
              refine q_x (v := (.bool true)) hF hS (ex_pick_t rfl rfl hc18) rfl rfl fun a hF => ?_
              refine q_x (v := (.bool true)) hF hS (ex_move rfl) rfl rfl fun a hF => ?_
              refine q_skip hF (wanted_f hF rfl rfl rfl rfl rfl) rfl fun a hF => ?_
              refine q_skip hF (wanted_f hF rfl rfl rfl rfl rfl) rfl fun a hF => ?_
              refine q_skip hF (wanted_f hF rfl rfl rfl rfl rfl) rfl fun a hF => ?_
              refine q_x (v := (.bool true)) hF hS (ex_pick_t rfl rfl rfl) rfl rfl fun a hF => ?_
              refine q_x (v := (.bool true)) hF hS (ex_move rfl) rfl rfl fun a hF => ?_
              refine q_skip hF (wanted_f hF rfl rfl rfl rfl rfl) rfl fun a hF => ?_
              refine q_skip hF (wanted_f hF rfl rfl rfl rfl rfl) rfl fun a hF => ?_
              refine q_skip hF (wanted_f hF rfl rfl rfl rfl rfl) rfl fun a hF => ?_
              refine q_x (v := (.bool true)) hF hS (ex_pick_t rfl rfl rfl) rfl rfl fun a hF => ?_
              refine q_end (n_jn ?_)
              obtain rfl := someI hj17
              exact ⟨hF.sub ⟨rfl, rfl, trivial⟩, hS.mask [false, false, false, false]⟩
          · rintro a w ⟨hF, hS⟩
            refine n_sq ?_
            rcases bcase (t_34) with hc21 | hc21
            · have hr := cond_f hc21 hr
              refine q_cond_f hF rfl hc21 ?_
              refine q_skipc (n_sq ?_)
              refine q_seq ?_
              refine q_region ?_
              refine q_x (v := s2.v) hF hS (ex_move rfl) rfl rfl fun a hF => ?_
              obtain ⟨t_35, ht_35, hr⟩ := bindS hr
              refine q_call (vs := [s2.v]) hF hS Try.func48 (by kernel_rfl) rfl rfl rfl (c_spec_DrawLeastRadius p_more t_35 ht_35 _ m hS.vis s2 h2) ?_
              rintro a w _ rfl hF hS
              refine q_x (v := (.tuple #[(.agg #[(.int .i64 t_35.1.Num), (.int .i64 t_35.1.Den)]), (.agg #[(.int .i64 t_35.2.Num), (.int .i64 t_35.2.Den)])])) hF hS (ex_move rfl) rfl rfl fun a hF => ?_
              refine q_x (v := (.agg #[(.int .i64 t_35.1.Num), (.int .i64 t_35.1.Den)])) hF hS (ex_extract rfl rfl) rfl rfl fun a hF => ?_
              refine q_x (v := (.agg #[(.int .i64 t_35.2.Num), (.int .i64 t_35.2.Den)])) hF hS (ex_extract rfl rfl) rfl rfl fun a hF => ?_
              refine q_alloc (cs := [(.int .i64 0), (.int .i64 0)]) hF hS rfl rfl rfl fun a w b36 hF hS => ?_
              refine q_alloc (cs := [(.int .i64 0), (.int .i64 0)]) hF hS rfl rfl rfl fun a w b37 hF hS => ?_
              refine q_store (vs := [(.int .i64 t_35.1.Num), (.int .i64 t_35.1.Den)]) (cs' := [(.int .i64 t_35.1.Num), (.int .i64 t_35.1.Den)]) 1 0 hF hS sz24 rfl rfl rfl rfl rfl rfl rfl rfl fun a w hF hS => ?_
              refine q_store (vs := [(.int .i64 t_35.2.Num), (.int .i64 t_35.2.Den)]) (cs' := [(.int .i64 t_35.2.Num), (.int .i64 t_35.2.Den)]) 0 0 hF hS sz24 rfl rfl rfl rfl rfl rfl rfl rfl fun a w hF hS => ?_
              refine q_end (n_sq ?_)
              refine q_seq ?_
              refine q_region ?_
              refine q_x (v := (.agg #[(.int .i64 t_35.1.Num), (.int .i64 t_35.1.Den)])) hF hS (ex_loadA (vs := [(.int .i64 t_35.1.Num), (.int .i64 t_35.1.Den)]) 1 0 Try.underlying24 rfl sz24 rfl rfl rfl rfl) rfl rfl fun a hF => ?_
              refine q_x (v := (.agg #[(.int .i64 t_35.2.Num), (.int .i64 t_35.2.Den)])) hF hS (ex_loadA (vs := [(.int .i64 t_35.2.Num), (.int .i64 t_35.2.Den)]) 0 0 Try.underlying24 rfl sz24 rfl rfl rfl rfl) rfl rfl fun a hF => ?_
              obtain ⟨t_38, ht_38, hr⟩ := bindS hr
              refine q_call (vs := [(.agg #[(.int .i64 t_35.1.Num), (.int .i64 t_35.1.Den)]), (.agg #[(.int .i64 t_35.2.Num), (.int .i64 t_35.2.Den)])]) hF hS Try.func49 (by kernel_rfl) rfl rfl rfl (c_impl_LeastRadius t_35.1 t_35.2 t_38 ht_38 _ m hS.vis) ?_
              rintro a w _ rfl hF hS
              refine q_x (v := (.tuple #[(.int .i64 t_38.1), (.bool t_38.2)])) hF hS (ex_move rfl) rfl rfl fun a hF => ?_
              refine q_x (v := (.int .i64 t_38.1)) hF hS (ex_extract rfl rfl) rfl rfl fun a hF => ?_
              refine q_x (v := (.bool t_38.2)) hF hS (ex_extract rfl rfl) rfl rfl fun a hF => ?_
              refine q_x (v := (.int .i64 t_38.1)) hF hS (ex_assign rfl) rfl rfl fun a hF => ?_
              refine q_x (v := (.bool t_38.2)) hF hS (ex_assign rfl) rfl rfl fun a hF => ?_
              refine q_end (n_sq ?_)
              refine q_seq ?_
              refine q_region ?_
              refine q_x (v := (.agg #[(.int .i64 t_35.1.Num), (.int .i64 t_35.1.Den)])) hF hS (ex_loadA (vs := [(.int .i64 t_35.1.Num), (.int .i64 t_35.1.Den)]) 1 0 Try.underlying24 rfl sz24 rfl rfl rfl rfl) rfl rfl fun a hF => ?_
              refine q_x (v := (.agg #[(.int .i64 t_35.2.Num), (.int .i64 t_35.2.Den)])) hF hS (ex_loadA (vs := [(.int .i64 t_35.2.Num), (.int .i64 t_35.2.Den)]) 0 0 Try.underlying24 rfl sz24 rfl rfl rfl rfl) rfl rfl fun a hF => ?_
              obtain ⟨t_39, ht_39, hr⟩ := bindS hr
              refine q_call (vs := [(.agg #[(.int .i64 t_35.1.Num), (.int .i64 t_35.1.Den)]), (.agg #[(.int .i64 t_35.2.Num), (.int .i64 t_35.2.Den)])]) hF hS Try.func50 (by kernel_rfl) rfl rfl rfl (c_spec_LeastRadius t_35.1 t_35.2 t_39 ht_39 _ m hS.vis) ?_
              rintro a w _ rfl hF hS
              refine q_x (v := (.tuple #[(.int .i64 t_39.1), (.bool t_39.2)])) hF hS (ex_move rfl) rfl rfl fun a hF => ?_
              refine q_x (v := (.int .i64 t_39.1)) hF hS (ex_extract rfl rfl) rfl rfl fun a hF => ?_
              refine q_x (v := (.bool t_39.2)) hF hS (ex_extract rfl rfl) rfl rfl fun a hF => ?_
              refine q_x (v := (.int .i64 t_39.1)) hF hS (ex_assign rfl) rfl rfl fun a hF => ?_
              refine q_x (v := (.bool t_39.2)) hF hS (ex_assign rfl) rfl rfl fun a hF => ?_
              refine q_end (n_sq ?_)
              refine q_seq ?_
              refine q_seq ?_
              obtain ⟨t_40, hj22, hr⟩ := bindS hr
              refine q_join (fun a w => Fr a 199 [(29, (.pointer (some ⟨b36, 0, none⟩))), (180, (.bool t_40))] ∧ St [] w0 w m [[⟨b36, [(.int .i64 t_35.1.Num), (.int .i64 t_35.1.Den)], 24⟩]]) ?_ ?_
              · refine q_region ?_
                refine q_x (v := (.bool t_38.2)) hF hS (ex_move rfl) rfl rfl fun a hF => ?_
                refine q_x (v := (.bool t_39.2)) hF hS (ex_move rfl) rfl rfl fun a hF => ?_
                refine q_x (v := (.bool (t_38.2 != t_39.2))) hF hS (ex_bne Try.underlying4 rfl rfl) rfl rfl fun a hF => ?_
                refine q_x (v := (.bool (t_38.2 != t_39.2))) hF hS (ex_move rfl) rfl rfl fun a hF => ?_
                rcases bcase (t_38.2 != t_39.2) with hc23 | hc23
                · have hj22 := cond_f hc23 hj22
                  refine q_xg (v := (.int .i64 t_38.1)) hF hS (ex_move rfl) (wanted_t hF rfl rfl rfl hc23) rfl fun a hF => ?_
                  refine q_xg (v := (.int .i64 t_39.1)) hF hS (ex_move rfl) (wanted_t hF rfl rfl rfl hc23) rfl fun a hF => ?_
                  refine q_xg (v := (.bool (t_38.1 != t_39.1))) hF hS (ex_ibin rfl rfl rfl) (wanted_t hF rfl rfl rfl hc23) rfl fun a hF => ?_
                  refine q_x (v := (.bool (t_38.1 != t_39.1))) hF hS (ex_pick_f rfl rfl hc23) rfl rfl fun a hF => ?_
                  refine q_end (n_jn ?_)
                  obtain rfl := someI hj22
                  exact ⟨hF.sub ⟨rfl, rfl, trivial⟩, hS.mask [false, true]⟩
                · have hj22 := cond_t hc23 hj22
                  refine q_skip hF (wanted_f hF rfl rfl rfl hc23 rfl) rfl fun a hF => ?_
                  refine q_skip hF (wanted_f hF rfl rfl rfl hc23 rfl) rfl fun a hF => ?_
                  refine q_skip hF (wanted_f hF rfl rfl rfl hc23 rfl) rfl fun a hF => ?_
                  refine q_x (v := (.bool true)) hF hS (ex_pick_t rfl rfl hc23) rfl rfl fun a hF => ?_
                  refine q_end (n_jn ?_)
                  obtain rfl := someI hj22
                  exact ⟨hF.sub ⟨rfl, rfl, trivial⟩, hS.mask [false, true]⟩
              · rintro a w ⟨hF, hS⟩
                refine n_sq ?_
                rcases bcase (t_40) with hc24 | hc24
                · have hr := cond_f hc24 hr
                  refine q_cond_f hF rfl hc24 ?_
                  refine q_skipc (n_sq ?_)
                  refine q_seq ?_
                  refine q_region ?_
                  refine q_x (v := (.agg #[(.int .i64 t_35.1.Num), (.int .i64 t_35.1.Den)])) hF hS (ex_loadA (vs := [(.int .i64 t_35.1.Num), (.int .i64 t_35.1.Den)]) 0 0 Try.underlying24 rfl sz24 rfl rfl rfl rfl) rfl rfl fun a hF => ?_
                  obtain ⟨t_41, ht_41, hr⟩ := bindS hr
                  refine q_call (vs := [(.agg #[(.int .i64 t_35.1.Num), (.int .i64 t_35.1.Den)])]) hF hS Try.func51 (by kernel_rfl) rfl rfl rfl (c_impl_VarianceOf t_35.1 t_41 ht_41 _ m hS.vis) ?_
                  rintro a w _ rfl hF hS
                  refine q_x (v := (.tuple #[(.agg #[(.int .i64 t_41.1.Num), (.int .i64 t_41.1.Den)]), (.bool t_41.2)])) hF hS (ex_move rfl) rfl rfl fun a hF => ?_
                  refine q_x (v := (.agg #[(.int .i64 t_41.1.Num), (.int .i64 t_41.1.Den)])) hF hS (ex_extract rfl rfl) rfl rfl fun a hF => ?_
                  refine q_x (v := (.bool t_41.2)) hF hS (ex_extract rfl rfl) rfl rfl fun a hF => ?_
                  refine q_alloc (cs := [(.int .i64 0), (.int .i64 0)]) hF hS rfl rfl rfl fun a w b42 hF hS => ?_
                  refine q_store (vs := [(.int .i64 t_41.1.Num), (.int .i64 t_41.1.Den)]) (cs' := [(.int .i64 t_41.1.Num), (.int .i64 t_41.1.Den)]) 0 0 hF hS sz24 rfl rfl rfl rfl rfl rfl rfl rfl fun a w hF hS => ?_
                  refine q_x (v := (.bool t_41.2)) hF hS (ex_assign rfl) rfl rfl fun a hF => ?_
                  refine q_end (n_sq ?_)
                  refine q_seq ?_
                  refine q_region ?_
                  refine q_x (v := (.agg #[(.int .i64 t_35.1.Num), (.int .i64 t_35.1.Den)])) hF hS (ex_loadA (vs := [(.int .i64 t_35.1.Num), (.int .i64 t_35.1.Den)]) 1 0 Try.underlying24 rfl sz24 rfl rfl rfl rfl) rfl rfl fun a hF => ?_
                  obtain ⟨t_43, ht_43, hr⟩ := bindS hr
                  refine q_call (vs := [(.agg #[(.int .i64 t_35.1.Num), (.int .i64 t_35.1.Den)])]) hF hS Try.func52 (by kernel_rfl) rfl rfl rfl (c_spec_VarianceOf t_35.1 t_43 ht_43 _ m hS.vis) ?_
                  rintro a w _ rfl hF hS
                  refine q_x (v := (.tuple #[(.agg #[(.int .i64 t_43.1.Num), (.int .i64 t_43.1.Den)]), (.bool t_43.2)])) hF hS (ex_move rfl) rfl rfl fun a hF => ?_
                  refine q_x (v := (.agg #[(.int .i64 t_43.1.Num), (.int .i64 t_43.1.Den)])) hF hS (ex_extract rfl rfl) rfl rfl fun a hF => ?_
                  refine q_x (v := (.bool t_43.2)) hF hS (ex_extract rfl rfl) rfl rfl fun a hF => ?_
                  refine q_alloc (cs := [(.int .i64 0), (.int .i64 0)]) hF hS rfl rfl rfl fun a w b44 hF hS => ?_
                  refine q_store (vs := [(.int .i64 t_43.1.Num), (.int .i64 t_43.1.Den)]) (cs' := [(.int .i64 t_43.1.Num), (.int .i64 t_43.1.Den)]) 0 0 hF hS sz24 rfl rfl rfl rfl rfl rfl rfl rfl fun a w hF hS => ?_
                  refine q_x (v := (.bool t_43.2)) hF hS (ex_assign rfl) rfl rfl fun a hF => ?_
                  refine q_end (n_sq ?_)
                  refine q_seq ?_
                  obtain ⟨t_45, hj25, hr⟩ := bindS hr
                  refine q_join (fun a w => Fr a 199 [(4, (.bool t_45))] ∧ St [] w0 w m []) ?_ ?_
                  · refine q_region ?_
                    refine q_x (v := (.bool t_41.2)) hF hS (ex_move rfl) rfl rfl fun a hF => ?_
                    refine q_x (v := (.bool t_43.2)) hF hS (ex_move rfl) rfl rfl fun a hF => ?_
                    refine q_x (v := (.bool (t_41.2 == t_43.2))) hF hS (ex_beq Try.underlying4 rfl rfl) rfl rfl fun a hF => ?_
                    refine q_x (v := (.bool (t_41.2 == t_43.2))) hF hS (ex_move rfl) rfl rfl fun a hF => ?_
                    rcases bcase (t_41.2 == t_43.2) with hc26 | hc26
                    · have hj25 := cond_f hc26 hj25
                      refine q_skip hF (wanted_f hF rfl rfl rfl hc26 rfl) rfl fun a hF => ?_
                      refine q_skip hF (wanted_f hF rfl rfl rfl hc26 rfl) rfl fun a hF => ?_
                      refine q_skip hF (wanted_f hF rfl rfl rfl hc26 rfl) rfl fun a hF => ?_
                      refine q_x (v := (.bool false)) hF hS (ex_pick_f rfl rfl hc26) rfl rfl fun a hF => ?_
                      refine q_x (v := (.bool false)) hF hS (ex_assign rfl) rfl rfl fun a hF => ?_
                      refine q_end (n_jn ?_)
                      obtain rfl := someI hj25
                      exact ⟨hF.sub ⟨rfl, trivial⟩, hS.mask [false, false, false]⟩
                    · have hj25 := cond_t hc26 hj25
                      refine q_xg (v := (.agg #[(.int .i64 t_41.1.Num), (.int .i64 t_41.1.Den)])) hF hS (ex_loadA (vs := [(.int .i64 t_41.1.Num), (.int .i64 t_41.1.Den)]) 1 0 Try.underlying24 rfl sz24 rfl rfl rfl rfl) (wanted_t hF rfl rfl rfl hc26) rfl fun a hF => ?_
                      refine q_xg (v := (.agg #[(.int .i64 t_43.1.Num), (.int .i64 t_43.1.Den)])) hF hS (ex_loadA (vs := [(.int .i64 t_43.1.Num), (.int .i64 t_43.1.Den)]) 0 0 Try.underlying24 rfl sz24 rfl rfl rfl rfl) (wanted_t hF rfl rfl rfl hc26) rfl fun a hF => ?_
                      refine q_xg (v := (.bool ((t_41.1.Num == t_43.1.Num) && ((t_41.1.Den == t_43.1.Den) && true)))) hF hS (ex_eqA (xs := [(.int .i64 t_41.1.Num), (.int .i64 t_41.1.Den)]) (ys := [(.int .i64 t_43.1.Num), (.int .i64 t_43.1.Den)]) rfl rfl (by kernel_rfl) (eqv_struct (xs := [(.int .i64 t_41.1.Num), (.int .i64 t_41.1.Den)]) (ys := [(.int .i64 t_43.1.Num), (.int .i64 t_43.1.Den)]) Try.underlying24 (by kernel_rfl) (eqf_cons rfl (part_cell Try.underlying3 rfl rfl) (part_cell Try.underlying3 rfl rfl) (eqv_int Try.underlying3) (eqf_cons rfl (part_cell Try.underlying3 rfl rfl) (part_cell Try.underlying3 rfl rfl) (eqv_int Try.underlying3) (eqf_nil))))) (wanted_t hF rfl rfl rfl hc26) rfl fun a hF => ?_
                      refine q_x (v := (.bool ((t_41.1.Num == t_43.1.Num) && ((t_41.1.Den == t_43.1.Den) && true)))) hF hS (ex_pick_t rfl rfl hc26) rfl rfl fun a hF => ?_
                      refine q_x (v := (.bool ((t_41.1.Num == t_43.1.Num) && ((t_41.1.Den == t_43.1.Den) && true)))) hF hS (ex_assign rfl) rfl rfl fun a hF => ?_
                      refine q_end (n_jn ?_)
                      obtain rfl := someI hj25
                      exact ⟨hF.sub ⟨rfl, trivial⟩, hS.mask [false, false, false]⟩
                  · rintro a w ⟨hF, hS⟩
                    refine n_sq (q_ret ?_)
                    obtain rfl := someI hr
                    exact ret_of hF hS rfl (.tmp rfl .nil) rfl
                · have hr := cond_t hc24 hr
                  refine q_cond_t hF rfl hc24 ?_
                  refine q_seq ?_
                  refine q_region ?_
                  refine q_x (v := (.bool false)) hF hS (ex_assign rfl) rfl rfl fun a hF => ?_
                  refine q_end (n_sq (q_ret (r_sq ?_)))
                  obtain rfl := someI hr
                  exact ret_of hF hS rfl (.tmp rfl .nil) rfl
            · have hr := cond_t hc21 hr
              refine q_cond_t hF rfl hc21 ?_
              refine q_seq ?_
              refine q_region ?_
              refine q_x (v := (.bool false)) hF hS (ex_assign rfl) rfl rfl fun a hF => ?_
              refine q_end (n_sq (q_ret (r_sq ?_)))
              obtain rfl := someI hr
              exact ret_of hF hS rfl (.tmp rfl .nil) rfl
      · have hr := cond_t hc4 hr
        refine q_cond_t hF rfl hc4 ?_
        refine q_seq ?_
        refine q_region ?_
        refine q_x (v := (.bool false)) hF hS (ex_assign rfl) rfl rfl fun a hF => ?_
        refine q_end (n_sq (q_ret (r_sq ?_)))
        obtain rfl := someI hr
        exact ret_of hF hS rfl (.tmp rfl .nil) rfl
  · have hr := cond_t hc1 hr
    refine q_cond_t hF rfl hc1 ?_
    refine q_seq ?_
    refine q_region ?_
    refine q_x (v := (.bool true)) hF hS (ex_assign rfl) rfl rfl fun a hF => ?_
    refine q_end (n_sq (q_ret (r_sq ?_)))
    obtain rfl := someI hr
    exact ret_of hF hS rfl (.tmp rfl .nil) rfl

end Go.Proofs.Ytdbgmkfniichdaa
