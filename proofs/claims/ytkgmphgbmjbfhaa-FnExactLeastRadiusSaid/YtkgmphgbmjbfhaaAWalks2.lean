/- The walks of the functions: each returns what its plain function says. -/
import Derived.Test.YtkgmphgbmjbfhaaAWalks1
namespace Go.Proofs.Ytkgmphgbmjbfhaa
open Go.Gx Go.Gx.F Go.RowKit
set_option linter.all false
set_option maxRecDepth 10000


theorem c_spec_zMass (p_a : impl_Frac) (p_k : Int) (r : impl_Frac × Bool) (hr : spec_zMass p_a p_k = some r) (w0 : World) (m : Mem) (hv : Vis m w0) :
    Ret Try.prog 87 [(.agg #[(.int .i64 p_a.Num), (.int .i64 p_a.Den)]), (.int .i64 p_k)] w0 (fun v _ => v = (.tuple #[(.agg #[(.int .i64 r.1.Num), (.int .i64 r.1.Den)]), (.bool r.2)])) := by
  unfold spec_zMass at hr
  refine ret_start Try.func87 rfl 34 rfl rfl m hv fun a hF hS => ?_
  refine q_seq ?_
  refine q_region ?_
  refine q_box (cs := [(.int .i64 p_a.Num), (.int .i64 p_a.Den)]) hF hS rfl rfl rfl fun a w b1 hF hS => ?_
  refine q_alloc (cs := [(.int .i64 0), (.int .i64 0)]) hF hS rfl rfl rfl fun a w b2 hF hS => ?_
  refine q_x (v := (.bool false)) hF hS (ex_assign rfl) rfl rfl fun a hF => ?_
  refine q_end (n_sq ?_)
  refine q_seq ?_
  refine q_region ?_
  refine q_x (v := (.agg #[(.int .i64 p_a.Num), (.int .i64 p_a.Den)])) hF hS (ex_loadA (vs := [(.int .i64 p_a.Num), (.int .i64 p_a.Den)]) 1 0 Try.underlying26 rfl sz26 rfl rfl rfl rfl) rfl rfl fun a hF => ?_
  obtain ⟨t_3, ht_3, hr⟩ := bindS hr
  refine q_call (vs := [(.agg #[(.int .i64 p_a.Num), (.int .i64 p_a.Den)])]) hF hS Try.func134 (by kernel_rfl) rfl rfl rfl (c_spec_zBase p_a t_3 ht_3 _ m hS.vis) ?_
  rintro a w _ rfl hF hS
  refine q_x (v := (.tuple #[(.agg #[(.int .i64 t_3.1.Num), (.int .i64 t_3.1.Den)]), (.bool t_3.2)])) hF hS (ex_move rfl) rfl rfl fun a hF => ?_
  refine q_x (v := (.agg #[(.int .i64 t_3.1.Num), (.int .i64 t_3.1.Den)])) hF hS (ex_extract rfl rfl) rfl rfl fun a hF => ?_
  refine q_x (v := (.bool t_3.2)) hF hS (ex_extract rfl rfl) rfl rfl fun a hF => ?_
  refine q_alloc (cs := [(.int .i64 0), (.int .i64 0)]) hF hS rfl rfl rfl fun a w b4 hF hS => ?_
  refine q_store (vs := [(.int .i64 t_3.1.Num), (.int .i64 t_3.1.Den)]) (cs' := [(.int .i64 t_3.1.Num), (.int .i64 t_3.1.Den)]) 0 0 hF hS sz26 rfl rfl rfl rfl rfl rfl rfl rfl fun a w hF hS => ?_
  refine q_x (v := (.bool t_3.2)) hF hS (ex_assign rfl) rfl rfl fun a hF => ?_
  refine q_end (n_sq ?_)
  refine q_seq ?_
  obtain ⟨j1, hj1, hr⟩ := bindS hr
  refine q_join (fun a w => ∃ b8, ∃ two_9, ∃ y_10, j1 = (two_9, y_10) ∧ Fr a 34 [(4, (.pointer (some ⟨b2, 0, none⟩))), (6, (.pointer (some ⟨b4, 0, none⟩))), (7, (.bool t_3.2)), (8, (.pointer (some ⟨b8, 0, none⟩))), (9, (.bool two_9))] ∧ St [] w0 w m [[⟨b8, [(.int .i64 y_10.Num), (.int .i64 y_10.Den)], 26⟩], [⟨b4, [(.int .i64 t_3.1.Num), (.int .i64 t_3.1.Den)], 26⟩], [⟨b2, [(.int .i64 0), (.int .i64 0)], 26⟩]]) ?_ ?_
  · refine e_region [8] mixed fun w' hw' => ?_
    have hS := hS.below hw'
    refine e_x (v := (.agg #[(.int .i64 p_a.Num), (.int .i64 p_a.Den)])) 0 hF hS rfl (ex_loadA (vs := [(.int .i64 p_a.Num), (.int .i64 p_a.Den)]) 2 0 Try.underlying26 rfl sz26 rfl rfl rfl rfl) rfl rfl (by kernel_rfl) (by kernel_rfl) (by kernel_rfl) (by kernel_rfl) fun a hF => ?_
    refine e_p (v := (.int .i64 p_k)) 1 hF rfl (ex_move rfl) rfl rfl (by kernel_rfl) (by kernel_rfl) (by kernel_rfl) fun a hF => ?_
    obtain ⟨t_6, ht_6, hj1⟩ := bindS hj1
    obtain ⟨t_7, ht_7, hj1⟩ := bindS hj1
    refine e_all [2, 7] (by kernel_rfl) rfl ⟨?_, ?_, trivial⟩
    · refine e_call (vs := [(.int .i64 p_k)]) hF hS rfl Try.func135 (by kernel_rfl) rfl rfl rfl (c_spec_l1Abs p_k t_6 ht_6 _ m hS.vis) ?_
      rintro a w _ rfl hF hS
      refine e_all [3, 7] (by kernel_rfl) rfl ⟨?_, ?_, trivial⟩
      · refine e_call (vs := [(.agg #[(.int .i64 p_a.Num), (.int .i64 p_a.Den)]), (.int .i64 t_6)]) hF hS rfl Try.func110 (by kernel_rfl) rfl rfl rfl (c_spec_fPow p_a t_6 t_7 ht_7 _ m hS.vis) ?_
        rintro a w _ rfl hF hS
        refine e_p (v := (.tuple #[(.agg #[(.int .i64 t_7.1.Num), (.int .i64 t_7.1.Den)]), (.bool t_7.2)])) 4 hF rfl (ex_move rfl) rfl rfl (by kernel_rfl) (by kernel_rfl) (by kernel_rfl) fun a hF => ?_
        refine e_p (v := (.agg #[(.int .i64 t_7.1.Num), (.int .i64 t_7.1.Den)])) 5 hF rfl (ex_extract rfl rfl) rfl rfl (by kernel_rfl) (by kernel_rfl) (by kernel_rfl) fun a hF => ?_
        refine e_p (v := (.bool t_7.2)) 6 hF rfl (ex_extract rfl rfl) rfl rfl (by kernel_rfl) (by kernel_rfl) (by kernel_rfl) fun a hF => ?_
        refine e_one 7 (by kernel_rfl) ?_
        refine e_alloc (cs := [(.int .i64 0), (.int .i64 0)]) hF hS rfl rfl rfl rfl fun a w b8 hF hS => ?_
        refine e_one 8 (by kernel_rfl) ?_
        refine e_store (vs := [(.int .i64 t_7.1.Num), (.int .i64 t_7.1.Den)]) (cs' := [(.int .i64 t_7.1.Num), (.int .i64 t_7.1.Den)]) 0 0 hF hS rfl rfl sz26 rfl rfl rfl rfl rfl rfl rfl rfl fun a w hF hS => ?_
        refine e_p (v := (.bool t_7.2)) 9 hF rfl (ex_assign rfl) rfl rfl (by kernel_rfl) (by kernel_rfl) (by kernel_rfl) fun a hF => ?_
        refine e_end (by kernel_rfl) (n_jn ?_) _
        obtain rfl := someI hj1
        exact ⟨b8, _, _, rfl, hF.sub ⟨rfl, rfl, rfl, rfl, rfl, trivial⟩, hS.mask [true, true, true, false]⟩
      · refine e_alloc (cs := [(.int .i64 0), (.int .i64 0)]) hF hS rfl rfl rfl rfl fun a w b8 hF hS => ?_
        refine e_one 3 (by kernel_rfl) ?_
        refine e_call (vs := [(.agg #[(.int .i64 p_a.Num), (.int .i64 p_a.Den)]), (.int .i64 t_6)]) hF hS rfl Try.func110 (by kernel_rfl) rfl rfl rfl (c_spec_fPow p_a t_6 t_7 ht_7 _ m hS.vis) ?_
        rintro a w _ rfl hF hS
        refine e_p (v := (.tuple #[(.agg #[(.int .i64 t_7.1.Num), (.int .i64 t_7.1.Den)]), (.bool t_7.2)])) 4 hF rfl (ex_move rfl) rfl rfl (by kernel_rfl) (by kernel_rfl) (by kernel_rfl) fun a hF => ?_
        refine e_p (v := (.agg #[(.int .i64 t_7.1.Num), (.int .i64 t_7.1.Den)])) 5 hF rfl (ex_extract rfl rfl) rfl rfl (by kernel_rfl) (by kernel_rfl) (by kernel_rfl) fun a hF => ?_
        refine e_p (v := (.bool t_7.2)) 6 hF rfl (ex_extract rfl rfl) rfl rfl (by kernel_rfl) (by kernel_rfl) (by kernel_rfl) fun a hF => ?_
        refine e_one 8 (by kernel_rfl) ?_
        refine e_store (vs := [(.int .i64 t_7.1.Num), (.int .i64 t_7.1.Den)]) (cs' := [(.int .i64 t_7.1.Num), (.int .i64 t_7.1.Den)]) 0 0 hF hS rfl rfl sz26 rfl rfl rfl rfl rfl rfl rfl rfl fun a w hF hS => ?_
        refine e_p (v := (.bool t_7.2)) 9 hF rfl (ex_assign rfl) rfl rfl (by kernel_rfl) (by kernel_rfl) (by kernel_rfl) fun a hF => ?_
        refine e_end (by kernel_rfl) (n_jn ?_) _
        obtain rfl := someI hj1
        exact ⟨b8, _, _, rfl, hF.sub ⟨rfl, rfl, rfl, rfl, rfl, trivial⟩, hS.mask [true, true, true, false]⟩
    · refine e_alloc (cs := [(.int .i64 0), (.int .i64 0)]) hF hS rfl rfl rfl rfl fun a w b8 hF hS => ?_
      refine e_one 2 (by kernel_rfl) ?_
      refine e_call (vs := [(.int .i64 p_k)]) hF hS rfl Try.func135 (by kernel_rfl) rfl rfl rfl (c_spec_l1Abs p_k t_6 ht_6 _ m hS.vis) ?_
      rintro a w _ rfl hF hS
      refine e_one 3 (by kernel_rfl) ?_
      refine e_call (vs := [(.agg #[(.int .i64 p_a.Num), (.int .i64 p_a.Den)]), (.int .i64 t_6)]) hF hS rfl Try.func110 (by kernel_rfl) rfl rfl rfl (c_spec_fPow p_a t_6 t_7 ht_7 _ m hS.vis) ?_
      rintro a w _ rfl hF hS
      refine e_p (v := (.tuple #[(.agg #[(.int .i64 t_7.1.Num), (.int .i64 t_7.1.Den)]), (.bool t_7.2)])) 4 hF rfl (ex_move rfl) rfl rfl (by kernel_rfl) (by kernel_rfl) (by kernel_rfl) fun a hF => ?_
      refine e_p (v := (.agg #[(.int .i64 t_7.1.Num), (.int .i64 t_7.1.Den)])) 5 hF rfl (ex_extract rfl rfl) rfl rfl (by kernel_rfl) (by kernel_rfl) (by kernel_rfl) fun a hF => ?_
      refine e_p (v := (.bool t_7.2)) 6 hF rfl (ex_extract rfl rfl) rfl rfl (by kernel_rfl) (by kernel_rfl) (by kernel_rfl) fun a hF => ?_
      refine e_one 8 (by kernel_rfl) ?_
      refine e_store (vs := [(.int .i64 t_7.1.Num), (.int .i64 t_7.1.Den)]) (cs' := [(.int .i64 t_7.1.Num), (.int .i64 t_7.1.Den)]) 0 0 hF hS rfl rfl sz26 rfl rfl rfl rfl rfl rfl rfl rfl fun a w hF hS => ?_
      refine e_p (v := (.bool t_7.2)) 9 hF rfl (ex_assign rfl) rfl rfl (by kernel_rfl) (by kernel_rfl) (by kernel_rfl) fun a hF => ?_
      refine e_end (by kernel_rfl) (n_jn ?_) _
      obtain rfl := someI hj1
      exact ⟨b8, _, _, rfl, hF.sub ⟨rfl, rfl, rfl, rfl, rfl, trivial⟩, hS.mask [true, true, true, false]⟩
  · rintro a w ⟨b8, two_9, y_10, rfl, hF, hS⟩
    refine n_sq ?_
    refine q_seq ?_
    refine q_seq ?_
    obtain ⟨t_11, hj2, hr⟩ := bindS hr
    refine q_join (fun a w => Fr a 34 [(4, (.pointer (some ⟨b2, 0, none⟩))), (6, (.pointer (some ⟨b4, 0, none⟩))), (8, (.pointer (some ⟨b8, 0, none⟩))), (27, (.bool t_11))] ∧ St [] w0 w m [[⟨b8, [(.int .i64 y_10.Num), (.int .i64 y_10.Den)], 26⟩], [⟨b4, [(.int .i64 t_3.1.Num), (.int .i64 t_3.1.Den)], 26⟩], [⟨b2, [(.int .i64 0), (.int .i64 0)], 26⟩]]) ?_ ?_
    · refine q_region ?_
      refine q_x (v := (.bool t_3.2)) hF hS (ex_move rfl) rfl rfl fun a hF => ?_
      refine q_x (v := (.bool (!t_3.2))) hF hS (ex_not rfl) rfl rfl fun a hF => ?_
      refine q_x (v := (.bool (!t_3.2))) hF hS (ex_move rfl) rfl rfl fun a hF => ?_
      rcases hc3 : (!t_3.2) with _ | _
      · have hj2 := cond_f hc3 hj2
        refine q_xg (v := (.bool two_9)) hF hS (ex_move rfl) (wanted_t hF rfl rfl rfl hc3) rfl fun a hF => ?_
        refine q_xg (v := (.bool (!two_9))) hF hS (ex_not rfl) (wanted_t hF rfl rfl rfl hc3) rfl fun a hF => ?_
        refine q_x (v := (.bool (!two_9))) hF hS (ex_pick_f rfl rfl hc3) rfl rfl fun a hF => ?_
        refine q_end (n_jn ?_)
        obtain rfl := someI hj2
        exact ⟨hF.sub ⟨rfl, rfl, rfl, rfl, trivial⟩, hS⟩
      · have hj2 := cond_t hc3 hj2
        refine q_skip hF (wanted_f hF rfl rfl rfl hc3 rfl) rfl fun a hF => ?_
        refine q_skip hF (wanted_f hF rfl rfl rfl hc3 rfl) rfl fun a hF => ?_
        refine q_x (v := (.bool true)) hF hS (ex_pick_t rfl rfl hc3) rfl rfl fun a hF => ?_
        refine q_end (n_jn ?_)
        obtain rfl := someI hj2
        exact ⟨hF.sub ⟨rfl, rfl, rfl, rfl, trivial⟩, hS⟩
    · rintro a w ⟨hF, hS⟩
      refine n_sq ?_
      rcases hc4 : (t_11) with _ | _
      · have hr := cond_f hc4 hr
        refine q_cond_f hF rfl hc4 ?_
        refine q_skipc (n_sq ?_)
        refine q_seq ?_
        refine q_region ?_
        refine q_x (v := (.agg #[(.int .i64 t_3.1.Num), (.int .i64 t_3.1.Den)])) hF hS (ex_loadA (vs := [(.int .i64 t_3.1.Num), (.int .i64 t_3.1.Den)]) 1 0 Try.underlying26 rfl sz26 rfl rfl rfl rfl) rfl rfl fun a hF => ?_
        refine q_x (v := (.agg #[(.int .i64 y_10.Num), (.int .i64 y_10.Den)])) hF hS (ex_loadA (vs := [(.int .i64 y_10.Num), (.int .i64 y_10.Den)]) 0 0 Try.underlying26 rfl sz26 rfl rfl rfl rfl) rfl rfl fun a hF => ?_
        obtain ⟨t_12, ht_12, hr⟩ := bindS hr
        refine q_call (vs := [(.agg #[(.int .i64 t_3.1.Num), (.int .i64 t_3.1.Den)]), (.agg #[(.int .i64 y_10.Num), (.int .i64 y_10.Den)])]) hF hS Try.func96 (by kernel_rfl) rfl rfl rfl (c_spec_fMul t_3.1 y_10 t_12 ht_12 _ m hS.vis) ?_
        rintro a w _ rfl hF hS
        refine q_x (v := (.agg #[(.int .i64 t_12.1.Num), (.int .i64 t_12.1.Den)])) hF hS (ex_extract rfl rfl) rfl rfl fun a hF => ?_
        refine q_x (v := (.bool t_12.2)) hF hS (ex_extract rfl rfl) rfl rfl fun a hF => ?_
        refine q_store (vs := [(.int .i64 t_12.1.Num), (.int .i64 t_12.1.Den)]) (cs' := [(.int .i64 t_12.1.Num), (.int .i64 t_12.1.Den)]) 2 0 hF hS sz26 rfl rfl rfl rfl rfl rfl rfl rfl fun a w hF hS => ?_
        refine q_x (v := (.bool t_12.2)) hF hS (ex_assign rfl) rfl rfl fun a hF => ?_
        refine q_end (n_sq (q_ret ?_))
        obtain rfl := someI hr
        exact ret_of hF hS rfl (.cellA (us := [(.int .i64 t_12.1.Num), (.int .i64 t_12.1.Den)]) 2 0 Try.underlying26 rfl sz26 rfl rfl rfl rfl (.tmp rfl .nil)) rfl
      · have hr := cond_t hc4 hr
        refine q_cond_t hF rfl hc4 ?_
        refine q_seq ?_
        refine q_region ?_
        refine q_x (v := (.agg #[(.int .i64 0), (.int .i64 0)])) hF hS (ex_build (cells := [(.int .i64 0), (.int .i64 0)]) rfl (by kernel_rfl)) rfl rfl fun a hF => ?_
        refine q_store (vs := [(.int .i64 0), (.int .i64 0)]) (cs' := [(.int .i64 0), (.int .i64 0)]) 2 0 hF hS sz26 rfl rfl rfl rfl rfl rfl rfl rfl fun a w hF hS => ?_
        refine q_x (v := (.bool false)) hF hS (ex_assign rfl) rfl rfl fun a hF => ?_
        refine q_end (n_sq (q_ret (r_sq ?_)))
        obtain rfl := someI hr
        exact ret_of hF hS rfl (.cellA (us := [(.int .i64 0), (.int .i64 0)]) 2 0 Try.underlying26 rfl sz26 rfl rfl rfl rfl (.tmp rfl .nil)) rfl

theorem c_spec_GeoMass (p_a : impl_Frac) (p_k : Int) (r : impl_Frac × Bool) (hr : spec_GeoMass p_a p_k = some r) (w0 : World) (m : Mem) (hv : Vis m w0) :
    Ret Try.prog 29 [(.agg #[(.int .i64 p_a.Num), (.int .i64 p_a.Den)]), (.int .i64 p_k)] w0 (fun v _ => v = (.tuple #[(.agg #[(.int .i64 r.1.Num), (.int .i64 r.1.Den)]), (.bool r.2)])) := by
  unfold spec_GeoMass at hr
  refine ret_start Try.func29 rfl 20 rfl rfl m hv fun a hF hS => ?_
  refine q_seq ?_
  refine q_region ?_
  refine q_box (cs := [(.int .i64 p_a.Num), (.int .i64 p_a.Den)]) hF hS rfl rfl rfl fun a w b1 hF hS => ?_
  refine q_alloc (cs := [(.int .i64 0), (.int .i64 0)]) hF hS rfl rfl rfl fun a w b2 hF hS => ?_
  refine q_x (v := (.bool false)) hF hS (ex_assign rfl) rfl rfl fun a hF => ?_
  refine q_end (n_sq ?_)
  refine q_seq ?_
  refine q_seq ?_
  obtain ⟨t_5, hj1, hr⟩ := bindS hr
  refine q_join (fun a w => Fr a 20 [(1, (.int .i64 p_k)), (2, (.pointer (some ⟨b1, 0, none⟩))), (4, (.pointer (some ⟨b2, 0, none⟩))), (13, (.bool t_5))] ∧ St [] w0 w m [[⟨b2, [(.int .i64 0), (.int .i64 0)], 26⟩], [⟨b1, [(.int .i64 p_a.Num), (.int .i64 p_a.Den)], 26⟩]]) ?_ ?_
  · refine q_region ?_
    refine q_x (v := (.agg #[(.int .i64 p_a.Num), (.int .i64 p_a.Den)])) hF hS (ex_loadA (vs := [(.int .i64 p_a.Num), (.int .i64 p_a.Den)]) 1 0 Try.underlying26 rfl sz26 rfl rfl rfl rfl) rfl rfl fun a hF => ?_
    obtain ⟨t_3, ht_3, hj1⟩ := bindS hj1
    refine q_call (vs := [(.agg #[(.int .i64 p_a.Num), (.int .i64 p_a.Den)])]) hF hS Try.func85 (by kernel_rfl) rfl rfl rfl (c_spec_zRatio p_a t_3 ht_3 _ m hS.vis) ?_
    rintro a w _ rfl hF hS
    refine q_x (v := (.bool (!t_3))) hF hS (ex_not rfl) rfl rfl fun a hF => ?_
    refine q_x (v := (.bool (!t_3))) hF hS (ex_move rfl) rfl rfl fun a hF => ?_
    rcases hc2 : (!t_3) with _ | _
    · have hj1 := cond_f hc2 hj1
      refine q_xg (v := (.int .i64 p_k)) hF hS (ex_move rfl) (wanted_t hF rfl rfl rfl hc2) rfl fun a hF => ?_
      obtain ⟨t_4, ht_4, hj1⟩ := bindS hj1
      refine q_callg (vs := [(.int .i64 p_k), (.int .i64 (-60)), (.int .i64 60)]) hF hS (wanted_t hF rfl rfl rfl hc2) Try.func86 (by kernel_rfl) rfl rfl rfl (c_spec_l1In p_k (-60) 60 t_4 ht_4 _ m hS.vis) ?_
      rintro a w _ rfl hF hS
      refine q_xg (v := (.bool (!t_4))) hF hS (ex_not rfl) (wanted_t hF rfl rfl rfl hc2) rfl fun a hF => ?_
      refine q_x (v := (.bool (!t_4))) hF hS (ex_pick_f rfl rfl hc2) rfl rfl fun a hF => ?_
      refine q_end (n_jn ?_)
      obtain rfl := someI hj1
      exact ⟨hF.sub ⟨rfl, rfl, rfl, rfl, trivial⟩, hS⟩
    · have hj1 := cond_t hc2 hj1
      refine q_skip hF (wanted_f hF rfl rfl rfl hc2 rfl) rfl fun a hF => ?_
      refine q_skip hF (wanted_f hF rfl rfl rfl hc2 rfl) rfl fun a hF => ?_
      refine q_skip hF (wanted_f hF rfl rfl rfl hc2 rfl) rfl fun a hF => ?_
      refine q_x (v := (.bool true)) hF hS (ex_pick_t rfl rfl hc2) rfl rfl fun a hF => ?_
      refine q_end (n_jn ?_)
      obtain rfl := someI hj1
      exact ⟨hF.sub ⟨rfl, rfl, rfl, rfl, trivial⟩, hS⟩
  · rintro a w ⟨hF, hS⟩
    refine n_sq ?_
    rcases hc3 : (t_5) with _ | _
    · have hr := cond_f hc3 hr
      refine q_cond_f hF rfl hc3 ?_
      refine q_skipc (n_sq ?_)
      refine q_seq ?_
      refine q_region ?_
      refine q_x (v := (.agg #[(.int .i64 p_a.Num), (.int .i64 p_a.Den)])) hF hS (ex_loadA (vs := [(.int .i64 p_a.Num), (.int .i64 p_a.Den)]) 1 0 Try.underlying26 rfl sz26 rfl rfl rfl rfl) rfl rfl fun a hF => ?_
      refine q_x (v := (.int .i64 p_k)) hF hS (ex_move rfl) rfl rfl fun a hF => ?_
      obtain ⟨t_6, ht_6, hr⟩ := bindS hr
      refine q_call (vs := [(.agg #[(.int .i64 p_a.Num), (.int .i64 p_a.Den)]), (.int .i64 p_k)]) hF hS Try.func87 (by kernel_rfl) rfl rfl rfl (c_spec_zMass p_a p_k t_6 ht_6 _ m hS.vis) ?_
      rintro a w _ rfl hF hS
      refine q_x (v := (.agg #[(.int .i64 t_6.1.Num), (.int .i64 t_6.1.Den)])) hF hS (ex_extract rfl rfl) rfl rfl fun a hF => ?_
      refine q_x (v := (.bool t_6.2)) hF hS (ex_extract rfl rfl) rfl rfl fun a hF => ?_
      refine q_store (vs := [(.int .i64 t_6.1.Num), (.int .i64 t_6.1.Den)]) (cs' := [(.int .i64 t_6.1.Num), (.int .i64 t_6.1.Den)]) 0 0 hF hS sz26 rfl rfl rfl rfl rfl rfl rfl rfl fun a w hF hS => ?_
      refine q_x (v := (.bool t_6.2)) hF hS (ex_assign rfl) rfl rfl fun a hF => ?_
      refine q_end (n_sq (q_ret ?_))
      obtain rfl := someI hr
      exact ret_of hF hS rfl (.cellA (us := [(.int .i64 t_6.1.Num), (.int .i64 t_6.1.Den)]) 0 0 Try.underlying26 rfl sz26 rfl rfl rfl rfl (.tmp rfl .nil)) rfl
    · have hr := cond_t hc3 hr
      refine q_cond_t hF rfl hc3 ?_
      refine q_seq ?_
      refine q_region ?_
      refine q_x (v := (.agg #[(.int .i64 0), (.int .i64 0)])) hF hS (ex_build (cells := [(.int .i64 0), (.int .i64 0)]) rfl (by kernel_rfl)) rfl rfl fun a hF => ?_
      refine q_store (vs := [(.int .i64 0), (.int .i64 0)]) (cs' := [(.int .i64 0), (.int .i64 0)]) 0 0 hF hS sz26 rfl rfl rfl rfl rfl rfl rfl rfl fun a w hF hS => ?_
      refine q_x (v := (.bool false)) hF hS (ex_assign rfl) rfl rfl fun a hF => ?_
      refine q_end (n_sq (q_ret (r_sq ?_)))
      obtain rfl := someI hr
      exact ret_of hF hS rfl (.cellA (us := [(.int .i64 0), (.int .i64 0)]) 0 0 Try.underlying26 rfl sz26 rfl rfl rfl rfl (.tmp rfl .nil)) rfl

theorem c_impl_isRatio (p_a : impl_Frac) (r : Bool) (hr : impl_isRatio p_a = some r) (w0 : World) (m : Mem) (hv : Vis m w0) :
    Ret Try.prog 88 [(.agg #[(.int .i64 p_a.Num), (.int .i64 p_a.Den)])] w0 (fun v _ => v = (.bool r)) := by
  unfold impl_isRatio at hr
  refine ret_start Try.func88 rfl 17 rfl rfl m hv fun a hF hS => ?_
  refine q_seq ?_
  refine q_region ?_
  refine q_box (cs := [(.int .i64 p_a.Num), (.int .i64 p_a.Den)]) hF hS rfl rfl rfl fun a w b1 hF hS => ?_
  refine q_x (v := (.bool false)) hF hS (ex_assign rfl) rfl rfl fun a hF => ?_
  refine q_end (n_sq ?_)
  refine q_seq ?_
  obtain ⟨t_3, hj1, hr⟩ := bindS hr
  refine q_join (fun a w => Fr a 17 [(2, (.bool t_3))] ∧ St [] w0 w m []) ?_ ?_
  · refine q_region ?_
    refine q_x (v := (.agg #[(.int .i64 p_a.Num), (.int .i64 p_a.Den)])) hF hS (ex_loadA (vs := [(.int .i64 p_a.Num), (.int .i64 p_a.Den)]) 0 0 Try.underlying26 rfl sz26 rfl rfl rfl rfl) rfl rfl fun a hF => ?_
    obtain ⟨t_2, ht_2, hj1⟩ := bindS hj1
    refine q_call (vs := [(.agg #[(.int .i64 p_a.Num), (.int .i64 p_a.Den)])]) hF hS Try.func99 (by kernel_rfl) rfl rfl rfl (c_impl_IsFrac p_a t_2 ht_2 _ m hS.vis) ?_
    rintro a w _ rfl hF hS
    refine q_x (v := (.bool t_2)) hF hS (ex_move rfl) rfl rfl fun a hF => ?_
    rcases hc2 : (t_2) with _ | _
    · have hj1 := cond_f hc2 hj1
      refine q_skip hF (wanted_f hF rfl rfl rfl hc2 rfl) rfl fun a hF => ?_
      refine q_skip hF (wanted_f hF rfl rfl rfl hc2 rfl) rfl fun a hF => ?_
      refine q_skip hF (wanted_f hF rfl rfl rfl hc2 rfl) rfl fun a hF => ?_
      refine q_x (v := (.bool false)) hF hS (ex_pick_f rfl rfl hc2) rfl rfl fun a hF => ?_
      refine q_x (v := (.bool false)) hF hS (ex_move rfl) rfl rfl fun a hF => ?_
      refine q_skip hF (wanted_f hF rfl rfl rfl rfl rfl) rfl fun a hF => ?_
      refine q_skip hF (wanted_f hF rfl rfl rfl rfl rfl) rfl fun a hF => ?_
      refine q_skip hF (wanted_f hF rfl rfl rfl rfl rfl) rfl fun a hF => ?_
      refine q_skip hF (wanted_f hF rfl rfl rfl rfl rfl) rfl fun a hF => ?_
      refine q_skip hF (wanted_f hF rfl rfl rfl rfl rfl) rfl fun a hF => ?_
      refine q_x (v := (.bool false)) hF hS (ex_pick_f rfl rfl rfl) rfl rfl fun a hF => ?_
      refine q_x (v := (.bool false)) hF hS (ex_assign rfl) rfl rfl fun a hF => ?_
      refine q_end (n_jn ?_)
      obtain rfl := someI hj1
      exact ⟨hF.sub ⟨rfl, trivial⟩, hS.mask [false]⟩
    · have hj1 := cond_t hc2 hj1
      refine q_xg (v := (.pointer (some ⟨b1, 0, none⟩))) hF hS (ex_fieldAddr Try.underlying26 rfl sz3 rfl rfl) (wanted_t hF rfl rfl rfl hc2) rfl fun a hF => ?_
      refine q_xg (v := (.int .i64 p_a.Num)) hF hS (ex_load1 0 0 Try.underlying3 rfl rfl rfl rfl) (wanted_t hF rfl rfl rfl hc2) rfl fun a hF => ?_
      refine q_xg (v := (.bool (decide (0 < p_a.Num)))) hF hS (ex_ibin rfl rfl rfl) (wanted_t hF rfl rfl rfl hc2) rfl fun a hF => ?_
      refine q_x (v := (.bool (decide (0 < p_a.Num)))) hF hS (ex_pick_t rfl rfl hc2) rfl rfl fun a hF => ?_
      refine q_x (v := (.bool (decide (0 < p_a.Num)))) hF hS (ex_move rfl) rfl rfl fun a hF => ?_
      rcases hc3 : (decide (0 < p_a.Num)) with _ | _
      · have hj1 := cond_f hc3 hj1
        refine q_skip hF (wanted_f hF rfl rfl rfl hc3 rfl) rfl fun a hF => ?_
        refine q_skip hF (wanted_f hF rfl rfl rfl hc3 rfl) rfl fun a hF => ?_
        refine q_skip hF (wanted_f hF rfl rfl rfl hc3 rfl) rfl fun a hF => ?_
        refine q_skip hF (wanted_f hF rfl rfl rfl hc3 rfl) rfl fun a hF => ?_
        refine q_skip hF (wanted_f hF rfl rfl rfl hc3 rfl) rfl fun a hF => ?_
        refine q_x (v := (.bool false)) hF hS (ex_pick_f rfl rfl hc3) rfl rfl fun a hF => ?_
        refine q_x (v := (.bool false)) hF hS (ex_assign rfl) rfl rfl fun a hF => ?_
        refine q_end (n_jn ?_)
        obtain rfl := someI hj1
        exact ⟨hF.sub ⟨rfl, trivial⟩, hS.mask [false]⟩
      · have hj1 := cond_t hc3 hj1
        refine q_xg (v := (.pointer (some ⟨b1, 0, none⟩))) hF hS (ex_fieldAddr Try.underlying26 rfl sz3 rfl rfl) (wanted_t hF rfl rfl rfl hc3) rfl fun a hF => ?_
        refine q_xg (v := (.int .i64 p_a.Num)) hF hS (ex_load1 0 0 Try.underlying3 rfl rfl rfl rfl) (wanted_t hF rfl rfl rfl hc3) rfl fun a hF => ?_
        refine q_xg (v := (.pointer (some ⟨b1, 1, none⟩))) hF hS (ex_fieldAddr Try.underlying26 rfl sz3 rfl rfl) (wanted_t hF rfl rfl rfl hc3) rfl fun a hF => ?_
        refine q_xg (v := (.int .i64 p_a.Den)) hF hS (ex_load1 0 0 Try.underlying3 rfl rfl rfl rfl) (wanted_t hF rfl rfl rfl hc3) rfl fun a hF => ?_
        refine q_xg (v := (.bool (decide (p_a.Num < p_a.Den)))) hF hS (ex_ibin rfl rfl rfl) (wanted_t hF rfl rfl rfl hc3) rfl fun a hF => ?_
        refine q_x (v := (.bool (decide (p_a.Num < p_a.Den)))) hF hS (ex_pick_t rfl rfl hc3) rfl rfl fun a hF => ?_
        refine q_x (v := (.bool (decide (p_a.Num < p_a.Den)))) hF hS (ex_assign rfl) rfl rfl fun a hF => ?_
        refine q_end (n_jn ?_)
        obtain rfl := someI hj1
        exact ⟨hF.sub ⟨rfl, trivial⟩, hS.mask [false]⟩
  · rintro a w ⟨hF, hS⟩
    refine n_sq (q_ret ?_)
    obtain rfl := someI hr
    exact ret_of hF hS rfl (.tmp rfl .nil) rfl

theorem c_impl_AddFrac (p_a : impl_Frac) (p_b : impl_Frac) (r : impl_Frac × Bool) (hr : impl_AddFrac p_a p_b = some r) (w0 : World) (m : Mem) (hv : Vis m w0) :
    Ret Try.prog 122 [(.agg #[(.int .i64 p_a.Num), (.int .i64 p_a.Den)]), (.agg #[(.int .i64 p_b.Num), (.int .i64 p_b.Den)])] w0 (fun v _ => v = (.tuple #[(.agg #[(.int .i64 r.1.Num), (.int .i64 r.1.Den)]), (.bool r.2)])) := by
  unfold impl_AddFrac at hr
  refine ret_start Try.func122 rfl 34 rfl rfl m hv fun a hF hS => ?_
  refine q_seq ?_
  refine q_region ?_
  refine q_box (cs := [(.int .i64 p_a.Num), (.int .i64 p_a.Den)]) hF hS rfl rfl rfl fun a w b1 hF hS => ?_
  refine q_box (cs := [(.int .i64 p_b.Num), (.int .i64 p_b.Den)]) hF hS rfl rfl rfl fun a w b2 hF hS => ?_
  refine q_alloc (cs := [(.int .i64 0), (.int .i64 0)]) hF hS rfl rfl rfl fun a w b3 hF hS => ?_
  refine q_x (v := (.bool false)) hF hS (ex_assign rfl) rfl rfl fun a hF => ?_
  refine q_end (n_sq ?_)
  refine q_seq ?_
  refine q_seq ?_
  obtain ⟨t_6, hj1, hr⟩ := bindS hr
  refine q_join (fun a w => Fr a 34 [(2, (.pointer (some ⟨b1, 0, none⟩))), (3, (.pointer (some ⟨b2, 0, none⟩))), (4, (.pointer (some ⟨b3, 0, none⟩))), (13, (.bool t_6))] ∧ St [] w0 w m [[⟨b3, [(.int .i64 0), (.int .i64 0)], 26⟩], [⟨b2, [(.int .i64 p_b.Num), (.int .i64 p_b.Den)], 26⟩], [⟨b1, [(.int .i64 p_a.Num), (.int .i64 p_a.Den)], 26⟩]]) ?_ ?_
  · refine q_region ?_
    refine q_x (v := (.agg #[(.int .i64 p_a.Num), (.int .i64 p_a.Den)])) hF hS (ex_loadA (vs := [(.int .i64 p_a.Num), (.int .i64 p_a.Den)]) 2 0 Try.underlying26 rfl sz26 rfl rfl rfl rfl) rfl rfl fun a hF => ?_
    obtain ⟨t_4, ht_4, hj1⟩ := bindS hj1
    refine q_call (vs := [(.agg #[(.int .i64 p_a.Num), (.int .i64 p_a.Den)])]) hF hS Try.func99 (by kernel_rfl) rfl rfl rfl (c_impl_IsFrac p_a t_4 ht_4 _ m hS.vis) ?_
    rintro a w _ rfl hF hS
    refine q_x (v := (.bool (!t_4))) hF hS (ex_not rfl) rfl rfl fun a hF => ?_
    refine q_x (v := (.bool (!t_4))) hF hS (ex_move rfl) rfl rfl fun a hF => ?_
    rcases hc2 : (!t_4) with _ | _
    · have hj1 := cond_f hc2 hj1
      refine q_xg (v := (.agg #[(.int .i64 p_b.Num), (.int .i64 p_b.Den)])) hF hS (ex_loadA (vs := [(.int .i64 p_b.Num), (.int .i64 p_b.Den)]) 1 0 Try.underlying26 rfl sz26 rfl rfl rfl rfl) (wanted_t hF rfl rfl rfl hc2) rfl fun a hF => ?_
      obtain ⟨t_5, ht_5, hj1⟩ := bindS hj1
      refine q_callg (vs := [(.agg #[(.int .i64 p_b.Num), (.int .i64 p_b.Den)])]) hF hS (wanted_t hF rfl rfl rfl hc2) Try.func99 (by kernel_rfl) rfl rfl rfl (c_impl_IsFrac p_b t_5 ht_5 _ m hS.vis) ?_
      rintro a w _ rfl hF hS
      refine q_xg (v := (.bool (!t_5))) hF hS (ex_not rfl) (wanted_t hF rfl rfl rfl hc2) rfl fun a hF => ?_
      refine q_x (v := (.bool (!t_5))) hF hS (ex_pick_f rfl rfl hc2) rfl rfl fun a hF => ?_
      refine q_end (n_jn ?_)
      obtain rfl := someI hj1
      exact ⟨hF.sub ⟨rfl, rfl, rfl, rfl, trivial⟩, hS⟩
    · have hj1 := cond_t hc2 hj1
      refine q_skip hF (wanted_f hF rfl rfl rfl hc2 rfl) rfl fun a hF => ?_
      refine q_skip hF (wanted_f hF rfl rfl rfl hc2 rfl) rfl fun a hF => ?_
      refine q_skip hF (wanted_f hF rfl rfl rfl hc2 rfl) rfl fun a hF => ?_
      refine q_x (v := (.bool true)) hF hS (ex_pick_t rfl rfl hc2) rfl rfl fun a hF => ?_
      refine q_end (n_jn ?_)
      obtain rfl := someI hj1
      exact ⟨hF.sub ⟨rfl, rfl, rfl, rfl, trivial⟩, hS⟩
  · rintro a w ⟨hF, hS⟩
    refine n_sq ?_
    rcases hc3 : (t_6) with _ | _
    · have hr := cond_f hc3 hr
      refine q_cond_f hF rfl hc3 ?_
      refine q_skipc (n_sq ?_)
      refine q_seq ?_
      refine q_region ?_
      refine q_x (v := (.pointer (some ⟨b1, 0, none⟩))) hF hS (ex_fieldAddr Try.underlying26 rfl sz3 rfl rfl) rfl rfl fun a hF => ?_
      refine q_x (v := (.int .i64 p_a.Num)) hF hS (ex_load1 2 0 Try.underlying3 rfl rfl rfl rfl) rfl rfl fun a hF => ?_
      refine q_x (v := (.pointer (some ⟨b2, 1, none⟩))) hF hS (ex_fieldAddr Try.underlying26 rfl sz3 rfl rfl) rfl rfl fun a hF => ?_
      refine q_x (v := (.int .i64 p_b.Den)) hF hS (ex_load1 1 0 Try.underlying3 rfl rfl rfl rfl) rfl rfl fun a hF => ?_
      refine q_x (v := (.int .i64 (w64 (p_a.Num * p_b.Den)))) hF hS (ex_ibin rfl rfl rfl) rfl rfl fun a hF => ?_
      refine q_x (v := (.pointer (some ⟨b2, 0, none⟩))) hF hS (ex_fieldAddr Try.underlying26 rfl sz3 rfl rfl) rfl rfl fun a hF => ?_
      refine q_x (v := (.int .i64 p_b.Num)) hF hS (ex_load1 1 0 Try.underlying3 rfl rfl rfl rfl) rfl rfl fun a hF => ?_
      refine q_x (v := (.pointer (some ⟨b1, 1, none⟩))) hF hS (ex_fieldAddr Try.underlying26 rfl sz3 rfl rfl) rfl rfl fun a hF => ?_
      refine q_x (v := (.int .i64 p_a.Den)) hF hS (ex_load1 2 0 Try.underlying3 rfl rfl rfl rfl) rfl rfl fun a hF => ?_
      refine q_x (v := (.int .i64 (w64 (p_b.Num * p_a.Den)))) hF hS (ex_ibin rfl rfl rfl) rfl rfl fun a hF => ?_
      refine q_x (v := (.int .i64 (w64 ((w64 (p_a.Num * p_b.Den)) + (w64 (p_b.Num * p_a.Den)))))) hF hS (ex_ibin rfl rfl rfl) rfl rfl fun a hF => ?_
      refine q_x (v := (.pointer (some ⟨b1, 1, none⟩))) hF hS (ex_fieldAddr Try.underlying26 rfl sz3 rfl rfl) rfl rfl fun a hF => ?_
      refine q_x (v := (.int .i64 p_a.Den)) hF hS (ex_load1 2 0 Try.underlying3 rfl rfl rfl rfl) rfl rfl fun a hF => ?_
      refine q_x (v := (.pointer (some ⟨b2, 1, none⟩))) hF hS (ex_fieldAddr Try.underlying26 rfl sz3 rfl rfl) rfl rfl fun a hF => ?_
      refine q_x (v := (.int .i64 p_b.Den)) hF hS (ex_load1 1 0 Try.underlying3 rfl rfl rfl rfl) rfl rfl fun a hF => ?_
      refine q_x (v := (.int .i64 (w64 (p_a.Den * p_b.Den)))) hF hS (ex_ibin rfl rfl rfl) rfl rfl fun a hF => ?_
      obtain ⟨t_7, ht_7, hr⟩ := bindS hr
      refine q_call (vs := [(.int .i64 (w64 ((w64 (p_a.Num * p_b.Den)) + (w64 (p_b.Num * p_a.Den))))), (.int .i64 (w64 (p_a.Den * p_b.Den)))]) hF hS Try.func106 (by kernel_rfl) rfl rfl rfl (c_impl_reduced (w64 ((w64 (p_a.Num * p_b.Den)) + (w64 (p_b.Num * p_a.Den)))) (w64 (p_a.Den * p_b.Den)) t_7 ht_7 _ m hS.vis) ?_
      rintro a w _ rfl hF hS
      refine q_x (v := (.agg #[(.int .i64 t_7.1.Num), (.int .i64 t_7.1.Den)])) hF hS (ex_extract rfl rfl) rfl rfl fun a hF => ?_
      refine q_x (v := (.bool t_7.2)) hF hS (ex_extract rfl rfl) rfl rfl fun a hF => ?_
      refine q_store (vs := [(.int .i64 t_7.1.Num), (.int .i64 t_7.1.Den)]) (cs' := [(.int .i64 t_7.1.Num), (.int .i64 t_7.1.Den)]) 0 0 hF hS sz26 rfl rfl rfl rfl rfl rfl rfl rfl fun a w hF hS => ?_
      refine q_x (v := (.bool t_7.2)) hF hS (ex_assign rfl) rfl rfl fun a hF => ?_
      refine q_end (n_sq (q_ret ?_))
      obtain rfl := someI hr
      exact ret_of hF hS rfl (.cellA (us := [(.int .i64 t_7.1.Num), (.int .i64 t_7.1.Den)]) 0 0 Try.underlying26 rfl sz26 rfl rfl rfl rfl (.tmp rfl .nil)) rfl
    · have hr := cond_t hc3 hr
      refine q_cond_t hF rfl hc3 ?_
      refine q_seq ?_
      refine q_region ?_
      refine q_x (v := (.agg #[(.int .i64 0), (.int .i64 0)])) hF hS (ex_build (cells := [(.int .i64 0), (.int .i64 0)]) rfl (by kernel_rfl)) rfl rfl fun a hF => ?_
      refine q_store (vs := [(.int .i64 0), (.int .i64 0)]) (cs' := [(.int .i64 0), (.int .i64 0)]) 0 0 hF hS sz26 rfl rfl rfl rfl rfl rfl rfl rfl fun a w hF hS => ?_
      refine q_x (v := (.bool false)) hF hS (ex_assign rfl) rfl rfl fun a hF => ?_
      refine q_end (n_sq (q_ret (r_sq ?_)))
      obtain rfl := someI hr
      exact ret_of hF hS rfl (.cellA (us := [(.int .i64 0), (.int .i64 0)]) 0 0 Try.underlying26 rfl sz26 rfl rfl rfl rfl (.tmp rfl .nil)) rfl

theorem c_impl_moreOne (p_a : impl_Frac) (r : impl_Frac × Bool) (hr : impl_moreOne p_a = some r) (w0 : World) (m : Mem) (hv : Vis m w0) :
    Ret Try.prog 136 [(.agg #[(.int .i64 p_a.Num), (.int .i64 p_a.Den)])] w0 (fun v _ => v = (.tuple #[(.agg #[(.int .i64 r.1.Num), (.int .i64 r.1.Den)]), (.bool r.2)])) := by
  unfold impl_moreOne at hr
  refine ret_start Try.func136 rfl 9 rfl rfl m hv fun a hF hS => ?_
  refine q_seq ?_
  refine q_region ?_
  refine q_box (cs := [(.int .i64 p_a.Num), (.int .i64 p_a.Den)]) hF hS rfl rfl rfl fun a w b1 hF hS => ?_
  refine q_alloc (cs := [(.int .i64 0), (.int .i64 0)]) hF hS rfl rfl rfl fun a w b2 hF hS => ?_
  refine q_x (v := (.bool false)) hF hS (ex_assign rfl) rfl rfl fun a hF => ?_
  refine q_end (n_sq ?_)
  refine q_seq ?_
  refine q_region ?_
  refine q_x (v := (.agg #[(.int .i64 1), (.int .i64 1)])) hF hS (ex_build (cells := [(.int .i64 1), (.int .i64 1)]) rfl (by kernel_rfl)) rfl rfl fun a hF => ?_
  refine q_x (v := (.agg #[(.int .i64 p_a.Num), (.int .i64 p_a.Den)])) hF hS (ex_loadA (vs := [(.int .i64 p_a.Num), (.int .i64 p_a.Den)]) 1 0 Try.underlying26 rfl sz26 rfl rfl rfl rfl) rfl rfl fun a hF => ?_
  obtain ⟨t_3, ht_3, hr⟩ := bindS hr
  refine q_call (vs := [(.agg #[(.int .i64 1), (.int .i64 1)]), (.agg #[(.int .i64 p_a.Num), (.int .i64 p_a.Den)])]) hF hS Try.func122 (by kernel_rfl) rfl rfl rfl (c_impl_AddFrac (impl_Frac.mk 1 1) p_a t_3 ht_3 _ m hS.vis) ?_
  rintro a w _ rfl hF hS
  refine q_x (v := (.agg #[(.int .i64 t_3.1.Num), (.int .i64 t_3.1.Den)])) hF hS (ex_extract rfl rfl) rfl rfl fun a hF => ?_
  refine q_x (v := (.bool t_3.2)) hF hS (ex_extract rfl rfl) rfl rfl fun a hF => ?_
  refine q_store (vs := [(.int .i64 t_3.1.Num), (.int .i64 t_3.1.Den)]) (cs' := [(.int .i64 t_3.1.Num), (.int .i64 t_3.1.Den)]) 0 0 hF hS sz26 rfl rfl rfl rfl rfl rfl rfl rfl fun a w hF hS => ?_
  refine q_x (v := (.bool t_3.2)) hF hS (ex_assign rfl) rfl rfl fun a hF => ?_
  refine q_end (n_sq (q_ret ?_))
  obtain rfl := someI hr
  exact ret_of hF hS rfl (.cellA (us := [(.int .i64 t_3.1.Num), (.int .i64 t_3.1.Den)]) 0 0 Try.underlying26 rfl sz26 rfl rfl rfl rfl (.tmp rfl .nil)) rfl

theorem c_impl_lessOne (p_a : impl_Frac) (r : impl_Frac) (hr : impl_lessOne p_a = some r) (w0 : World) (m : Mem) (hv : Vis m w0) :
    Ret Try.prog 137 [(.agg #[(.int .i64 p_a.Num), (.int .i64 p_a.Den)])] w0 (fun v _ => v = (.agg #[(.int .i64 r.Num), (.int .i64 r.Den)])) := by
  unfold impl_lessOne at hr
  refine ret_start Try.func137 rfl 11 rfl rfl m hv fun a hF hS => ?_
  refine q_seq ?_
  refine q_region ?_
  refine q_box (cs := [(.int .i64 p_a.Num), (.int .i64 p_a.Den)]) hF hS rfl rfl rfl fun a w b1 hF hS => ?_
  refine q_alloc (cs := [(.int .i64 0), (.int .i64 0)]) hF hS rfl rfl rfl fun a w b2 hF hS => ?_
  refine q_end (n_sq ?_)
  refine q_seq ?_
  refine q_region ?_
  refine q_x (v := (.pointer (some ⟨b1, 1, none⟩))) hF hS (ex_fieldAddr Try.underlying26 rfl sz3 rfl rfl) rfl rfl fun a hF => ?_
  refine q_x (v := (.int .i64 p_a.Den)) hF hS (ex_load1 1 0 Try.underlying3 rfl rfl rfl rfl) rfl rfl fun a hF => ?_
  refine q_x (v := (.pointer (some ⟨b1, 0, none⟩))) hF hS (ex_fieldAddr Try.underlying26 rfl sz3 rfl rfl) rfl rfl fun a hF => ?_
  refine q_x (v := (.int .i64 p_a.Num)) hF hS (ex_load1 1 0 Try.underlying3 rfl rfl rfl rfl) rfl rfl fun a hF => ?_
  refine q_x (v := (.int .i64 (w64 (p_a.Den - p_a.Num)))) hF hS (ex_ibin rfl rfl rfl) rfl rfl fun a hF => ?_
  refine q_x (v := (.pointer (some ⟨b1, 1, none⟩))) hF hS (ex_fieldAddr Try.underlying26 rfl sz3 rfl rfl) rfl rfl fun a hF => ?_
  refine q_x (v := (.int .i64 p_a.Den)) hF hS (ex_load1 1 0 Try.underlying3 rfl rfl rfl rfl) rfl rfl fun a hF => ?_
  refine q_x (v := (.agg #[(.int .i64 (w64 (p_a.Den - p_a.Num))), (.int .i64 p_a.Den)])) hF hS (ex_build (cells := [(.int .i64 (w64 (p_a.Den - p_a.Num))), (.int .i64 p_a.Den)]) rfl (by kernel_rfl)) rfl rfl fun a hF => ?_
  refine q_store (vs := [(.int .i64 (w64 (p_a.Den - p_a.Num))), (.int .i64 p_a.Den)]) (cs' := [(.int .i64 (w64 (p_a.Den - p_a.Num))), (.int .i64 p_a.Den)]) 0 0 hF hS sz26 rfl rfl rfl rfl rfl rfl rfl rfl fun a w hF hS => ?_
  refine q_end (n_sq (q_ret ?_))
  obtain rfl := someI hr
  exact ret_of hF hS rfl (.cellA (us := [(.int .i64 (w64 (p_a.Den - p_a.Num))), (.int .i64 p_a.Den)]) 0 0 Try.underlying26 rfl sz26 rfl rfl rfl rfl .nil) rfl

theorem c_impl_MulFrac (p_a : impl_Frac) (p_b : impl_Frac) (r : impl_Frac × Bool) (hr : impl_MulFrac p_a p_b = some r) (w0 : World) (m : Mem) (hv : Vis m w0) :
    Ret Try.prog 101 [(.agg #[(.int .i64 p_a.Num), (.int .i64 p_a.Den)]), (.agg #[(.int .i64 p_b.Num), (.int .i64 p_b.Den)])] w0 (fun v _ => v = (.tuple #[(.agg #[(.int .i64 r.1.Num), (.int .i64 r.1.Den)]), (.bool r.2)])) := by
  unfold impl_MulFrac at hr
  refine ret_start Try.func101 rfl 28 rfl rfl m hv fun a hF hS => ?_
  refine q_seq ?_
  refine q_region ?_
  refine q_box (cs := [(.int .i64 p_a.Num), (.int .i64 p_a.Den)]) hF hS rfl rfl rfl fun a w b1 hF hS => ?_
  refine q_box (cs := [(.int .i64 p_b.Num), (.int .i64 p_b.Den)]) hF hS rfl rfl rfl fun a w b2 hF hS => ?_
  refine q_alloc (cs := [(.int .i64 0), (.int .i64 0)]) hF hS rfl rfl rfl fun a w b3 hF hS => ?_
  refine q_x (v := (.bool false)) hF hS (ex_assign rfl) rfl rfl fun a hF => ?_
  refine q_end (n_sq ?_)
  refine q_seq ?_
  refine q_seq ?_
  obtain ⟨t_6, hj1, hr⟩ := bindS hr
  refine q_join (fun a w => Fr a 28 [(2, (.pointer (some ⟨b1, 0, none⟩))), (3, (.pointer (some ⟨b2, 0, none⟩))), (4, (.pointer (some ⟨b3, 0, none⟩))), (13, (.bool t_6))] ∧ St [] w0 w m [[⟨b3, [(.int .i64 0), (.int .i64 0)], 26⟩], [⟨b2, [(.int .i64 p_b.Num), (.int .i64 p_b.Den)], 26⟩], [⟨b1, [(.int .i64 p_a.Num), (.int .i64 p_a.Den)], 26⟩]]) ?_ ?_
  · refine q_region ?_
    refine q_x (v := (.agg #[(.int .i64 p_a.Num), (.int .i64 p_a.Den)])) hF hS (ex_loadA (vs := [(.int .i64 p_a.Num), (.int .i64 p_a.Den)]) 2 0 Try.underlying26 rfl sz26 rfl rfl rfl rfl) rfl rfl fun a hF => ?_
    obtain ⟨t_4, ht_4, hj1⟩ := bindS hj1
    refine q_call (vs := [(.agg #[(.int .i64 p_a.Num), (.int .i64 p_a.Den)])]) hF hS Try.func99 (by kernel_rfl) rfl rfl rfl (c_impl_IsFrac p_a t_4 ht_4 _ m hS.vis) ?_
    rintro a w _ rfl hF hS
    refine q_x (v := (.bool (!t_4))) hF hS (ex_not rfl) rfl rfl fun a hF => ?_
    refine q_x (v := (.bool (!t_4))) hF hS (ex_move rfl) rfl rfl fun a hF => ?_
    rcases hc2 : (!t_4) with _ | _
    · have hj1 := cond_f hc2 hj1
      refine q_xg (v := (.agg #[(.int .i64 p_b.Num), (.int .i64 p_b.Den)])) hF hS (ex_loadA (vs := [(.int .i64 p_b.Num), (.int .i64 p_b.Den)]) 1 0 Try.underlying26 rfl sz26 rfl rfl rfl rfl) (wanted_t hF rfl rfl rfl hc2) rfl fun a hF => ?_
      obtain ⟨t_5, ht_5, hj1⟩ := bindS hj1
      refine q_callg (vs := [(.agg #[(.int .i64 p_b.Num), (.int .i64 p_b.Den)])]) hF hS (wanted_t hF rfl rfl rfl hc2) Try.func99 (by kernel_rfl) rfl rfl rfl (c_impl_IsFrac p_b t_5 ht_5 _ m hS.vis) ?_
      rintro a w _ rfl hF hS
      refine q_xg (v := (.bool (!t_5))) hF hS (ex_not rfl) (wanted_t hF rfl rfl rfl hc2) rfl fun a hF => ?_
      refine q_x (v := (.bool (!t_5))) hF hS (ex_pick_f rfl rfl hc2) rfl rfl fun a hF => ?_
      refine q_end (n_jn ?_)
      obtain rfl := someI hj1
      exact ⟨hF.sub ⟨rfl, rfl, rfl, rfl, trivial⟩, hS⟩
    · have hj1 := cond_t hc2 hj1
      refine q_skip hF (wanted_f hF rfl rfl rfl hc2 rfl) rfl fun a hF => ?_
      refine q_skip hF (wanted_f hF rfl rfl rfl hc2 rfl) rfl fun a hF => ?_
      refine q_skip hF (wanted_f hF rfl rfl rfl hc2 rfl) rfl fun a hF => ?_
      refine q_x (v := (.bool true)) hF hS (ex_pick_t rfl rfl hc2) rfl rfl fun a hF => ?_
      refine q_end (n_jn ?_)
      obtain rfl := someI hj1
      exact ⟨hF.sub ⟨rfl, rfl, rfl, rfl, trivial⟩, hS⟩
  · rintro a w ⟨hF, hS⟩
    refine n_sq ?_
    rcases hc3 : (t_6) with _ | _
    · have hr := cond_f hc3 hr
      refine q_cond_f hF rfl hc3 ?_
      refine q_skipc (n_sq ?_)
      refine q_seq ?_
      refine q_region ?_
      refine q_x (v := (.pointer (some ⟨b1, 0, none⟩))) hF hS (ex_fieldAddr Try.underlying26 rfl sz3 rfl rfl) rfl rfl fun a hF => ?_
      refine q_x (v := (.int .i64 p_a.Num)) hF hS (ex_load1 2 0 Try.underlying3 rfl rfl rfl rfl) rfl rfl fun a hF => ?_
      refine q_x (v := (.pointer (some ⟨b2, 0, none⟩))) hF hS (ex_fieldAddr Try.underlying26 rfl sz3 rfl rfl) rfl rfl fun a hF => ?_
      refine q_x (v := (.int .i64 p_b.Num)) hF hS (ex_load1 1 0 Try.underlying3 rfl rfl rfl rfl) rfl rfl fun a hF => ?_
      refine q_x (v := (.int .i64 (w64 (p_a.Num * p_b.Num)))) hF hS (ex_ibin rfl rfl rfl) rfl rfl fun a hF => ?_
      refine q_x (v := (.pointer (some ⟨b1, 1, none⟩))) hF hS (ex_fieldAddr Try.underlying26 rfl sz3 rfl rfl) rfl rfl fun a hF => ?_
      refine q_x (v := (.int .i64 p_a.Den)) hF hS (ex_load1 2 0 Try.underlying3 rfl rfl rfl rfl) rfl rfl fun a hF => ?_
      refine q_x (v := (.pointer (some ⟨b2, 1, none⟩))) hF hS (ex_fieldAddr Try.underlying26 rfl sz3 rfl rfl) rfl rfl fun a hF => ?_
      refine q_x (v := (.int .i64 p_b.Den)) hF hS (ex_load1 1 0 Try.underlying3 rfl rfl rfl rfl) rfl rfl fun a hF => ?_
      refine q_x (v := (.int .i64 (w64 (p_a.Den * p_b.Den)))) hF hS (ex_ibin rfl rfl rfl) rfl rfl fun a hF => ?_
      obtain ⟨t_7, ht_7, hr⟩ := bindS hr
      refine q_call (vs := [(.int .i64 (w64 (p_a.Num * p_b.Num))), (.int .i64 (w64 (p_a.Den * p_b.Den)))]) hF hS Try.func106 (by kernel_rfl) rfl rfl rfl (c_impl_reduced (w64 (p_a.Num * p_b.Num)) (w64 (p_a.Den * p_b.Den)) t_7 ht_7 _ m hS.vis) ?_
      rintro a w _ rfl hF hS
      refine q_x (v := (.agg #[(.int .i64 t_7.1.Num), (.int .i64 t_7.1.Den)])) hF hS (ex_extract rfl rfl) rfl rfl fun a hF => ?_
      refine q_x (v := (.bool t_7.2)) hF hS (ex_extract rfl rfl) rfl rfl fun a hF => ?_
      refine q_store (vs := [(.int .i64 t_7.1.Num), (.int .i64 t_7.1.Den)]) (cs' := [(.int .i64 t_7.1.Num), (.int .i64 t_7.1.Den)]) 0 0 hF hS sz26 rfl rfl rfl rfl rfl rfl rfl rfl fun a w hF hS => ?_
      refine q_x (v := (.bool t_7.2)) hF hS (ex_assign rfl) rfl rfl fun a hF => ?_
      refine q_end (n_sq (q_ret ?_))
      obtain rfl := someI hr
      exact ret_of hF hS rfl (.cellA (us := [(.int .i64 t_7.1.Num), (.int .i64 t_7.1.Den)]) 0 0 Try.underlying26 rfl sz26 rfl rfl rfl rfl (.tmp rfl .nil)) rfl
    · have hr := cond_t hc3 hr
      refine q_cond_t hF rfl hc3 ?_
      refine q_seq ?_
      refine q_region ?_
      refine q_x (v := (.agg #[(.int .i64 0), (.int .i64 0)])) hF hS (ex_build (cells := [(.int .i64 0), (.int .i64 0)]) rfl (by kernel_rfl)) rfl rfl fun a hF => ?_
      refine q_store (vs := [(.int .i64 0), (.int .i64 0)]) (cs' := [(.int .i64 0), (.int .i64 0)]) 0 0 hF hS sz26 rfl rfl rfl rfl rfl rfl rfl rfl fun a w hF hS => ?_
      refine q_x (v := (.bool false)) hF hS (ex_assign rfl) rfl rfl fun a hF => ?_
      refine q_end (n_sq (q_ret (r_sq ?_)))
      obtain rfl := someI hr
      exact ret_of hF hS rfl (.cellA (us := [(.int .i64 0), (.int .i64 0)]) 0 0 Try.underlying26 rfl sz26 rfl rfl rfl rfl (.tmp rfl .nil)) rfl

theorem c_impl_PowFrac (p_f : impl_Frac) (p_k : Int) (r : impl_Frac × Bool) (hr : impl_PowFrac p_f p_k = some r) (w0 : World) (m : Mem) (hv : Vis m w0) :
    Ret Try.prog 113 [(.agg #[(.int .i64 p_f.Num), (.int .i64 p_f.Den)]), (.int .i64 p_k)] w0 (fun v _ => v = (.tuple #[(.agg #[(.int .i64 r.1.Num), (.int .i64 r.1.Den)]), (.bool r.2)])) := by
  unfold impl_PowFrac at hr
  refine ret_start Try.func113 rfl 37 rfl rfl m hv fun a hF hS => ?_
  refine q_seq ?_
  refine q_region ?_
  refine q_box (cs := [(.int .i64 p_f.Num), (.int .i64 p_f.Den)]) hF hS rfl rfl rfl fun a w b1 hF hS => ?_
  refine q_alloc (cs := [(.int .i64 0), (.int .i64 0)]) hF hS rfl rfl rfl fun a w b2 hF hS => ?_
  refine q_x (v := (.bool false)) hF hS (ex_assign rfl) rfl rfl fun a hF => ?_
  refine q_end (n_sq ?_)
  refine q_seq ?_
  refine q_seq ?_
  obtain ⟨t_4, hj1, hr⟩ := bindS hr
  refine q_join (fun a w => Fr a 37 [(1, (.int .i64 p_k)), (2, (.pointer (some ⟨b1, 0, none⟩))), (4, (.pointer (some ⟨b2, 0, none⟩))), (19, (.bool t_4))] ∧ St [] w0 w m [[⟨b2, [(.int .i64 0), (.int .i64 0)], 26⟩], [⟨b1, [(.int .i64 p_f.Num), (.int .i64 p_f.Den)], 26⟩]]) ?_ ?_
  · refine q_region ?_
    refine q_x (v := (.agg #[(.int .i64 p_f.Num), (.int .i64 p_f.Den)])) hF hS (ex_loadA (vs := [(.int .i64 p_f.Num), (.int .i64 p_f.Den)]) 1 0 Try.underlying26 rfl sz26 rfl rfl rfl rfl) rfl rfl fun a hF => ?_
    obtain ⟨t_3, ht_3, hj1⟩ := bindS hj1
    refine q_call (vs := [(.agg #[(.int .i64 p_f.Num), (.int .i64 p_f.Den)])]) hF hS Try.func99 (by kernel_rfl) rfl rfl rfl (c_impl_IsFrac p_f t_3 ht_3 _ m hS.vis) ?_
    rintro a w _ rfl hF hS
    refine q_x (v := (.bool (!t_3))) hF hS (ex_not rfl) rfl rfl fun a hF => ?_
    refine q_x (v := (.bool (!t_3))) hF hS (ex_move rfl) rfl rfl fun a hF => ?_
    rcases hc2 : (!t_3) with _ | _
    · have hj1 := cond_f hc2 hj1
      refine q_xg (v := (.int .i64 p_k)) hF hS (ex_move rfl) (wanted_t hF rfl rfl rfl hc2) rfl fun a hF => ?_
      refine q_xg (v := (.bool (decide (p_k < 0)))) hF hS (ex_ibin rfl rfl rfl) (wanted_t hF rfl rfl rfl hc2) rfl fun a hF => ?_
      refine q_x (v := (.bool (decide (p_k < 0)))) hF hS (ex_pick_f rfl rfl hc2) rfl rfl fun a hF => ?_
      refine q_x (v := (.bool (decide (p_k < 0)))) hF hS (ex_move rfl) rfl rfl fun a hF => ?_
      rcases hc3 : (decide (p_k < 0)) with _ | _
      · have hj1 := cond_f hc3 hj1
        refine q_xg (v := (.int .i64 p_k)) hF hS (ex_move rfl) (wanted_t hF rfl rfl rfl hc3) rfl fun a hF => ?_
        refine q_xg (v := (.bool (decide (60 < p_k)))) hF hS (ex_ibin rfl rfl rfl) (wanted_t hF rfl rfl rfl hc3) rfl fun a hF => ?_
        refine q_x (v := (.bool (decide (60 < p_k)))) hF hS (ex_pick_f rfl rfl hc3) rfl rfl fun a hF => ?_
        refine q_end (n_jn ?_)
        obtain rfl := someI hj1
        exact ⟨hF.sub ⟨rfl, rfl, rfl, rfl, trivial⟩, hS⟩
      · have hj1 := cond_t hc3 hj1
        refine q_skip hF (wanted_f hF rfl rfl rfl hc3 rfl) rfl fun a hF => ?_
        refine q_skip hF (wanted_f hF rfl rfl rfl hc3 rfl) rfl fun a hF => ?_
        refine q_x (v := (.bool true)) hF hS (ex_pick_t rfl rfl hc3) rfl rfl fun a hF => ?_
        refine q_end (n_jn ?_)
        obtain rfl := someI hj1
        exact ⟨hF.sub ⟨rfl, rfl, rfl, rfl, trivial⟩, hS⟩
    · have hj1 := cond_t hc2 hj1
      refine q_skip hF (wanted_f hF rfl rfl rfl hc2 rfl) rfl fun a hF => ?_
      refine q_skip hF (wanted_f hF rfl rfl rfl hc2 rfl) rfl fun a hF => ?_
      refine q_x (v := (.bool true)) hF hS (ex_pick_t rfl rfl hc2) rfl rfl fun a hF => ?_
      refine q_x (v := (.bool true)) hF hS (ex_move rfl) rfl rfl fun a hF => ?_
      refine q_skip hF (wanted_f hF rfl rfl rfl rfl rfl) rfl fun a hF => ?_
      refine q_skip hF (wanted_f hF rfl rfl rfl rfl rfl) rfl fun a hF => ?_
      refine q_x (v := (.bool true)) hF hS (ex_pick_t rfl rfl rfl) rfl rfl fun a hF => ?_
      refine q_end (n_jn ?_)
      obtain rfl := someI hj1
      exact ⟨hF.sub ⟨rfl, rfl, rfl, rfl, trivial⟩, hS⟩
  · rintro a w ⟨hF, hS⟩
    refine n_sq ?_
    rcases hc4 : (t_4) with _ | _
    · have hr := cond_f hc4 hr
      refine q_cond_f hF rfl hc4 ?_
      refine q_skipc (n_sq ?_)
      refine q_seq ?_
      refine q_region ?_
      refine q_x (v := (.agg #[(.int .i64 1), (.int .i64 1)])) hF hS (ex_build (cells := [(.int .i64 1), (.int .i64 1)]) rfl (by kernel_rfl)) rfl rfl fun a hF => ?_
      refine q_alloc (cs := [(.int .i64 0), (.int .i64 0)]) hF hS rfl rfl rfl fun a w b5 hF hS => ?_
      refine q_store (vs := [(.int .i64 1), (.int .i64 1)]) (cs' := [(.int .i64 1), (.int .i64 1)]) 0 0 hF hS sz26 rfl rfl rfl rfl rfl rfl rfl rfl fun a w hF hS => ?_
      refine q_end (n_sq ?_)
      refine q_seq ?_
      refine q_seq ?_
      refine q_region ?_
      refine q_x (v := (.int .i64 p_k)) hF hS (ex_move rfl) rfl rfl fun a hF => ?_
      refine q_x (v := (.int .i64 0)) hF hS (ex_move rfl) rfl rfl fun a hF => ?_
      refine q_end (n_sq ?_)
      refine q_block ?_
      obtain ⟨o5, hl5, hr⟩ := bindS hr
      refine q_loop (fun (s : Int × impl_Frac) a w => ∃ t_6, ∃ p_7, s = (t_6, p_7) ∧ Fr a 37 [(2, (.pointer (some ⟨b1, 0, none⟩))), (4, (.pointer (some ⟨b2, 0, none⟩))), (6, (.pointer (some ⟨b5, 0, none⟩))), (22, (.int .i64 p_k)), (23, (.int .i64 t_6))] ∧ St [] w0 w m [[⟨b5, [(.int .i64 p_7.Num), (.int .i64 p_7.Den)], 26⟩], [⟨b2, [(.int .i64 0), (.int .i64 0)], 26⟩], [⟨b1, [(.int .i64 p_f.Num), (.int .i64 p_f.Den)], 26⟩]]) (fun (o : (impl_Frac) ⊕ (impl_Frac × Bool)) e a w => ∃ p_10, o = .inl p_10 ∧ e = .exit 0 ∧ Fr a 37 [(4, (.pointer (some ⟨b2, 0, none⟩))), (6, (.pointer (some ⟨b5, 0, none⟩)))] ∧ St [] w0 w m [[⟨b5, [(.int .i64 p_10.Num), (.int .i64 p_10.Den)], 26⟩], [⟨b2, [(.int .i64 0), (.int .i64 0)], 26⟩]]) hl5 ⟨_, _, rfl, hF.sub ⟨rfl, rfl, rfl, rfl, rfl, trivial⟩, hS⟩ ?_ ?_
      · clear hF hS
        rintro s a w st ⟨t_6, p_7, rfl, hF, hS⟩ hb5
        unfold impl_PowFrac_l1 at hb5
        refine q_seq ?_
        refine q_region ?_
        refine q_x (v := (.bool (decide (t_6 < p_k)))) hF hS (ex_ibin rfl rfl rfl) rfl rfl fun a hF => ?_
        refine q_end (n_sq ?_)
        refine q_seq ?_
        rcases hc6 : (decide (t_6 < p_k)) with _ | _
        · have hb5 := cond_f hc6 hb5
          refine q_cond_f hF rfl hc6 ?_
          refine q_exit (x_sq ?_)
          obtain rfl := someI hb5
          exact ⟨nofun, .inl ⟨_, rfl, rfl, hF.sub ⟨rfl, rfl, trivial⟩, hS.mask [true, true, false]⟩⟩
        · have hb5 := cond_t hc6 hb5
          refine q_cond_t hF rfl hc6 ?_
          refine q_skipc (n_sq ?_)
          refine q_seq ?_
          refine q_block ?_
          refine q_seq ?_
          refine q_region ?_
          refine q_x (v := (.agg #[(.int .i64 p_7.Num), (.int .i64 p_7.Den)])) hF hS (ex_loadA (vs := [(.int .i64 p_7.Num), (.int .i64 p_7.Den)]) 0 0 Try.underlying26 rfl sz26 rfl rfl rfl rfl) rfl rfl fun a hF => ?_
          refine q_x (v := (.agg #[(.int .i64 p_f.Num), (.int .i64 p_f.Den)])) hF hS (ex_loadA (vs := [(.int .i64 p_f.Num), (.int .i64 p_f.Den)]) 2 0 Try.underlying26 rfl sz26 rfl rfl rfl rfl) rfl rfl fun a hF => ?_
          obtain ⟨t_8, ht_8, hb5⟩ := bindS hb5
          refine q_call (vs := [(.agg #[(.int .i64 p_7.Num), (.int .i64 p_7.Den)]), (.agg #[(.int .i64 p_f.Num), (.int .i64 p_f.Den)])]) hF hS Try.func101 (by kernel_rfl) rfl rfl rfl (c_impl_MulFrac p_7 p_f t_8 ht_8 _ m hS.vis) ?_
          rintro a w _ rfl hF hS
          refine q_x (v := (.tuple #[(.agg #[(.int .i64 t_8.1.Num), (.int .i64 t_8.1.Den)]), (.bool t_8.2)])) hF hS (ex_move rfl) rfl rfl fun a hF => ?_
          refine q_x (v := (.agg #[(.int .i64 t_8.1.Num), (.int .i64 t_8.1.Den)])) hF hS (ex_extract rfl rfl) rfl rfl fun a hF => ?_
          refine q_x (v := (.bool t_8.2)) hF hS (ex_extract rfl rfl) rfl rfl fun a hF => ?_
          refine q_alloc (cs := [(.int .i64 0), (.int .i64 0)]) hF hS rfl rfl rfl fun a w b9 hF hS => ?_
          refine q_store (vs := [(.int .i64 t_8.1.Num), (.int .i64 t_8.1.Den)]) (cs' := [(.int .i64 t_8.1.Num), (.int .i64 t_8.1.Den)]) 0 0 hF hS sz26 rfl rfl rfl rfl rfl rfl rfl rfl fun a w hF hS => ?_
          refine q_x (v := (.bool t_8.2)) hF hS (ex_assign rfl) rfl rfl fun a hF => ?_
          refine q_end (n_sq ?_)
          refine q_seq ?_
          refine q_seq ?_
          refine q_region ?_
          refine q_x (v := (.bool t_8.2)) hF hS (ex_move rfl) rfl rfl fun a hF => ?_
          refine q_x (v := (.bool (!t_8.2))) hF hS (ex_not rfl) rfl rfl fun a hF => ?_
          refine q_end (n_sq ?_)
          rcases hc7 : (!t_8.2) with _ | _
          · have hb5 := cond_f hc7 hb5
            refine q_cond_f hF rfl hc7 ?_
            refine q_skipc (n_sq ?_)
            refine q_region ?_
            refine q_x (v := (.agg #[(.int .i64 t_8.1.Num), (.int .i64 t_8.1.Den)])) hF hS (ex_loadA (vs := [(.int .i64 t_8.1.Num), (.int .i64 t_8.1.Den)]) 0 0 Try.underlying26 rfl sz26 rfl rfl rfl rfl) rfl rfl fun a hF => ?_
            refine q_store (vs := [(.int .i64 t_8.1.Num), (.int .i64 t_8.1.Den)]) (cs' := [(.int .i64 t_8.1.Num), (.int .i64 t_8.1.Den)]) 1 0 hF hS sz26 rfl rfl rfl rfl rfl rfl rfl rfl fun a w hF hS => ?_
            refine q_end (n_ib (n_sq ?_))
            refine q_region ?_
            refine q_x (v := (.int .i64 (w64 (t_6 + 1)))) hF hS (ex_ibin rfl rfl rfl) rfl rfl fun a hF => ?_
            refine q_x (v := (.int .i64 (w64 (t_6 + 1)))) hF hS (ex_move rfl) rfl rfl fun a hF => ?_
            refine q_end ?_
            obtain rfl := someI hb5
            exact ⟨rfl, _, _, rfl, hF.sub ⟨rfl, rfl, rfl, rfl, rfl, trivial⟩, hS.mask [false, true, true, true]⟩
          · have hb5 := cond_t hc7 hb5
            refine q_cond_t hF rfl hc7 ?_
            refine q_seq ?_
            refine q_region ?_
            refine q_x (v := (.agg #[(.int .i64 0), (.int .i64 0)])) hF hS (ex_build (cells := [(.int .i64 0), (.int .i64 0)]) rfl (by kernel_rfl)) rfl rfl fun a hF => ?_
            refine q_store (vs := [(.int .i64 0), (.int .i64 0)]) (cs' := [(.int .i64 0), (.int .i64 0)]) 2 0 hF hS sz26 rfl rfl rfl rfl rfl rfl rfl rfl fun a w hF hS => ?_
            refine q_x (v := (.bool false)) hF hS (ex_assign rfl) rfl rfl fun a hF => ?_
            refine q_end (n_sq (q_ret (r_sq (r_ib (r_sq ?_)))))
            obtain rfl := someI hb5
            refine ⟨nofun, .inr fun ho => ?_⟩
            subst ho
            refine r_ib (r_sq ?_)
            obtain rfl := someI hr
            exact ret_of hF hS rfl (.cellA (us := [(.int .i64 0), (.int .i64 0)]) 2 0 Try.underlying26 rfl sz26 rfl rfl rfl rfl (.tmp rfl .nil)) rfl
      · rintro e a w ⟨p_10, rfl, rfl, hF, hS⟩
        refine x_ib (n_sq ?_)
        refine q_seq ?_
        refine q_region ?_
        refine q_x (v := (.agg #[(.int .i64 p_10.Num), (.int .i64 p_10.Den)])) hF hS (ex_loadA (vs := [(.int .i64 p_10.Num), (.int .i64 p_10.Den)]) 0 0 Try.underlying26 rfl sz26 rfl rfl rfl rfl) rfl rfl fun a hF => ?_
        refine q_store (vs := [(.int .i64 p_10.Num), (.int .i64 p_10.Den)]) (cs' := [(.int .i64 p_10.Num), (.int .i64 p_10.Den)]) 1 0 hF hS sz26 rfl rfl rfl rfl rfl rfl rfl rfl fun a w hF hS => ?_
        refine q_x (v := (.bool true)) hF hS (ex_assign rfl) rfl rfl fun a hF => ?_
        refine q_end (n_sq (q_ret ?_))
        obtain rfl := someI hr
        exact ret_of hF hS rfl (.cellA (us := [(.int .i64 p_10.Num), (.int .i64 p_10.Den)]) 1 0 Try.underlying26 rfl sz26 rfl rfl rfl rfl (.tmp rfl .nil)) rfl
    · have hr := cond_t hc4 hr
      refine q_cond_t hF rfl hc4 ?_
      refine q_seq ?_
      refine q_region ?_
      refine q_x (v := (.agg #[(.int .i64 0), (.int .i64 0)])) hF hS (ex_build (cells := [(.int .i64 0), (.int .i64 0)]) rfl (by kernel_rfl)) rfl rfl fun a hF => ?_
      refine q_store (vs := [(.int .i64 0), (.int .i64 0)]) (cs' := [(.int .i64 0), (.int .i64 0)]) 0 0 hF hS sz26 rfl rfl rfl rfl rfl rfl rfl rfl fun a w hF hS => ?_
      refine q_x (v := (.bool false)) hF hS (ex_assign rfl) rfl rfl fun a hF => ?_
      refine q_end (n_sq (q_ret (r_sq ?_)))
      obtain rfl := someI hr
      exact ret_of hF hS rfl (.cellA (us := [(.int .i64 0), (.int .i64 0)]) 0 0 Try.underlying26 rfl sz26 rfl rfl rfl rfl (.tmp rfl .nil)) rfl

theorem c_impl_geoMass (p_a : impl_Frac) (p_k : Int) (r : impl_Frac × Bool) (hr : impl_geoMass p_a p_k = some r) (w0 : World) (m : Mem) (hv : Vis m w0) :
    Ret Try.prog 89 [(.agg #[(.int .i64 p_a.Num), (.int .i64 p_a.Den)]), (.int .i64 p_k)] w0 (fun v _ => v = (.tuple #[(.agg #[(.int .i64 r.1.Num), (.int .i64 r.1.Den)]), (.bool r.2)])) := by
  unfold impl_geoMass at hr
  refine ret_start Try.func89 rfl 42 rfl rfl m hv fun a hF hS => ?_
  refine q_seq ?_
  refine q_region ?_
  refine q_box (cs := [(.int .i64 p_a.Num), (.int .i64 p_a.Den)]) hF hS rfl rfl rfl fun a w b1 hF hS => ?_
  refine q_alloc (cs := [(.int .i64 0), (.int .i64 0)]) hF hS rfl rfl rfl fun a w b2 hF hS => ?_
  refine q_x (v := (.bool false)) hF hS (ex_assign rfl) rfl rfl fun a hF => ?_
  refine q_end (n_sq ?_)
  refine q_seq ?_
  refine q_region ?_
  refine q_x (v := (.agg #[(.int .i64 p_a.Num), (.int .i64 p_a.Den)])) hF hS (ex_loadA (vs := [(.int .i64 p_a.Num), (.int .i64 p_a.Den)]) 1 0 Try.underlying26 rfl sz26 rfl rfl rfl rfl) rfl rfl fun a hF => ?_
  obtain ⟨t_3, ht_3, hr⟩ := bindS hr
  refine q_call (vs := [(.agg #[(.int .i64 p_a.Num), (.int .i64 p_a.Den)])]) hF hS Try.func136 (by kernel_rfl) rfl rfl rfl (c_impl_moreOne p_a t_3 ht_3 _ m hS.vis) ?_
  rintro a w _ rfl hF hS
  refine q_x (v := (.tuple #[(.agg #[(.int .i64 t_3.1.Num), (.int .i64 t_3.1.Den)]), (.bool t_3.2)])) hF hS (ex_move rfl) rfl rfl fun a hF => ?_
  refine q_x (v := (.agg #[(.int .i64 t_3.1.Num), (.int .i64 t_3.1.Den)])) hF hS (ex_extract rfl rfl) rfl rfl fun a hF => ?_
  refine q_x (v := (.bool t_3.2)) hF hS (ex_extract rfl rfl) rfl rfl fun a hF => ?_
  refine q_alloc (cs := [(.int .i64 0), (.int .i64 0)]) hF hS rfl rfl rfl fun a w b4 hF hS => ?_
  refine q_store (vs := [(.int .i64 t_3.1.Num), (.int .i64 t_3.1.Den)]) (cs' := [(.int .i64 t_3.1.Num), (.int .i64 t_3.1.Den)]) 0 0 hF hS sz26 rfl rfl rfl rfl rfl rfl rfl rfl fun a w hF hS => ?_
  refine q_x (v := (.bool t_3.2)) hF hS (ex_assign rfl) rfl rfl fun a hF => ?_
  refine q_end (n_sq ?_)
  refine q_seq ?_
  refine q_seq ?_
  refine q_region ?_
  refine q_x (v := (.bool t_3.2)) hF hS (ex_move rfl) rfl rfl fun a hF => ?_
  refine q_x (v := (.bool (!t_3.2))) hF hS (ex_not rfl) rfl rfl fun a hF => ?_
  refine q_end (n_sq ?_)
  rcases hc1 : (!t_3.2) with _ | _
  · have hr := cond_f hc1 hr
    refine q_cond_f hF rfl hc1 ?_
    refine q_skipc (n_sq ?_)
    refine q_seq ?_
    obtain ⟨j2, hj2, hr⟩ := bindS hr
    refine q_join (fun a w => ∃ b9, ∃ ok_10, ∃ c_11, j2 = (ok_10, c_11) ∧ Fr a 42 [(1, (.int .i64 p_k)), (2, (.pointer (some ⟨b1, 0, none⟩))), (4, (.pointer (some ⟨b2, 0, none⟩))), (7, (.bool ok_10)), (8, (.pointer (some ⟨b9, 0, none⟩)))] ∧ St [] w0 w m [[⟨b9, [(.int .i64 c_11.Num), (.int .i64 c_11.Den)], 26⟩], [⟨b2, [(.int .i64 0), (.int .i64 0)], 26⟩], [⟨b1, [(.int .i64 p_a.Num), (.int .i64 p_a.Den)], 26⟩]]) ?_ ?_
    · refine e_region [8] mixed fun w' hw' => ?_
      have hS := hS.below hw'
      refine e_x (v := (.agg #[(.int .i64 p_a.Num), (.int .i64 p_a.Den)])) 0 hF hS rfl (ex_loadA (vs := [(.int .i64 p_a.Num), (.int .i64 p_a.Den)]) 2 0 Try.underlying26 rfl sz26 rfl rfl rfl rfl) rfl rfl (by kernel_rfl) (by kernel_rfl) (by kernel_rfl) (by kernel_rfl) fun a hF => ?_
      refine e_x (v := (.agg #[(.int .i64 t_3.1.Num), (.int .i64 t_3.1.Den)])) 2 hF hS rfl (ex_loadA (vs := [(.int .i64 t_3.1.Num), (.int .i64 t_3.1.Den)]) 0 0 Try.underlying26 rfl sz26 rfl rfl rfl rfl) rfl rfl (by kernel_rfl) (by kernel_rfl) (by kernel_rfl) (by kernel_rfl) fun a hF => ?_
      obtain ⟨t_7, ht_7, hj2⟩ := bindS hj2
      obtain ⟨t_8, ht_8, hj2⟩ := bindS hj2
      refine e_all [1, 7] (by kernel_rfl) rfl ⟨?_, ?_, trivial⟩
      · refine e_call (vs := [(.agg #[(.int .i64 p_a.Num), (.int .i64 p_a.Den)])]) hF hS rfl Try.func137 (by kernel_rfl) rfl rfl rfl (c_impl_lessOne p_a t_7 ht_7 _ m hS.vis) ?_
        rintro a w _ rfl hF hS
        refine e_all [3, 7] (by kernel_rfl) rfl ⟨?_, ?_, trivial⟩
        · refine e_call (vs := [(.agg #[(.int .i64 t_7.Num), (.int .i64 t_7.Den)]), (.agg #[(.int .i64 t_3.1.Num), (.int .i64 t_3.1.Den)])]) hF hS rfl Try.func75 (by kernel_rfl) rfl rfl rfl (c_impl_DivFrac t_7 t_3.1 t_8 ht_8 _ m hS.vis) ?_
          rintro a w _ rfl hF hS
          refine e_p (v := (.tuple #[(.agg #[(.int .i64 t_8.1.Num), (.int .i64 t_8.1.Den)]), (.bool t_8.2)])) 4 hF rfl (ex_move rfl) rfl rfl (by kernel_rfl) (by kernel_rfl) (by kernel_rfl) fun a hF => ?_
          refine e_p (v := (.agg #[(.int .i64 t_8.1.Num), (.int .i64 t_8.1.Den)])) 5 hF rfl (ex_extract rfl rfl) rfl rfl (by kernel_rfl) (by kernel_rfl) (by kernel_rfl) fun a hF => ?_
          refine e_p (v := (.bool t_8.2)) 6 hF rfl (ex_extract rfl rfl) rfl rfl (by kernel_rfl) (by kernel_rfl) (by kernel_rfl) fun a hF => ?_
          refine e_one 7 (by kernel_rfl) ?_
          refine e_alloc (cs := [(.int .i64 0), (.int .i64 0)]) hF hS rfl rfl rfl rfl fun a w b9 hF hS => ?_
          refine e_one 8 (by kernel_rfl) ?_
          refine e_store (vs := [(.int .i64 t_8.1.Num), (.int .i64 t_8.1.Den)]) (cs' := [(.int .i64 t_8.1.Num), (.int .i64 t_8.1.Den)]) 0 0 hF hS rfl rfl sz26 rfl rfl rfl rfl rfl rfl rfl rfl fun a w hF hS => ?_
          refine e_p (v := (.bool t_8.2)) 9 hF rfl (ex_assign rfl) rfl rfl (by kernel_rfl) (by kernel_rfl) (by kernel_rfl) fun a hF => ?_
          refine e_end (by kernel_rfl) (n_jn ?_) _
          obtain rfl := someI hj2
          exact ⟨b9, _, _, rfl, hF.sub ⟨rfl, rfl, rfl, rfl, rfl, trivial⟩, hS.mask [true, false, true, true]⟩
        · refine e_alloc (cs := [(.int .i64 0), (.int .i64 0)]) hF hS rfl rfl rfl rfl fun a w b9 hF hS => ?_
          refine e_one 3 (by kernel_rfl) ?_
          refine e_call (vs := [(.agg #[(.int .i64 t_7.Num), (.int .i64 t_7.Den)]), (.agg #[(.int .i64 t_3.1.Num), (.int .i64 t_3.1.Den)])]) hF hS rfl Try.func75 (by kernel_rfl) rfl rfl rfl (c_impl_DivFrac t_7 t_3.1 t_8 ht_8 _ m hS.vis) ?_
          rintro a w _ rfl hF hS
          refine e_p (v := (.tuple #[(.agg #[(.int .i64 t_8.1.Num), (.int .i64 t_8.1.Den)]), (.bool t_8.2)])) 4 hF rfl (ex_move rfl) rfl rfl (by kernel_rfl) (by kernel_rfl) (by kernel_rfl) fun a hF => ?_
          refine e_p (v := (.agg #[(.int .i64 t_8.1.Num), (.int .i64 t_8.1.Den)])) 5 hF rfl (ex_extract rfl rfl) rfl rfl (by kernel_rfl) (by kernel_rfl) (by kernel_rfl) fun a hF => ?_
          refine e_p (v := (.bool t_8.2)) 6 hF rfl (ex_extract rfl rfl) rfl rfl (by kernel_rfl) (by kernel_rfl) (by kernel_rfl) fun a hF => ?_
          refine e_one 8 (by kernel_rfl) ?_
          refine e_store (vs := [(.int .i64 t_8.1.Num), (.int .i64 t_8.1.Den)]) (cs' := [(.int .i64 t_8.1.Num), (.int .i64 t_8.1.Den)]) 0 0 hF hS rfl rfl sz26 rfl rfl rfl rfl rfl rfl rfl rfl fun a w hF hS => ?_
          refine e_p (v := (.bool t_8.2)) 9 hF rfl (ex_assign rfl) rfl rfl (by kernel_rfl) (by kernel_rfl) (by kernel_rfl) fun a hF => ?_
          refine e_end (by kernel_rfl) (n_jn ?_) _
          obtain rfl := someI hj2
          exact ⟨b9, _, _, rfl, hF.sub ⟨rfl, rfl, rfl, rfl, rfl, trivial⟩, hS.mask [true, false, true, true]⟩
      · refine e_alloc (cs := [(.int .i64 0), (.int .i64 0)]) hF hS rfl rfl rfl rfl fun a w b9 hF hS => ?_
        refine e_one 1 (by kernel_rfl) ?_
        refine e_call (vs := [(.agg #[(.int .i64 p_a.Num), (.int .i64 p_a.Den)])]) hF hS rfl Try.func137 (by kernel_rfl) rfl rfl rfl (c_impl_lessOne p_a t_7 ht_7 _ m hS.vis) ?_
        rintro a w _ rfl hF hS
        refine e_one 3 (by kernel_rfl) ?_
        refine e_call (vs := [(.agg #[(.int .i64 t_7.Num), (.int .i64 t_7.Den)]), (.agg #[(.int .i64 t_3.1.Num), (.int .i64 t_3.1.Den)])]) hF hS rfl Try.func75 (by kernel_rfl) rfl rfl rfl (c_impl_DivFrac t_7 t_3.1 t_8 ht_8 _ m hS.vis) ?_
        rintro a w _ rfl hF hS
        refine e_p (v := (.tuple #[(.agg #[(.int .i64 t_8.1.Num), (.int .i64 t_8.1.Den)]), (.bool t_8.2)])) 4 hF rfl (ex_move rfl) rfl rfl (by kernel_rfl) (by kernel_rfl) (by kernel_rfl) fun a hF => ?_
        refine e_p (v := (.agg #[(.int .i64 t_8.1.Num), (.int .i64 t_8.1.Den)])) 5 hF rfl (ex_extract rfl rfl) rfl rfl (by kernel_rfl) (by kernel_rfl) (by kernel_rfl) fun a hF => ?_
        refine e_p (v := (.bool t_8.2)) 6 hF rfl (ex_extract rfl rfl) rfl rfl (by kernel_rfl) (by kernel_rfl) (by kernel_rfl) fun a hF => ?_
        refine e_one 8 (by kernel_rfl) ?_
        refine e_store (vs := [(.int .i64 t_8.1.Num), (.int .i64 t_8.1.Den)]) (cs' := [(.int .i64 t_8.1.Num), (.int .i64 t_8.1.Den)]) 0 0 hF hS rfl rfl sz26 rfl rfl rfl rfl rfl rfl rfl rfl fun a w hF hS => ?_
        refine e_p (v := (.bool t_8.2)) 9 hF rfl (ex_assign rfl) rfl rfl (by kernel_rfl) (by kernel_rfl) (by kernel_rfl) fun a hF => ?_
        refine e_end (by kernel_rfl) (n_jn ?_) _
        obtain rfl := someI hj2
        exact ⟨b9, _, _, rfl, hF.sub ⟨rfl, rfl, rfl, rfl, rfl, trivial⟩, hS.mask [true, false, true, true]⟩
    · rintro a w ⟨b9, ok_10, c_11, rfl, hF, hS⟩
      refine n_sq ?_
      refine q_seq ?_
      refine q_seq ?_
      refine q_region ?_
      refine q_x (v := (.bool ok_10)) hF hS (ex_move rfl) rfl rfl fun a hF => ?_
      refine q_x (v := (.bool (!ok_10))) hF hS (ex_not rfl) rfl rfl fun a hF => ?_
      refine q_end (n_sq ?_)
      rcases hc3 : (!ok_10) with _ | _
      · have hr := cond_f hc3 hr
        refine q_cond_f hF rfl hc3 ?_
        refine q_skipc (n_sq ?_)
        refine q_seq ?_
        refine q_region ?_
        refine q_x (v := (.agg #[(.int .i64 p_a.Num), (.int .i64 p_a.Den)])) hF hS (ex_loadA (vs := [(.int .i64 p_a.Num), (.int .i64 p_a.Den)]) 2 0 Try.underlying26 rfl sz26 rfl rfl rfl rfl) rfl rfl fun a hF => ?_
        refine q_x (v := (.int .i64 p_k)) hF hS (ex_move rfl) rfl rfl fun a hF => ?_
        obtain ⟨t_12, ht_12, hr⟩ := bindS hr
        refine q_call (vs := [(.agg #[(.int .i64 p_a.Num), (.int .i64 p_a.Den)]), (.int .i64 p_k)]) hF hS Try.func113 (by kernel_rfl) rfl rfl rfl (c_impl_PowFrac p_a p_k t_12 ht_12 _ m hS.vis) ?_
        rintro a w _ rfl hF hS
        refine q_x (v := (.tuple #[(.agg #[(.int .i64 t_12.1.Num), (.int .i64 t_12.1.Den)]), (.bool t_12.2)])) hF hS (ex_move rfl) rfl rfl fun a hF => ?_
        refine q_x (v := (.agg #[(.int .i64 t_12.1.Num), (.int .i64 t_12.1.Den)])) hF hS (ex_extract rfl rfl) rfl rfl fun a hF => ?_
        refine q_x (v := (.bool t_12.2)) hF hS (ex_extract rfl rfl) rfl rfl fun a hF => ?_
        refine q_alloc (cs := [(.int .i64 0), (.int .i64 0)]) hF hS rfl rfl rfl fun a w b13 hF hS => ?_
        refine q_store (vs := [(.int .i64 t_12.1.Num), (.int .i64 t_12.1.Den)]) (cs' := [(.int .i64 t_12.1.Num), (.int .i64 t_12.1.Den)]) 0 0 hF hS sz26 rfl rfl rfl rfl rfl rfl rfl rfl fun a w hF hS => ?_
        refine q_x (v := (.bool t_12.2)) hF hS (ex_assign rfl) rfl rfl fun a hF => ?_
        refine q_end (n_sq ?_)
        refine q_seq ?_
        refine q_seq ?_
        refine q_region ?_
        refine q_x (v := (.bool t_12.2)) hF hS (ex_move rfl) rfl rfl fun a hF => ?_
        refine q_x (v := (.bool (!t_12.2))) hF hS (ex_not rfl) rfl rfl fun a hF => ?_
        refine q_end (n_sq ?_)
        rcases hc4 : (!t_12.2) with _ | _
        · have hr := cond_f hc4 hr
          refine q_cond_f hF rfl hc4 ?_
          refine q_skipc (n_sq ?_)
          refine q_seq ?_
          refine q_region ?_
          refine q_x (v := (.agg #[(.int .i64 c_11.Num), (.int .i64 c_11.Den)])) hF hS (ex_loadA (vs := [(.int .i64 c_11.Num), (.int .i64 c_11.Den)]) 1 0 Try.underlying26 rfl sz26 rfl rfl rfl rfl) rfl rfl fun a hF => ?_
          refine q_x (v := (.agg #[(.int .i64 t_12.1.Num), (.int .i64 t_12.1.Den)])) hF hS (ex_loadA (vs := [(.int .i64 t_12.1.Num), (.int .i64 t_12.1.Den)]) 0 0 Try.underlying26 rfl sz26 rfl rfl rfl rfl) rfl rfl fun a hF => ?_
          obtain ⟨t_14, ht_14, hr⟩ := bindS hr
          refine q_call (vs := [(.agg #[(.int .i64 c_11.Num), (.int .i64 c_11.Den)]), (.agg #[(.int .i64 t_12.1.Num), (.int .i64 t_12.1.Den)])]) hF hS Try.func101 (by kernel_rfl) rfl rfl rfl (c_impl_MulFrac c_11 t_12.1 t_14 ht_14 _ m hS.vis) ?_
          rintro a w _ rfl hF hS
          refine q_x (v := (.agg #[(.int .i64 t_14.1.Num), (.int .i64 t_14.1.Den)])) hF hS (ex_extract rfl rfl) rfl rfl fun a hF => ?_
          refine q_x (v := (.bool t_14.2)) hF hS (ex_extract rfl rfl) rfl rfl fun a hF => ?_
          refine q_store (vs := [(.int .i64 t_14.1.Num), (.int .i64 t_14.1.Den)]) (cs' := [(.int .i64 t_14.1.Num), (.int .i64 t_14.1.Den)]) 2 0 hF hS sz26 rfl rfl rfl rfl rfl rfl rfl rfl fun a w hF hS => ?_
          refine q_x (v := (.bool t_14.2)) hF hS (ex_assign rfl) rfl rfl fun a hF => ?_
          refine q_end (n_sq (q_ret ?_))
          obtain rfl := someI hr
          exact ret_of hF hS rfl (.cellA (us := [(.int .i64 t_14.1.Num), (.int .i64 t_14.1.Den)]) 2 0 Try.underlying26 rfl sz26 rfl rfl rfl rfl (.tmp rfl .nil)) rfl
        · have hr := cond_t hc4 hr
          refine q_cond_t hF rfl hc4 ?_
          refine q_seq ?_
          refine q_region ?_
          refine q_x (v := (.agg #[(.int .i64 0), (.int .i64 0)])) hF hS (ex_build (cells := [(.int .i64 0), (.int .i64 0)]) rfl (by kernel_rfl)) rfl rfl fun a hF => ?_
          refine q_store (vs := [(.int .i64 0), (.int .i64 0)]) (cs' := [(.int .i64 0), (.int .i64 0)]) 2 0 hF hS sz26 rfl rfl rfl rfl rfl rfl rfl rfl fun a w hF hS => ?_
          refine q_x (v := (.bool false)) hF hS (ex_assign rfl) rfl rfl fun a hF => ?_
          refine q_end (n_sq (q_ret (r_sq ?_)))
          obtain rfl := someI hr
          exact ret_of hF hS rfl (.cellA (us := [(.int .i64 0), (.int .i64 0)]) 2 0 Try.underlying26 rfl sz26 rfl rfl rfl rfl (.tmp rfl .nil)) rfl
      · have hr := cond_t hc3 hr
        refine q_cond_t hF rfl hc3 ?_
        refine q_seq ?_
        refine q_region ?_
        refine q_x (v := (.agg #[(.int .i64 0), (.int .i64 0)])) hF hS (ex_build (cells := [(.int .i64 0), (.int .i64 0)]) rfl (by kernel_rfl)) rfl rfl fun a hF => ?_
        refine q_store (vs := [(.int .i64 0), (.int .i64 0)]) (cs' := [(.int .i64 0), (.int .i64 0)]) 1 0 hF hS sz26 rfl rfl rfl rfl rfl rfl rfl rfl fun a w hF hS => ?_
        refine q_x (v := (.bool false)) hF hS (ex_assign rfl) rfl rfl fun a hF => ?_
        refine q_end (n_sq (q_ret (r_sq ?_)))
        obtain rfl := someI hr
        exact ret_of hF hS rfl (.cellA (us := [(.int .i64 0), (.int .i64 0)]) 1 0 Try.underlying26 rfl sz26 rfl rfl rfl rfl (.tmp rfl .nil)) rfl
  · have hr := cond_t hc1 hr
    refine q_cond_t hF rfl hc1 ?_
    refine q_seq ?_
    refine q_region ?_
    refine q_x (v := (.agg #[(.int .i64 0), (.int .i64 0)])) hF hS (ex_build (cells := [(.int .i64 0), (.int .i64 0)]) rfl (by kernel_rfl)) rfl rfl fun a hF => ?_
    refine q_store (vs := [(.int .i64 0), (.int .i64 0)]) (cs' := [(.int .i64 0), (.int .i64 0)]) 1 0 hF hS sz26 rfl rfl rfl rfl rfl rfl rfl rfl fun a w hF hS => ?_
    refine q_x (v := (.bool false)) hF hS (ex_assign rfl) rfl rfl fun a hF => ?_
    refine q_end (n_sq (q_ret (r_sq ?_)))
    obtain rfl := someI hr
    exact ret_of hF hS rfl (.cellA (us := [(.int .i64 0), (.int .i64 0)]) 1 0 Try.underlying26 rfl sz26 rfl rfl rfl rfl (.tmp rfl .nil)) rfl

theorem c_impl_GeoMass (p_a : impl_Frac) (p_k : Int) (r : impl_Frac × Bool) (hr : impl_GeoMass p_a p_k = some r) (w0 : World) (m : Mem) (hv : Vis m w0) :
    Ret Try.prog 31 [(.agg #[(.int .i64 p_a.Num), (.int .i64 p_a.Den)]), (.int .i64 p_k)] w0 (fun v _ => v = (.tuple #[(.agg #[(.int .i64 r.1.Num), (.int .i64 r.1.Den)]), (.bool r.2)])) := by
  unfold impl_GeoMass at hr
  refine ret_start Try.func31 rfl 26 rfl rfl m hv fun a hF hS => ?_
  refine q_seq ?_
  refine q_region ?_
  refine q_box (cs := [(.int .i64 p_a.Num), (.int .i64 p_a.Den)]) hF hS rfl rfl rfl fun a w b1 hF hS => ?_
  refine q_alloc (cs := [(.int .i64 0), (.int .i64 0)]) hF hS rfl rfl rfl fun a w b2 hF hS => ?_
  refine q_x (v := (.bool false)) hF hS (ex_assign rfl) rfl rfl fun a hF => ?_
  refine q_end (n_sq ?_)
  refine q_seq ?_
  refine q_seq ?_
  obtain ⟨t_4, hj1, hr⟩ := bindS hr
  refine q_join (fun a w => Fr a 26 [(1, (.int .i64 p_k)), (2, (.pointer (some ⟨b1, 0, none⟩))), (4, (.pointer (some ⟨b2, 0, none⟩))), (16, (.bool t_4))] ∧ St [] w0 w m [[⟨b2, [(.int .i64 0), (.int .i64 0)], 26⟩], [⟨b1, [(.int .i64 p_a.Num), (.int .i64 p_a.Den)], 26⟩]]) ?_ ?_
  · refine q_region ?_
    refine q_x (v := (.agg #[(.int .i64 p_a.Num), (.int .i64 p_a.Den)])) hF hS (ex_loadA (vs := [(.int .i64 p_a.Num), (.int .i64 p_a.Den)]) 1 0 Try.underlying26 rfl sz26 rfl rfl rfl rfl) rfl rfl fun a hF => ?_
    obtain ⟨t_3, ht_3, hj1⟩ := bindS hj1
    refine q_call (vs := [(.agg #[(.int .i64 p_a.Num), (.int .i64 p_a.Den)])]) hF hS Try.func88 (by kernel_rfl) rfl rfl rfl (c_impl_isRatio p_a t_3 ht_3 _ m hS.vis) ?_
    rintro a w _ rfl hF hS
    refine q_x (v := (.bool (!t_3))) hF hS (ex_not rfl) rfl rfl fun a hF => ?_
    refine q_x (v := (.bool (!t_3))) hF hS (ex_move rfl) rfl rfl fun a hF => ?_
    rcases hc2 : (!t_3) with _ | _
    · have hj1 := cond_f hc2 hj1
      refine q_xg (v := (.int .i64 p_k)) hF hS (ex_move rfl) (wanted_t hF rfl rfl rfl hc2) rfl fun a hF => ?_
      refine q_xg (v := (.bool (decide (p_k < (-60))))) hF hS (ex_ibin rfl rfl rfl) (wanted_t hF rfl rfl rfl hc2) rfl fun a hF => ?_
      refine q_x (v := (.bool (decide (p_k < (-60))))) hF hS (ex_pick_f rfl rfl hc2) rfl rfl fun a hF => ?_
      refine q_x (v := (.bool (decide (p_k < (-60))))) hF hS (ex_move rfl) rfl rfl fun a hF => ?_
      rcases hc3 : (decide (p_k < (-60))) with _ | _
      · have hj1 := cond_f hc3 hj1
        refine q_xg (v := (.int .i64 p_k)) hF hS (ex_move rfl) (wanted_t hF rfl rfl rfl hc3) rfl fun a hF => ?_
        refine q_xg (v := (.bool (decide (60 < p_k)))) hF hS (ex_ibin rfl rfl rfl) (wanted_t hF rfl rfl rfl hc3) rfl fun a hF => ?_
        refine q_x (v := (.bool (decide (60 < p_k)))) hF hS (ex_pick_f rfl rfl hc3) rfl rfl fun a hF => ?_
        refine q_end (n_jn ?_)
        obtain rfl := someI hj1
        exact ⟨hF.sub ⟨rfl, rfl, rfl, rfl, trivial⟩, hS⟩
      · have hj1 := cond_t hc3 hj1
        refine q_skip hF (wanted_f hF rfl rfl rfl hc3 rfl) rfl fun a hF => ?_
        refine q_skip hF (wanted_f hF rfl rfl rfl hc3 rfl) rfl fun a hF => ?_
        refine q_x (v := (.bool true)) hF hS (ex_pick_t rfl rfl hc3) rfl rfl fun a hF => ?_
        refine q_end (n_jn ?_)
        obtain rfl := someI hj1
        exact ⟨hF.sub ⟨rfl, rfl, rfl, rfl, trivial⟩, hS⟩
    · have hj1 := cond_t hc2 hj1
      refine q_skip hF (wanted_f hF rfl rfl rfl hc2 rfl) rfl fun a hF => ?_
      refine q_skip hF (wanted_f hF rfl rfl rfl hc2 rfl) rfl fun a hF => ?_
      refine q_x (v := (.bool true)) hF hS (ex_pick_t rfl rfl hc2) rfl rfl fun a hF => ?_
      refine q_x (v := (.bool true)) hF hS (ex_move rfl) rfl rfl fun a hF => ?_
      refine q_skip hF (wanted_f hF rfl rfl rfl rfl rfl) rfl fun a hF => ?_
      refine q_skip hF (wanted_f hF rfl rfl rfl rfl rfl) rfl fun a hF => ?_
      refine q_x (v := (.bool true)) hF hS (ex_pick_t rfl rfl rfl) rfl rfl fun a hF => ?_
      refine q_end (n_jn ?_)
      obtain rfl := someI hj1
      exact ⟨hF.sub ⟨rfl, rfl, rfl, rfl, trivial⟩, hS⟩
  · rintro a w ⟨hF, hS⟩
    refine n_sq ?_
    rcases hc4 : (t_4) with _ | _
    · have hr := cond_f hc4 hr
      refine q_cond_f hF rfl hc4 ?_
      refine q_skipc (n_sq ?_)
      refine q_seq ?_
      refine q_region ?_
      refine q_x (v := (.agg #[(.int .i64 p_a.Num), (.int .i64 p_a.Den)])) hF hS (ex_loadA (vs := [(.int .i64 p_a.Num), (.int .i64 p_a.Den)]) 1 0 Try.underlying26 rfl sz26 rfl rfl rfl rfl) rfl rfl fun a hF => ?_
      refine q_x (v := (.int .i64 p_k)) hF hS (ex_move rfl) rfl rfl fun a hF => ?_
      refine q_x (v := (.int .i64 p_k)) hF hS (ex_move rfl) rfl rfl fun a hF => ?_
      refine q_x (v := (.int .i64 (w64 (-p_k)))) hF hS (ex_neg rfl) rfl rfl fun a hF => ?_
      refine q_x (v := (.int .i64 (max p_k (w64 (-p_k))))) hF hS (ex_max rfl rfl) rfl rfl fun a hF => ?_
      obtain ⟨t_5, ht_5, hr⟩ := bindS hr
      refine q_call (vs := [(.agg #[(.int .i64 p_a.Num), (.int .i64 p_a.Den)]), (.int .i64 (max p_k (w64 (-p_k))))]) hF hS Try.func89 (by kernel_rfl) rfl rfl rfl (c_impl_geoMass p_a (max p_k (w64 (-p_k))) t_5 ht_5 _ m hS.vis) ?_
      rintro a w _ rfl hF hS
      refine q_x (v := (.agg #[(.int .i64 t_5.1.Num), (.int .i64 t_5.1.Den)])) hF hS (ex_extract rfl rfl) rfl rfl fun a hF => ?_
      refine q_x (v := (.bool t_5.2)) hF hS (ex_extract rfl rfl) rfl rfl fun a hF => ?_
      refine q_store (vs := [(.int .i64 t_5.1.Num), (.int .i64 t_5.1.Den)]) (cs' := [(.int .i64 t_5.1.Num), (.int .i64 t_5.1.Den)]) 0 0 hF hS sz26 rfl rfl rfl rfl rfl rfl rfl rfl fun a w hF hS => ?_
      refine q_x (v := (.bool t_5.2)) hF hS (ex_assign rfl) rfl rfl fun a hF => ?_
      refine q_end (n_sq (q_ret ?_))
      obtain rfl := someI hr
      exact ret_of hF hS rfl (.cellA (us := [(.int .i64 t_5.1.Num), (.int .i64 t_5.1.Den)]) 0 0 Try.underlying26 rfl sz26 rfl rfl rfl rfl (.tmp rfl .nil)) rfl
    · have hr := cond_t hc4 hr
      refine q_cond_t hF rfl hc4 ?_
      refine q_seq ?_
      refine q_region ?_
      refine q_x (v := (.agg #[(.int .i64 0), (.int .i64 0)])) hF hS (ex_build (cells := [(.int .i64 0), (.int .i64 0)]) rfl (by kernel_rfl)) rfl rfl fun a hF => ?_
      refine q_store (vs := [(.int .i64 0), (.int .i64 0)]) (cs' := [(.int .i64 0), (.int .i64 0)]) 0 0 hF hS sz26 rfl rfl rfl rfl rfl rfl rfl rfl fun a w hF hS => ?_
      refine q_x (v := (.bool false)) hF hS (ex_assign rfl) rfl rfl fun a hF => ?_
      refine q_end (n_sq (q_ret (r_sq ?_)))
      obtain rfl := someI hr
      exact ret_of hF hS rfl (.cellA (us := [(.int .i64 0), (.int .i64 0)]) 0 0 Try.underlying26 rfl sz26 rfl rfl rfl rfl (.tmp rfl .nil)) rfl

theorem c_laws_FnExactGeoMass (p_aA : laws_Frac) (p_aK : Int) (r : Bool) (hr : laws_FnExactGeoMass p_aA p_aK = some r) (w0 : World) (m : Mem) (hv : Vis m w0) :
    Ret Try.prog 6 [(.agg #[(.int .i64 p_aA.Num), (.int .i64 p_aA.Den)]), (.int .i64 p_aK)] w0 (fun v _ => v = (.bool r)) := by
  unfold laws_FnExactGeoMass at hr
  refine ret_start Try.func6 rfl 32 rfl rfl m hv fun a hF hS => ?_
  refine q_seq ?_
  refine q_region ?_
  refine q_box (cs := [(.int .i64 p_aA.Num), (.int .i64 p_aA.Den)]) hF hS rfl rfl rfl fun a w b1 hF hS => ?_
  refine q_x (v := (.bool false)) hF hS (ex_assign rfl) rfl rfl fun a hF => ?_
  refine q_end (n_sq ?_)
  refine q_seq ?_
  refine q_region ?_
  refine q_x (v := (.agg #[(.int .i64 p_aA.Num), (.int .i64 p_aA.Den)])) hF hS (ex_loadA (vs := [(.int .i64 p_aA.Num), (.int .i64 p_aA.Den)]) 0 0 Try.underlying23 rfl sz23 rfl rfl rfl rfl) rfl rfl fun a hF => ?_
  obtain ⟨t_2, ht_2, hr⟩ := bindS hr
  refine q_call (vs := [(.agg #[(.int .i64 p_aA.Num), (.int .i64 p_aA.Den)])]) hF hS Try.func30 (by kernel_rfl) rfl rfl rfl (c_laws_toFrac p_aA t_2 ht_2 _ m hS.vis) ?_
  rintro a w _ rfl hF hS
  refine q_x (v := (.int .i64 p_aK)) hF hS (ex_move rfl) rfl rfl fun a hF => ?_
  obtain ⟨t_3, ht_3, hr⟩ := bindS hr
  refine q_call (vs := [(.agg #[(.int .i64 t_2.Num), (.int .i64 t_2.Den)]), (.int .i64 p_aK)]) hF hS Try.func29 (by kernel_rfl) rfl rfl rfl (c_spec_GeoMass t_2 p_aK t_3 ht_3 _ m hS.vis) ?_
  rintro a w _ rfl hF hS
  refine q_x (v := (.tuple #[(.agg #[(.int .i64 t_3.1.Num), (.int .i64 t_3.1.Den)]), (.bool t_3.2)])) hF hS (ex_move rfl) rfl rfl fun a hF => ?_
  refine q_x (v := (.agg #[(.int .i64 t_3.1.Num), (.int .i64 t_3.1.Den)])) hF hS (ex_extract rfl rfl) rfl rfl fun a hF => ?_
  refine q_x (v := (.bool t_3.2)) hF hS (ex_extract rfl rfl) rfl rfl fun a hF => ?_
  refine q_alloc (cs := [(.int .i64 0), (.int .i64 0)]) hF hS rfl rfl rfl fun a w b4 hF hS => ?_
  refine q_store (vs := [(.int .i64 t_3.1.Num), (.int .i64 t_3.1.Den)]) (cs' := [(.int .i64 t_3.1.Num), (.int .i64 t_3.1.Den)]) 0 0 hF hS sz26 rfl rfl rfl rfl rfl rfl rfl rfl fun a w hF hS => ?_
  refine q_x (v := (.bool t_3.2)) hF hS (ex_assign rfl) rfl rfl fun a hF => ?_
  refine q_end (n_sq ?_)
  refine q_seq ?_
  refine q_region ?_
  refine q_x (v := (.agg #[(.int .i64 p_aA.Num), (.int .i64 p_aA.Den)])) hF hS (ex_loadA (vs := [(.int .i64 p_aA.Num), (.int .i64 p_aA.Den)]) 1 0 Try.underlying23 rfl sz23 rfl rfl rfl rfl) rfl rfl fun a hF => ?_
  obtain ⟨t_5, ht_5, hr⟩ := bindS hr
  refine q_call (vs := [(.agg #[(.int .i64 p_aA.Num), (.int .i64 p_aA.Den)])]) hF hS Try.func30 (by kernel_rfl) rfl rfl rfl (c_laws_toFrac p_aA t_5 ht_5 _ m hS.vis) ?_
  rintro a w _ rfl hF hS
  refine q_x (v := (.int .i64 p_aK)) hF hS (ex_move rfl) rfl rfl fun a hF => ?_
  obtain ⟨t_6, ht_6, hr⟩ := bindS hr
  refine q_call (vs := [(.agg #[(.int .i64 t_5.Num), (.int .i64 t_5.Den)]), (.int .i64 p_aK)]) hF hS Try.func31 (by kernel_rfl) rfl rfl rfl (c_impl_GeoMass t_5 p_aK t_6 ht_6 _ m hS.vis) ?_
  rintro a w _ rfl hF hS
  refine q_x (v := (.tuple #[(.agg #[(.int .i64 t_6.1.Num), (.int .i64 t_6.1.Den)]), (.bool t_6.2)])) hF hS (ex_move rfl) rfl rfl fun a hF => ?_
  refine q_x (v := (.agg #[(.int .i64 t_6.1.Num), (.int .i64 t_6.1.Den)])) hF hS (ex_extract rfl rfl) rfl rfl fun a hF => ?_
  refine q_x (v := (.bool t_6.2)) hF hS (ex_extract rfl rfl) rfl rfl fun a hF => ?_
  refine q_alloc (cs := [(.int .i64 0), (.int .i64 0)]) hF hS rfl rfl rfl fun a w b7 hF hS => ?_
  refine q_store (vs := [(.int .i64 t_6.1.Num), (.int .i64 t_6.1.Den)]) (cs' := [(.int .i64 t_6.1.Num), (.int .i64 t_6.1.Den)]) 0 0 hF hS sz26 rfl rfl rfl rfl rfl rfl rfl rfl fun a w hF hS => ?_
  refine q_x (v := (.bool t_6.2)) hF hS (ex_assign rfl) rfl rfl fun a hF => ?_
  refine q_end (n_sq ?_)
  refine q_seq ?_
  refine q_seq ?_
  obtain ⟨t_9, hj1, hr⟩ := bindS hr
  refine q_join (fun a w => Fr a 32 [(31, (.bool t_9))] ∧ St [] w0 w m []) ?_ ?_
  · refine q_region ?_
    refine q_x (v := (.agg #[(.int .i64 t_6.1.Num), (.int .i64 t_6.1.Den)])) hF hS (ex_loadA (vs := [(.int .i64 t_6.1.Num), (.int .i64 t_6.1.Den)]) 0 0 Try.underlying26 rfl sz26 rfl rfl rfl rfl) rfl rfl fun a hF => ?_
    refine q_x (v := (.agg #[(.int .i64 t_3.1.Num), (.int .i64 t_3.1.Den)])) hF hS (ex_loadA (vs := [(.int .i64 t_3.1.Num), (.int .i64 t_3.1.Den)]) 1 0 Try.underlying26 rfl sz26 rfl rfl rfl rfl) rfl rfl fun a hF => ?_
    obtain ⟨t_8, ht_8, hj1⟩ := bindS hj1
    refine q_call (vs := [(.agg #[(.int .i64 t_6.1.Num), (.int .i64 t_6.1.Den)]), (.agg #[(.int .i64 t_3.1.Num), (.int .i64 t_3.1.Den)])]) hF hS Try.func32 (by kernel_rfl) rfl rfl rfl (c_laws_eqFrac t_6.1 t_3.1 t_8 ht_8 _ m hS.vis) ?_
    rintro a w _ rfl hF hS
    refine q_x (v := (.bool (!t_8))) hF hS (ex_not rfl) rfl rfl fun a hF => ?_
    refine q_x (v := (.bool (!t_8))) hF hS (ex_move rfl) rfl rfl fun a hF => ?_
    rcases hc2 : (!t_8) with _ | _
    · have hj1 := cond_f hc2 hj1
      refine q_xg (v := (.bool t_6.2)) hF hS (ex_move rfl) (wanted_t hF rfl rfl rfl hc2) rfl fun a hF => ?_
      refine q_xg (v := (.bool t_3.2)) hF hS (ex_move rfl) (wanted_t hF rfl rfl rfl hc2) rfl fun a hF => ?_
      refine q_xg (v := (.bool (t_6.2 != t_3.2))) hF hS (ex_bne Try.underlying4 rfl rfl) (wanted_t hF rfl rfl rfl hc2) rfl fun a hF => ?_
      refine q_x (v := (.bool (t_6.2 != t_3.2))) hF hS (ex_pick_f rfl rfl hc2) rfl rfl fun a hF => ?_
      refine q_end (n_jn ?_)
      obtain rfl := someI hj1
      exact ⟨hF.sub ⟨rfl, trivial⟩, hS.mask [false, false, false]⟩
    · have hj1 := cond_t hc2 hj1
      refine q_skip hF (wanted_f hF rfl rfl rfl hc2 rfl) rfl fun a hF => ?_
      refine q_skip hF (wanted_f hF rfl rfl rfl hc2 rfl) rfl fun a hF => ?_
      refine q_skip hF (wanted_f hF rfl rfl rfl hc2 rfl) rfl fun a hF => ?_
      refine q_x (v := (.bool true)) hF hS (ex_pick_t rfl rfl hc2) rfl rfl fun a hF => ?_
      refine q_end (n_jn ?_)
      obtain rfl := someI hj1
      exact ⟨hF.sub ⟨rfl, trivial⟩, hS.mask [false, false, false]⟩
  · rintro a w ⟨hF, hS⟩
    refine n_sq ?_
    rcases hc3 : (t_9) with _ | _
    · have hr := cond_f hc3 hr
      refine q_cond_f hF rfl hc3 ?_
      refine q_skipc (n_sq ?_)
      refine q_seq ?_
      refine q_region ?_
      refine q_x (v := (.bool true)) hF hS (ex_assign rfl) rfl rfl fun a hF => ?_
      refine q_end (n_sq (q_ret ?_))
      obtain rfl := someI hr
      exact ret_of hF hS rfl (.tmp rfl .nil) rfl
    · have hr := cond_t hc3 hr
      refine q_cond_t hF rfl hc3 ?_
      refine q_seq ?_
      refine q_region ?_
      refine q_x (v := (.bool false)) hF hS (ex_assign rfl) rfl rfl fun a hF => ?_
      refine q_end (n_sq (q_ret (r_sq ?_)))
      obtain rfl := someI hr
      exact ret_of hF hS rfl (.tmp rfl .nil) rfl

theorem c_spec_zTail (p_a : impl_Frac) (p_k : Int) (r : impl_Frac × Bool) (hr : spec_zTail p_a p_k = some r) (w0 : World) (m : Mem) (hv : Vis m w0) :
    Ret Try.prog 95 [(.agg #[(.int .i64 p_a.Num), (.int .i64 p_a.Den)]), (.int .i64 p_k)] w0 (fun v _ => v = (.tuple #[(.agg #[(.int .i64 r.1.Num), (.int .i64 r.1.Den)]), (.bool r.2)])) := by
  unfold spec_zTail at hr
  refine ret_start Try.func95 rfl 34 rfl rfl m hv fun a hF hS => ?_
  refine q_seq ?_
  refine q_region ?_
  refine q_box (cs := [(.int .i64 p_a.Num), (.int .i64 p_a.Den)]) hF hS rfl rfl rfl fun a w b1 hF hS => ?_
  refine q_alloc (cs := [(.int .i64 0), (.int .i64 0)]) hF hS rfl rfl rfl fun a w b2 hF hS => ?_
  refine q_x (v := (.bool false)) hF hS (ex_assign rfl) rfl rfl fun a hF => ?_
  refine q_end (n_sq ?_)
  refine q_seq ?_
  refine q_region ?_
  refine q_x (v := (.agg #[(.int .i64 p_a.Num), (.int .i64 p_a.Den)])) hF hS (ex_loadA (vs := [(.int .i64 p_a.Num), (.int .i64 p_a.Den)]) 1 0 Try.underlying26 rfl sz26 rfl rfl rfl rfl) rfl rfl fun a hF => ?_
  refine q_x (v := (.int .i64 p_k)) hF hS (ex_move rfl) rfl rfl fun a hF => ?_
  obtain ⟨t_3, ht_3, hr⟩ := bindS hr
  refine q_call (vs := [(.agg #[(.int .i64 p_a.Num), (.int .i64 p_a.Den)]), (.int .i64 p_k)]) hF hS Try.func110 (by kernel_rfl) rfl rfl rfl (c_spec_fPow p_a p_k t_3 ht_3 _ m hS.vis) ?_
  rintro a w _ rfl hF hS
  refine q_x (v := (.tuple #[(.agg #[(.int .i64 t_3.1.Num), (.int .i64 t_3.1.Den)]), (.bool t_3.2)])) hF hS (ex_move rfl) rfl rfl fun a hF => ?_
  refine q_x (v := (.agg #[(.int .i64 t_3.1.Num), (.int .i64 t_3.1.Den)])) hF hS (ex_extract rfl rfl) rfl rfl fun a hF => ?_
  refine q_x (v := (.bool t_3.2)) hF hS (ex_extract rfl rfl) rfl rfl fun a hF => ?_
  refine q_alloc (cs := [(.int .i64 0), (.int .i64 0)]) hF hS rfl rfl rfl fun a w b4 hF hS => ?_
  refine q_store (vs := [(.int .i64 t_3.1.Num), (.int .i64 t_3.1.Den)]) (cs' := [(.int .i64 t_3.1.Num), (.int .i64 t_3.1.Den)]) 0 0 hF hS sz26 rfl rfl rfl rfl rfl rfl rfl rfl fun a w hF hS => ?_
  refine q_x (v := (.bool t_3.2)) hF hS (ex_assign rfl) rfl rfl fun a hF => ?_
  refine q_end (n_sq ?_)
  refine q_seq ?_
  obtain ⟨j1, hj1, hr⟩ := bindS hr
  refine q_join (fun a w => ∃ b9, ∃ two_10, ∃ y_11, j1 = (two_10, y_11) ∧ Fr a 34 [(4, (.pointer (some ⟨b2, 0, none⟩))), (6, (.pointer (some ⟨b4, 0, none⟩))), (7, (.bool t_3.2)), (8, (.pointer (some ⟨b9, 0, none⟩))), (9, (.bool two_10))] ∧ St [] w0 w m [[⟨b9, [(.int .i64 y_11.Num), (.int .i64 y_11.Den)], 26⟩], [⟨b4, [(.int .i64 t_3.1.Num), (.int .i64 t_3.1.Den)], 26⟩], [⟨b2, [(.int .i64 0), (.int .i64 0)], 26⟩]]) ?_ ?_
  · refine e_region [7] mixed fun w' hw' => ?_
    have hS := hS.below hw'
    refine e_x (v := (.agg #[(.int .i64 p_a.Num), (.int .i64 p_a.Den)])) 1 hF hS rfl (ex_loadA (vs := [(.int .i64 p_a.Num), (.int .i64 p_a.Den)]) 2 0 Try.underlying26 rfl sz26 rfl rfl rfl rfl) rfl rfl (by kernel_rfl) (by kernel_rfl) (by kernel_rfl) (by kernel_rfl) fun a hF => ?_
    obtain ⟨t_7, ht_7, hj1⟩ := bindS hj1
    obtain ⟨t_8, ht_8, hj1⟩ := bindS hj1
    refine e_all [0, 6] (by kernel_rfl) rfl ⟨?_, ?_, trivial⟩
    · refine e_call (vs := [(.int .i64 1)]) hF hS rfl Try.func97 (by kernel_rfl) rfl rfl rfl (c_spec_fInt 1 t_7 ht_7 _ m hS.vis) ?_
      rintro a w _ rfl hF hS
      refine e_all [2, 6] (by kernel_rfl) rfl ⟨?_, ?_, trivial⟩
      · refine e_call (vs := [(.agg #[(.int .i64 t_7.Num), (.int .i64 t_7.Den)]), (.agg #[(.int .i64 p_a.Num), (.int .i64 p_a.Den)])]) hF hS rfl Try.func120 (by kernel_rfl) rfl rfl rfl (c_spec_fAdd t_7 p_a t_8 ht_8 _ m hS.vis) ?_
        rintro a w _ rfl hF hS
        refine e_p (v := (.tuple #[(.agg #[(.int .i64 t_8.1.Num), (.int .i64 t_8.1.Den)]), (.bool t_8.2)])) 3 hF rfl (ex_move rfl) rfl rfl (by kernel_rfl) (by kernel_rfl) (by kernel_rfl) fun a hF => ?_
        refine e_p (v := (.agg #[(.int .i64 t_8.1.Num), (.int .i64 t_8.1.Den)])) 4 hF rfl (ex_extract rfl rfl) rfl rfl (by kernel_rfl) (by kernel_rfl) (by kernel_rfl) fun a hF => ?_
        refine e_p (v := (.bool t_8.2)) 5 hF rfl (ex_extract rfl rfl) rfl rfl (by kernel_rfl) (by kernel_rfl) (by kernel_rfl) fun a hF => ?_
        refine e_one 6 (by kernel_rfl) ?_
        refine e_alloc (cs := [(.int .i64 0), (.int .i64 0)]) hF hS rfl rfl rfl rfl fun a w b9 hF hS => ?_
        refine e_one 7 (by kernel_rfl) ?_
        refine e_store (vs := [(.int .i64 t_8.1.Num), (.int .i64 t_8.1.Den)]) (cs' := [(.int .i64 t_8.1.Num), (.int .i64 t_8.1.Den)]) 0 0 hF hS rfl rfl sz26 rfl rfl rfl rfl rfl rfl rfl rfl fun a w hF hS => ?_
        refine e_p (v := (.bool t_8.2)) 8 hF rfl (ex_assign rfl) rfl rfl (by kernel_rfl) (by kernel_rfl) (by kernel_rfl) fun a hF => ?_
        refine e_end (by kernel_rfl) (n_jn ?_) _
        obtain rfl := someI hj1
        exact ⟨b9, _, _, rfl, hF.sub ⟨rfl, rfl, rfl, rfl, rfl, trivial⟩, hS.mask [true, true, true, false]⟩
      · refine e_alloc (cs := [(.int .i64 0), (.int .i64 0)]) hF hS rfl rfl rfl rfl fun a w b9 hF hS => ?_
        refine e_one 2 (by kernel_rfl) ?_
        refine e_call (vs := [(.agg #[(.int .i64 t_7.Num), (.int .i64 t_7.Den)]), (.agg #[(.int .i64 p_a.Num), (.int .i64 p_a.Den)])]) hF hS rfl Try.func120 (by kernel_rfl) rfl rfl rfl (c_spec_fAdd t_7 p_a t_8 ht_8 _ m hS.vis) ?_
        rintro a w _ rfl hF hS
        refine e_p (v := (.tuple #[(.agg #[(.int .i64 t_8.1.Num), (.int .i64 t_8.1.Den)]), (.bool t_8.2)])) 3 hF rfl (ex_move rfl) rfl rfl (by kernel_rfl) (by kernel_rfl) (by kernel_rfl) fun a hF => ?_
        refine e_p (v := (.agg #[(.int .i64 t_8.1.Num), (.int .i64 t_8.1.Den)])) 4 hF rfl (ex_extract rfl rfl) rfl rfl (by kernel_rfl) (by kernel_rfl) (by kernel_rfl) fun a hF => ?_
        refine e_p (v := (.bool t_8.2)) 5 hF rfl (ex_extract rfl rfl) rfl rfl (by kernel_rfl) (by kernel_rfl) (by kernel_rfl) fun a hF => ?_
        refine e_one 7 (by kernel_rfl) ?_
        refine e_store (vs := [(.int .i64 t_8.1.Num), (.int .i64 t_8.1.Den)]) (cs' := [(.int .i64 t_8.1.Num), (.int .i64 t_8.1.Den)]) 0 0 hF hS rfl rfl sz26 rfl rfl rfl rfl rfl rfl rfl rfl fun a w hF hS => ?_
        refine e_p (v := (.bool t_8.2)) 8 hF rfl (ex_assign rfl) rfl rfl (by kernel_rfl) (by kernel_rfl) (by kernel_rfl) fun a hF => ?_
        refine e_end (by kernel_rfl) (n_jn ?_) _
        obtain rfl := someI hj1
        exact ⟨b9, _, _, rfl, hF.sub ⟨rfl, rfl, rfl, rfl, rfl, trivial⟩, hS.mask [true, true, true, false]⟩
    · refine e_alloc (cs := [(.int .i64 0), (.int .i64 0)]) hF hS rfl rfl rfl rfl fun a w b9 hF hS => ?_
      refine e_one 0 (by kernel_rfl) ?_
      refine e_call (vs := [(.int .i64 1)]) hF hS rfl Try.func97 (by kernel_rfl) rfl rfl rfl (c_spec_fInt 1 t_7 ht_7 _ m hS.vis) ?_
      rintro a w _ rfl hF hS
      refine e_one 2 (by kernel_rfl) ?_
      refine e_call (vs := [(.agg #[(.int .i64 t_7.Num), (.int .i64 t_7.Den)]), (.agg #[(.int .i64 p_a.Num), (.int .i64 p_a.Den)])]) hF hS rfl Try.func120 (by kernel_rfl) rfl rfl rfl (c_spec_fAdd t_7 p_a t_8 ht_8 _ m hS.vis) ?_
      rintro a w _ rfl hF hS
      refine e_p (v := (.tuple #[(.agg #[(.int .i64 t_8.1.Num), (.int .i64 t_8.1.Den)]), (.bool t_8.2)])) 3 hF rfl (ex_move rfl) rfl rfl (by kernel_rfl) (by kernel_rfl) (by kernel_rfl) fun a hF => ?_
      refine e_p (v := (.agg #[(.int .i64 t_8.1.Num), (.int .i64 t_8.1.Den)])) 4 hF rfl (ex_extract rfl rfl) rfl rfl (by kernel_rfl) (by kernel_rfl) (by kernel_rfl) fun a hF => ?_
      refine e_p (v := (.bool t_8.2)) 5 hF rfl (ex_extract rfl rfl) rfl rfl (by kernel_rfl) (by kernel_rfl) (by kernel_rfl) fun a hF => ?_
      refine e_one 7 (by kernel_rfl) ?_
      refine e_store (vs := [(.int .i64 t_8.1.Num), (.int .i64 t_8.1.Den)]) (cs' := [(.int .i64 t_8.1.Num), (.int .i64 t_8.1.Den)]) 0 0 hF hS rfl rfl sz26 rfl rfl rfl rfl rfl rfl rfl rfl fun a w hF hS => ?_
      refine e_p (v := (.bool t_8.2)) 8 hF rfl (ex_assign rfl) rfl rfl (by kernel_rfl) (by kernel_rfl) (by kernel_rfl) fun a hF => ?_
      refine e_end (by kernel_rfl) (n_jn ?_) _
      obtain rfl := someI hj1
      exact ⟨b9, _, _, rfl, hF.sub ⟨rfl, rfl, rfl, rfl, rfl, trivial⟩, hS.mask [true, true, true, false]⟩
  · rintro a w ⟨b9, two_10, y_11, rfl, hF, hS⟩
    refine n_sq ?_
    refine q_seq ?_
    refine q_seq ?_
    obtain ⟨t_12, hj2, hr⟩ := bindS hr
    refine q_join (fun a w => Fr a 34 [(4, (.pointer (some ⟨b2, 0, none⟩))), (6, (.pointer (some ⟨b4, 0, none⟩))), (8, (.pointer (some ⟨b9, 0, none⟩))), (27, (.bool t_12))] ∧ St [] w0 w m [[⟨b9, [(.int .i64 y_11.Num), (.int .i64 y_11.Den)], 26⟩], [⟨b4, [(.int .i64 t_3.1.Num), (.int .i64 t_3.1.Den)], 26⟩], [⟨b2, [(.int .i64 0), (.int .i64 0)], 26⟩]]) ?_ ?_
    · refine q_region ?_
      refine q_x (v := (.bool t_3.2)) hF hS (ex_move rfl) rfl rfl fun a hF => ?_
      refine q_x (v := (.bool (!t_3.2))) hF hS (ex_not rfl) rfl rfl fun a hF => ?_
      refine q_x (v := (.bool (!t_3.2))) hF hS (ex_move rfl) rfl rfl fun a hF => ?_
      rcases hc3 : (!t_3.2) with _ | _
      · have hj2 := cond_f hc3 hj2
        refine q_xg (v := (.bool two_10)) hF hS (ex_move rfl) (wanted_t hF rfl rfl rfl hc3) rfl fun a hF => ?_
        refine q_xg (v := (.bool (!two_10))) hF hS (ex_not rfl) (wanted_t hF rfl rfl rfl hc3) rfl fun a hF => ?_
        refine q_x (v := (.bool (!two_10))) hF hS (ex_pick_f rfl rfl hc3) rfl rfl fun a hF => ?_
        refine q_end (n_jn ?_)
        obtain rfl := someI hj2
        exact ⟨hF.sub ⟨rfl, rfl, rfl, rfl, trivial⟩, hS⟩
      · have hj2 := cond_t hc3 hj2
        refine q_skip hF (wanted_f hF rfl rfl rfl hc3 rfl) rfl fun a hF => ?_
        refine q_skip hF (wanted_f hF rfl rfl rfl hc3 rfl) rfl fun a hF => ?_
        refine q_x (v := (.bool true)) hF hS (ex_pick_t rfl rfl hc3) rfl rfl fun a hF => ?_
        refine q_end (n_jn ?_)
        obtain rfl := someI hj2
        exact ⟨hF.sub ⟨rfl, rfl, rfl, rfl, trivial⟩, hS⟩
    · rintro a w ⟨hF, hS⟩
      refine n_sq ?_
      rcases hc4 : (t_12) with _ | _
      · have hr := cond_f hc4 hr
        refine q_cond_f hF rfl hc4 ?_
        refine q_skipc (n_sq ?_)
        refine q_seq ?_
        refine q_region ?_
        refine q_x (v := (.agg #[(.int .i64 t_3.1.Num), (.int .i64 t_3.1.Den)])) hF hS (ex_loadA (vs := [(.int .i64 t_3.1.Num), (.int .i64 t_3.1.Den)]) 1 0 Try.underlying26 rfl sz26 rfl rfl rfl rfl) rfl rfl fun a hF => ?_
        refine q_x (v := (.agg #[(.int .i64 y_11.Num), (.int .i64 y_11.Den)])) hF hS (ex_loadA (vs := [(.int .i64 y_11.Num), (.int .i64 y_11.Den)]) 0 0 Try.underlying26 rfl sz26 rfl rfl rfl rfl) rfl rfl fun a hF => ?_
        obtain ⟨t_13, ht_13, hr⟩ := bindS hr
        refine q_call (vs := [(.agg #[(.int .i64 t_3.1.Num), (.int .i64 t_3.1.Den)]), (.agg #[(.int .i64 y_11.Num), (.int .i64 y_11.Den)])]) hF hS Try.func71 (by kernel_rfl) rfl rfl rfl (c_spec_fDiv t_3.1 y_11 t_13 ht_13 _ m hS.vis) ?_
        rintro a w _ rfl hF hS
        refine q_x (v := (.agg #[(.int .i64 t_13.1.Num), (.int .i64 t_13.1.Den)])) hF hS (ex_extract rfl rfl) rfl rfl fun a hF => ?_
        refine q_x (v := (.bool t_13.2)) hF hS (ex_extract rfl rfl) rfl rfl fun a hF => ?_
        refine q_store (vs := [(.int .i64 t_13.1.Num), (.int .i64 t_13.1.Den)]) (cs' := [(.int .i64 t_13.1.Num), (.int .i64 t_13.1.Den)]) 2 0 hF hS sz26 rfl rfl rfl rfl rfl rfl rfl rfl fun a w hF hS => ?_
        refine q_x (v := (.bool t_13.2)) hF hS (ex_assign rfl) rfl rfl fun a hF => ?_
        refine q_end (n_sq (q_ret ?_))
        obtain rfl := someI hr
        exact ret_of hF hS rfl (.cellA (us := [(.int .i64 t_13.1.Num), (.int .i64 t_13.1.Den)]) 2 0 Try.underlying26 rfl sz26 rfl rfl rfl rfl (.tmp rfl .nil)) rfl
      · have hr := cond_t hc4 hr
        refine q_cond_t hF rfl hc4 ?_
        refine q_seq ?_
        refine q_region ?_
        refine q_x (v := (.agg #[(.int .i64 0), (.int .i64 0)])) hF hS (ex_build (cells := [(.int .i64 0), (.int .i64 0)]) rfl (by kernel_rfl)) rfl rfl fun a hF => ?_
        refine q_store (vs := [(.int .i64 0), (.int .i64 0)]) (cs' := [(.int .i64 0), (.int .i64 0)]) 2 0 hF hS sz26 rfl rfl rfl rfl rfl rfl rfl rfl fun a w hF hS => ?_
        refine q_x (v := (.bool false)) hF hS (ex_assign rfl) rfl rfl fun a hF => ?_
        refine q_end (n_sq (q_ret (r_sq ?_)))
        obtain rfl := someI hr
        exact ret_of hF hS rfl (.cellA (us := [(.int .i64 0), (.int .i64 0)]) 2 0 Try.underlying26 rfl sz26 rfl rfl rfl rfl (.tmp rfl .nil)) rfl

theorem c_spec_LeastRadius (p_a : impl_Frac) (p_delta : impl_Frac) (r : Int × Bool) (hr : spec_LeastRadius p_a p_delta = some r) (w0 : World) (m : Mem) (hv : Vis m w0) :
    Ret Try.prog 35 [(.agg #[(.int .i64 p_a.Num), (.int .i64 p_a.Den)]), (.agg #[(.int .i64 p_delta.Num), (.int .i64 p_delta.Den)])] w0 (fun v _ => v = (.tuple #[(.int .i64 r.1), (.bool r.2)])) := by
  unfold spec_LeastRadius at hr
  refine ret_start Try.func35 rfl 47 rfl rfl m hv fun a hF hS => ?_
  refine q_seq ?_
  refine q_region ?_
  refine q_box (cs := [(.int .i64 p_a.Num), (.int .i64 p_a.Den)]) hF hS rfl rfl rfl fun a w b1 hF hS => ?_
  refine q_box (cs := [(.int .i64 p_delta.Num), (.int .i64 p_delta.Den)]) hF hS rfl rfl rfl fun a w b2 hF hS => ?_
  refine q_x (v := (.int .i64 0)) hF hS (ex_assign rfl) rfl rfl fun a hF => ?_
  refine q_x (v := (.bool false)) hF hS (ex_assign rfl) rfl rfl fun a hF => ?_
  refine q_end (n_sq ?_)
  refine q_seq ?_
  refine q_seq ?_
  obtain ⟨t_5, hj1, hr⟩ := bindS hr
  refine q_join (fun a w => Fr a 47 [(2, (.pointer (some ⟨b1, 0, none⟩))), (3, (.pointer (some ⟨b2, 0, none⟩))), (18, (.bool t_5))] ∧ St [] w0 w m [[⟨b2, [(.int .i64 p_delta.Num), (.int .i64 p_delta.Den)], 26⟩], [⟨b1, [(.int .i64 p_a.Num), (.int .i64 p_a.Den)], 26⟩]]) ?_ ?_
  · refine q_region ?_
    refine q_x (v := (.agg #[(.int .i64 p_a.Num), (.int .i64 p_a.Den)])) hF hS (ex_loadA (vs := [(.int .i64 p_a.Num), (.int .i64 p_a.Den)]) 1 0 Try.underlying26 rfl sz26 rfl rfl rfl rfl) rfl rfl fun a hF => ?_
    obtain ⟨t_3, ht_3, hj1⟩ := bindS hj1
    refine q_call (vs := [(.agg #[(.int .i64 p_a.Num), (.int .i64 p_a.Den)])]) hF hS Try.func85 (by kernel_rfl) rfl rfl rfl (c_spec_zRatio p_a t_3 ht_3 _ m hS.vis) ?_
    rintro a w _ rfl hF hS
    refine q_x (v := (.bool (!t_3))) hF hS (ex_not rfl) rfl rfl fun a hF => ?_
    refine q_x (v := (.bool (!t_3))) hF hS (ex_move rfl) rfl rfl fun a hF => ?_
    rcases hc2 : (!t_3) with _ | _
    · have hj1 := cond_f hc2 hj1
      refine q_xg (v := (.agg #[(.int .i64 p_delta.Num), (.int .i64 p_delta.Den)])) hF hS (ex_loadA (vs := [(.int .i64 p_delta.Num), (.int .i64 p_delta.Den)]) 0 0 Try.underlying26 rfl sz26 rfl rfl rfl rfl) (wanted_t hF rfl rfl rfl hc2) rfl fun a hF => ?_
      obtain ⟨t_4, ht_4, hj1⟩ := bindS hj1
      refine q_callg (vs := [(.agg #[(.int .i64 p_delta.Num), (.int .i64 p_delta.Den)])]) hF hS (wanted_t hF rfl rfl rfl hc2) Try.func94 (by kernel_rfl) rfl rfl rfl (c_spec_fGood p_delta t_4 ht_4 _ m hS.vis) ?_
      rintro a w _ rfl hF hS
      refine q_xg (v := (.bool (!t_4))) hF hS (ex_not rfl) (wanted_t hF rfl rfl rfl hc2) rfl fun a hF => ?_
      refine q_x (v := (.bool (!t_4))) hF hS (ex_pick_f rfl rfl hc2) rfl rfl fun a hF => ?_
      refine q_end (n_jn ?_)
      obtain rfl := someI hj1
      exact ⟨hF.sub ⟨rfl, rfl, rfl, trivial⟩, hS⟩
    · have hj1 := cond_t hc2 hj1
      refine q_skip hF (wanted_f hF rfl rfl rfl hc2 rfl) rfl fun a hF => ?_
      refine q_skip hF (wanted_f hF rfl rfl rfl hc2 rfl) rfl fun a hF => ?_
      refine q_skip hF (wanted_f hF rfl rfl rfl hc2 rfl) rfl fun a hF => ?_
      refine q_x (v := (.bool true)) hF hS (ex_pick_t rfl rfl hc2) rfl rfl fun a hF => ?_
      refine q_end (n_jn ?_)
      obtain rfl := someI hj1
      exact ⟨hF.sub ⟨rfl, rfl, rfl, trivial⟩, hS⟩
  · rintro a w ⟨hF, hS⟩
    refine n_sq ?_
    rcases hc3 : (t_5) with _ | _
    · have hr := cond_f hc3 hr
      refine q_cond_f hF rfl hc3 ?_
      refine q_skipc (n_sq ?_)
      refine q_seq ?_
      refine q_seq ?_
      refine q_region ?_
      refine q_x (v := (.int .i64 0)) hF hS (ex_assign rfl) rfl rfl fun a hF => ?_
      refine q_end (n_sq ?_)
      refine q_block ?_
      obtain ⟨o4, hl4, hr⟩ := bindS hr
      refine q_loop (fun (k_6 : Int) a w => Fr a 47 [(2, (.pointer (some ⟨b1, 0, none⟩))), (3, (.pointer (some ⟨b2, 0, none⟩))), (6, (.int .i64 k_6))] ∧ St [] w0 w m [[⟨b2, [(.int .i64 p_delta.Num), (.int .i64 p_delta.Den)], 26⟩], [⟨b1, [(.int .i64 p_a.Num), (.int .i64 p_a.Den)], 26⟩]]) (fun (o : (Unit) ⊕ (Int × Bool)) e a w => o = .inl () ∧ e = .exit 0 ∧ Fr a 47 [] ∧ St [] w0 w m []) hl4 ⟨hF.sub ⟨rfl, rfl, rfl, trivial⟩, hS⟩ ?_ ?_
      · clear hF hS
        rintro k_6 a w st ⟨hF, hS⟩ hb4
        unfold spec_LeastRadius_l1 at hb4
        refine q_seq ?_
        refine q_seq ?_
        refine q_region ?_
        refine q_x (v := (.int .i64 k_6)) hF hS (ex_move rfl) rfl rfl fun a hF => ?_
        refine q_x (v := (.bool (decide (k_6 < 60)))) hF hS (ex_ibin rfl rfl rfl) rfl rfl fun a hF => ?_
        refine q_end (n_sq ?_)
        rcases hc5 : (decide (k_6 < 60)) with _ | _
        · have hb4 := cond_f hc5 hb4
          refine q_cond_f hF rfl hc5 ?_
          refine q_exit (x_sq ?_)
          obtain rfl := someI hb4
          exact ⟨nofun, .inl ⟨rfl, rfl, hF.sub trivial, hS.mask [false, false]⟩⟩
        · have hb4 := cond_t hc5 hb4
          refine q_cond_t hF rfl hc5 ?_
          refine q_skipc (n_sq ?_)
          refine q_seq ?_
          refine q_block ?_
          refine q_seq ?_
          refine q_region ?_
          refine q_x (v := (.agg #[(.int .i64 p_a.Num), (.int .i64 p_a.Den)])) hF hS (ex_loadA (vs := [(.int .i64 p_a.Num), (.int .i64 p_a.Den)]) 1 0 Try.underlying26 rfl sz26 rfl rfl rfl rfl) rfl rfl fun a hF => ?_
          refine q_x (v := (.int .i64 k_6)) hF hS (ex_move rfl) rfl rfl fun a hF => ?_
          refine q_x (v := (.int .i64 (w64 (k_6 + 1)))) hF hS (ex_ibin rfl rfl rfl) rfl rfl fun a hF => ?_
          obtain ⟨t_7, ht_7, hb4⟩ := bindS hb4
          refine q_call (vs := [(.agg #[(.int .i64 p_a.Num), (.int .i64 p_a.Den)]), (.int .i64 (w64 (k_6 + 1)))]) hF hS Try.func95 (by kernel_rfl) rfl rfl rfl (c_spec_zTail p_a (w64 (k_6 + 1)) t_7 ht_7 _ m hS.vis) ?_
          rintro a w _ rfl hF hS
          refine q_x (v := (.tuple #[(.agg #[(.int .i64 t_7.1.Num), (.int .i64 t_7.1.Den)]), (.bool t_7.2)])) hF hS (ex_move rfl) rfl rfl fun a hF => ?_
          refine q_x (v := (.agg #[(.int .i64 t_7.1.Num), (.int .i64 t_7.1.Den)])) hF hS (ex_extract rfl rfl) rfl rfl fun a hF => ?_
          refine q_x (v := (.bool t_7.2)) hF hS (ex_extract rfl rfl) rfl rfl fun a hF => ?_
          refine q_alloc (cs := [(.int .i64 0), (.int .i64 0)]) hF hS rfl rfl rfl fun a w b8 hF hS => ?_
          refine q_store (vs := [(.int .i64 t_7.1.Num), (.int .i64 t_7.1.Den)]) (cs' := [(.int .i64 t_7.1.Num), (.int .i64 t_7.1.Den)]) 0 0 hF hS sz26 rfl rfl rfl rfl rfl rfl rfl rfl fun a w hF hS => ?_
          refine q_x (v := (.bool t_7.2)) hF hS (ex_assign rfl) rfl rfl fun a hF => ?_
          refine q_end (n_sq ?_)
          refine q_seq ?_
          obtain ⟨j6, hj6, hb4⟩ := bindS hb4
          refine q_join (fun a w => ∃ b12, ∃ two_13, ∃ y_14, j6 = (two_13, y_14) ∧ Fr a 47 [(2, (.pointer (some ⟨b1, 0, none⟩))), (3, (.pointer (some ⟨b2, 0, none⟩))), (6, (.int .i64 k_6)), (8, (.bool t_7.2)), (9, (.pointer (some ⟨b12, 0, none⟩))), (10, (.bool two_13))] ∧ St [] w0 w m [[⟨b12, [(.int .i64 y_14.Num), (.int .i64 y_14.Den)], 26⟩], [⟨b2, [(.int .i64 p_delta.Num), (.int .i64 p_delta.Den)], 26⟩], [⟨b1, [(.int .i64 p_a.Num), (.int .i64 p_a.Den)], 26⟩]]) ?_ ?_
          · refine e_region [7] mixed fun w' hw' => ?_
            have hS := hS.below hw'
            refine e_x (v := (.agg #[(.int .i64 t_7.1.Num), (.int .i64 t_7.1.Den)])) 0 hF hS rfl (ex_loadA (vs := [(.int .i64 t_7.1.Num), (.int .i64 t_7.1.Den)]) 0 0 Try.underlying26 rfl sz26 rfl rfl rfl rfl) rfl rfl (by kernel_rfl) (by kernel_rfl) (by kernel_rfl) (by kernel_rfl) fun a hF => ?_
            obtain ⟨t_10, ht_10, hj6⟩ := bindS hj6
            obtain ⟨t_11, ht_11, hj6⟩ := bindS hj6
            refine e_all [1, 6] (by kernel_rfl) rfl ⟨?_, ?_, trivial⟩
            · refine e_call (vs := [(.int .i64 2)]) hF hS rfl Try.func97 (by kernel_rfl) rfl rfl rfl (c_spec_fInt 2 t_10 ht_10 _ m hS.vis) ?_
              rintro a w _ rfl hF hS
              refine e_all [2, 6] (by kernel_rfl) rfl ⟨?_, ?_, trivial⟩
              · refine e_call (vs := [(.agg #[(.int .i64 t_7.1.Num), (.int .i64 t_7.1.Den)]), (.agg #[(.int .i64 t_10.Num), (.int .i64 t_10.Den)])]) hF hS rfl Try.func96 (by kernel_rfl) rfl rfl rfl (c_spec_fMul t_7.1 t_10 t_11 ht_11 _ m hS.vis) ?_
                rintro a w _ rfl hF hS
                refine e_p (v := (.tuple #[(.agg #[(.int .i64 t_11.1.Num), (.int .i64 t_11.1.Den)]), (.bool t_11.2)])) 3 hF rfl (ex_move rfl) rfl rfl (by kernel_rfl) (by kernel_rfl) (by kernel_rfl) fun a hF => ?_
                refine e_p (v := (.agg #[(.int .i64 t_11.1.Num), (.int .i64 t_11.1.Den)])) 4 hF rfl (ex_extract rfl rfl) rfl rfl (by kernel_rfl) (by kernel_rfl) (by kernel_rfl) fun a hF => ?_
                refine e_p (v := (.bool t_11.2)) 5 hF rfl (ex_extract rfl rfl) rfl rfl (by kernel_rfl) (by kernel_rfl) (by kernel_rfl) fun a hF => ?_
                refine e_one 6 (by kernel_rfl) ?_
                refine e_alloc (cs := [(.int .i64 0), (.int .i64 0)]) hF hS rfl rfl rfl rfl fun a w b12 hF hS => ?_
                refine e_one 7 (by kernel_rfl) ?_
                refine e_store (vs := [(.int .i64 t_11.1.Num), (.int .i64 t_11.1.Den)]) (cs' := [(.int .i64 t_11.1.Num), (.int .i64 t_11.1.Den)]) 0 0 hF hS rfl rfl sz26 rfl rfl rfl rfl rfl rfl rfl rfl fun a w hF hS => ?_
                refine e_p (v := (.bool t_11.2)) 8 hF rfl (ex_assign rfl) rfl rfl (by kernel_rfl) (by kernel_rfl) (by kernel_rfl) fun a hF => ?_
                refine e_end (by kernel_rfl) (n_jn ?_) _
                obtain rfl := someI hj6
                exact ⟨b12, _, _, rfl, hF.sub ⟨rfl, rfl, rfl, rfl, rfl, rfl, trivial⟩, hS.mask [true, false, true, true]⟩
              · refine e_alloc (cs := [(.int .i64 0), (.int .i64 0)]) hF hS rfl rfl rfl rfl fun a w b12 hF hS => ?_
                refine e_one 2 (by kernel_rfl) ?_
                refine e_call (vs := [(.agg #[(.int .i64 t_7.1.Num), (.int .i64 t_7.1.Den)]), (.agg #[(.int .i64 t_10.Num), (.int .i64 t_10.Den)])]) hF hS rfl Try.func96 (by kernel_rfl) rfl rfl rfl (c_spec_fMul t_7.1 t_10 t_11 ht_11 _ m hS.vis) ?_
                rintro a w _ rfl hF hS
                refine e_p (v := (.tuple #[(.agg #[(.int .i64 t_11.1.Num), (.int .i64 t_11.1.Den)]), (.bool t_11.2)])) 3 hF rfl (ex_move rfl) rfl rfl (by kernel_rfl) (by kernel_rfl) (by kernel_rfl) fun a hF => ?_
                refine e_p (v := (.agg #[(.int .i64 t_11.1.Num), (.int .i64 t_11.1.Den)])) 4 hF rfl (ex_extract rfl rfl) rfl rfl (by kernel_rfl) (by kernel_rfl) (by kernel_rfl) fun a hF => ?_
                refine e_p (v := (.bool t_11.2)) 5 hF rfl (ex_extract rfl rfl) rfl rfl (by kernel_rfl) (by kernel_rfl) (by kernel_rfl) fun a hF => ?_
                refine e_one 7 (by kernel_rfl) ?_
                refine e_store (vs := [(.int .i64 t_11.1.Num), (.int .i64 t_11.1.Den)]) (cs' := [(.int .i64 t_11.1.Num), (.int .i64 t_11.1.Den)]) 0 0 hF hS rfl rfl sz26 rfl rfl rfl rfl rfl rfl rfl rfl fun a w hF hS => ?_
                refine e_p (v := (.bool t_11.2)) 8 hF rfl (ex_assign rfl) rfl rfl (by kernel_rfl) (by kernel_rfl) (by kernel_rfl) fun a hF => ?_
                refine e_end (by kernel_rfl) (n_jn ?_) _
                obtain rfl := someI hj6
                exact ⟨b12, _, _, rfl, hF.sub ⟨rfl, rfl, rfl, rfl, rfl, rfl, trivial⟩, hS.mask [true, false, true, true]⟩
            · refine e_alloc (cs := [(.int .i64 0), (.int .i64 0)]) hF hS rfl rfl rfl rfl fun a w b12 hF hS => ?_
              refine e_one 1 (by kernel_rfl) ?_
              refine e_call (vs := [(.int .i64 2)]) hF hS rfl Try.func97 (by kernel_rfl) rfl rfl rfl (c_spec_fInt 2 t_10 ht_10 _ m hS.vis) ?_
              rintro a w _ rfl hF hS
              refine e_one 2 (by kernel_rfl) ?_
              refine e_call (vs := [(.agg #[(.int .i64 t_7.1.Num), (.int .i64 t_7.1.Den)]), (.agg #[(.int .i64 t_10.Num), (.int .i64 t_10.Den)])]) hF hS rfl Try.func96 (by kernel_rfl) rfl rfl rfl (c_spec_fMul t_7.1 t_10 t_11 ht_11 _ m hS.vis) ?_
              rintro a w _ rfl hF hS
              refine e_p (v := (.tuple #[(.agg #[(.int .i64 t_11.1.Num), (.int .i64 t_11.1.Den)]), (.bool t_11.2)])) 3 hF rfl (ex_move rfl) rfl rfl (by kernel_rfl) (by kernel_rfl) (by kernel_rfl) fun a hF => ?_
              refine e_p (v := (.agg #[(.int .i64 t_11.1.Num), (.int .i64 t_11.1.Den)])) 4 hF rfl (ex_extract rfl rfl) rfl rfl (by kernel_rfl) (by kernel_rfl) (by kernel_rfl) fun a hF => ?_
              refine e_p (v := (.bool t_11.2)) 5 hF rfl (ex_extract rfl rfl) rfl rfl (by kernel_rfl) (by kernel_rfl) (by kernel_rfl) fun a hF => ?_
              refine e_one 7 (by kernel_rfl) ?_
              refine e_store (vs := [(.int .i64 t_11.1.Num), (.int .i64 t_11.1.Den)]) (cs' := [(.int .i64 t_11.1.Num), (.int .i64 t_11.1.Den)]) 0 0 hF hS rfl rfl sz26 rfl rfl rfl rfl rfl rfl rfl rfl fun a w hF hS => ?_
              refine e_p (v := (.bool t_11.2)) 8 hF rfl (ex_assign rfl) rfl rfl (by kernel_rfl) (by kernel_rfl) (by kernel_rfl) fun a hF => ?_
              refine e_end (by kernel_rfl) (n_jn ?_) _
              obtain rfl := someI hj6
              exact ⟨b12, _, _, rfl, hF.sub ⟨rfl, rfl, rfl, rfl, rfl, rfl, trivial⟩, hS.mask [true, false, true, true]⟩
          · rintro a w ⟨b12, two_13, y_14, rfl, hF, hS⟩
            refine n_sq ?_
            refine q_seq ?_
            refine q_seq ?_
            obtain ⟨t_15, hj7, hb4⟩ := bindS hb4
            refine q_join (fun a w => Fr a 47 [(2, (.pointer (some ⟨b1, 0, none⟩))), (3, (.pointer (some ⟨b2, 0, none⟩))), (6, (.int .i64 k_6)), (9, (.pointer (some ⟨b12, 0, none⟩))), (41, (.bool t_15))] ∧ St [] w0 w m [[⟨b12, [(.int .i64 y_14.Num), (.int .i64 y_14.Den)], 26⟩], [⟨b2, [(.int .i64 p_delta.Num), (.int .i64 p_delta.Den)], 26⟩], [⟨b1, [(.int .i64 p_a.Num), (.int .i64 p_a.Den)], 26⟩]]) ?_ ?_
            · refine q_region ?_
              refine q_x (v := (.bool t_7.2)) hF hS (ex_move rfl) rfl rfl fun a hF => ?_
              refine q_x (v := (.bool (!t_7.2))) hF hS (ex_not rfl) rfl rfl fun a hF => ?_
              refine q_x (v := (.bool (!t_7.2))) hF hS (ex_move rfl) rfl rfl fun a hF => ?_
              rcases hc8 : (!t_7.2) with _ | _
              · have hj7 := cond_f hc8 hj7
                refine q_xg (v := (.bool two_13)) hF hS (ex_move rfl) (wanted_t hF rfl rfl rfl hc8) rfl fun a hF => ?_
                refine q_xg (v := (.bool (!two_13))) hF hS (ex_not rfl) (wanted_t hF rfl rfl rfl hc8) rfl fun a hF => ?_
                refine q_x (v := (.bool (!two_13))) hF hS (ex_pick_f rfl rfl hc8) rfl rfl fun a hF => ?_
                refine q_end (n_jn ?_)
                obtain rfl := someI hj7
                exact ⟨hF.sub ⟨rfl, rfl, rfl, rfl, rfl, trivial⟩, hS⟩
              · have hj7 := cond_t hc8 hj7
                refine q_skip hF (wanted_f hF rfl rfl rfl hc8 rfl) rfl fun a hF => ?_
                refine q_skip hF (wanted_f hF rfl rfl rfl hc8 rfl) rfl fun a hF => ?_
                refine q_x (v := (.bool true)) hF hS (ex_pick_t rfl rfl hc8) rfl rfl fun a hF => ?_
                refine q_end (n_jn ?_)
                obtain rfl := someI hj7
                exact ⟨hF.sub ⟨rfl, rfl, rfl, rfl, rfl, trivial⟩, hS⟩
            · rintro a w ⟨hF, hS⟩
              refine n_sq ?_
              rcases hc9 : (t_15) with _ | _
              · have hb4 := cond_f hc9 hb4
                refine q_cond_f hF rfl hc9 ?_
                refine q_skipc (n_sq ?_)
                refine q_seq ?_
                refine q_region ?_
                refine q_x (v := (.agg #[(.int .i64 y_14.Num), (.int .i64 y_14.Den)])) hF hS (ex_loadA (vs := [(.int .i64 y_14.Num), (.int .i64 y_14.Den)]) 0 0 Try.underlying26 rfl sz26 rfl rfl rfl rfl) rfl rfl fun a hF => ?_
                refine q_x (v := (.agg #[(.int .i64 p_delta.Num), (.int .i64 p_delta.Den)])) hF hS (ex_loadA (vs := [(.int .i64 p_delta.Num), (.int .i64 p_delta.Den)]) 1 0 Try.underlying26 rfl sz26 rfl rfl rfl rfl) rfl rfl fun a hF => ?_
                obtain ⟨t_16, ht_16, hb4⟩ := bindS hb4
                refine q_call (vs := [(.agg #[(.int .i64 y_14.Num), (.int .i64 y_14.Den)]), (.agg #[(.int .i64 p_delta.Num), (.int .i64 p_delta.Den)])]) hF hS Try.func98 (by kernel_rfl) rfl rfl rfl (c_spec_fCmp y_14 p_delta t_16 ht_16 _ m hS.vis) ?_
                rintro a w _ rfl hF hS
                refine q_x (v := (.bool (decide (t_16 ≤ 0)))) hF hS (ex_ibin rfl rfl rfl) rfl rfl fun a hF => ?_
                refine q_end (n_sq ?_)
                rcases hc10 : (decide (t_16 ≤ 0)) with _ | _
                · have hb4 := cond_f hc10 hb4
                  refine q_cond_f hF rfl hc10 ?_
                  refine q_skipc (n_ib (n_sq ?_))
                  refine q_region ?_
                  refine q_x (v := (.int .i64 k_6)) hF hS (ex_move rfl) rfl rfl fun a hF => ?_
                  refine q_x (v := (.int .i64 (w64 (k_6 + 1)))) hF hS (ex_ibin rfl rfl rfl) rfl rfl fun a hF => ?_
                  refine q_x (v := (.int .i64 (w64 (k_6 + 1)))) hF hS (ex_assign rfl) rfl rfl fun a hF => ?_
                  refine q_end ?_
                  obtain rfl := someI hb4
                  exact ⟨rfl, hF.sub ⟨rfl, rfl, rfl, trivial⟩, hS.mask [false, true, true]⟩
                · have hb4 := cond_t hc10 hb4
                  refine q_cond_t hF rfl hc10 ?_
                  refine q_seq ?_
                  refine q_region ?_
                  refine q_x (v := (.int .i64 k_6)) hF hS (ex_move rfl) rfl rfl fun a hF => ?_
                  refine q_x (v := (.int .i64 k_6)) hF hS (ex_assign rfl) rfl rfl fun a hF => ?_
                  refine q_x (v := (.bool true)) hF hS (ex_assign rfl) rfl rfl fun a hF => ?_
                  refine q_end (n_sq (q_ret (r_ib (r_sq ?_))))
                  obtain rfl := someI hb4
                  refine ⟨nofun, .inr fun ho => ?_⟩
                  subst ho
                  refine r_ib (r_sq ?_)
                  obtain rfl := someI hr
                  exact ret_of hF hS rfl (.tmp rfl (.tmp rfl .nil)) rfl
              · have hb4 := cond_t hc9 hb4
                refine q_cond_t hF rfl hc9 ?_
                refine q_seq ?_
                refine q_region ?_
                refine q_x (v := (.int .i64 0)) hF hS (ex_assign rfl) rfl rfl fun a hF => ?_
                refine q_x (v := (.bool false)) hF hS (ex_assign rfl) rfl rfl fun a hF => ?_
                refine q_end (n_sq (q_ret (r_sq (r_ib (r_sq ?_)))))
                obtain rfl := someI hb4
                refine ⟨nofun, .inr fun ho => ?_⟩
                subst ho
                refine r_ib (r_sq ?_)
                obtain rfl := someI hr
                exact ret_of hF hS rfl (.tmp rfl (.tmp rfl .nil)) rfl
      · rintro e a w ⟨rfl, rfl, hF, hS⟩
        refine x_ib (n_sq ?_)
        refine q_seq ?_
        refine q_region ?_
        refine q_x (v := (.int .i64 0)) hF hS (ex_assign rfl) rfl rfl fun a hF => ?_
        refine q_x (v := (.bool false)) hF hS (ex_assign rfl) rfl rfl fun a hF => ?_
        refine q_end (n_sq (q_ret ?_))
        obtain rfl := someI hr
        exact ret_of hF hS rfl (.tmp rfl (.tmp rfl .nil)) rfl
    · have hr := cond_t hc3 hr
      refine q_cond_t hF rfl hc3 ?_
      refine q_seq ?_
      refine q_region ?_
      refine q_x (v := (.int .i64 0)) hF hS (ex_assign rfl) rfl rfl fun a hF => ?_
      refine q_x (v := (.bool false)) hF hS (ex_assign rfl) rfl rfl fun a hF => ?_
      refine q_end (n_sq (q_ret (r_sq ?_)))
      obtain rfl := someI hr
      exact ret_of hF hS rfl (.tmp rfl (.tmp rfl .nil)) rfl

theorem c_impl_geoTail (p_a : impl_Frac) (p_k : Int) (r : impl_Frac × Bool) (hr : impl_geoTail p_a p_k = some r) (w0 : World) (m : Mem) (hv : Vis m w0) :
    Ret Try.prog 100 [(.agg #[(.int .i64 p_a.Num), (.int .i64 p_a.Den)]), (.int .i64 p_k)] w0 (fun v _ => v = (.tuple #[(.agg #[(.int .i64 r.1.Num), (.int .i64 r.1.Den)]), (.bool r.2)])) := by
  unfold impl_geoTail at hr
  refine ret_start Try.func100 rfl 31 rfl rfl m hv fun a hF hS => ?_
  refine q_seq ?_
  refine q_region ?_
  refine q_box (cs := [(.int .i64 p_a.Num), (.int .i64 p_a.Den)]) hF hS rfl rfl rfl fun a w b1 hF hS => ?_
  refine q_alloc (cs := [(.int .i64 0), (.int .i64 0)]) hF hS rfl rfl rfl fun a w b2 hF hS => ?_
  refine q_x (v := (.bool false)) hF hS (ex_assign rfl) rfl rfl fun a hF => ?_
  refine q_end (n_sq ?_)
  refine q_seq ?_
  refine q_region ?_
  refine q_x (v := (.agg #[(.int .i64 p_a.Num), (.int .i64 p_a.Den)])) hF hS (ex_loadA (vs := [(.int .i64 p_a.Num), (.int .i64 p_a.Den)]) 1 0 Try.underlying26 rfl sz26 rfl rfl rfl rfl) rfl rfl fun a hF => ?_
  refine q_x (v := (.int .i64 p_k)) hF hS (ex_move rfl) rfl rfl fun a hF => ?_
  obtain ⟨t_3, ht_3, hr⟩ := bindS hr
  refine q_call (vs := [(.agg #[(.int .i64 p_a.Num), (.int .i64 p_a.Den)]), (.int .i64 p_k)]) hF hS Try.func113 (by kernel_rfl) rfl rfl rfl (c_impl_PowFrac p_a p_k t_3 ht_3 _ m hS.vis) ?_
  rintro a w _ rfl hF hS
  refine q_x (v := (.tuple #[(.agg #[(.int .i64 t_3.1.Num), (.int .i64 t_3.1.Den)]), (.bool t_3.2)])) hF hS (ex_move rfl) rfl rfl fun a hF => ?_
  refine q_x (v := (.agg #[(.int .i64 t_3.1.Num), (.int .i64 t_3.1.Den)])) hF hS (ex_extract rfl rfl) rfl rfl fun a hF => ?_
  refine q_x (v := (.bool t_3.2)) hF hS (ex_extract rfl rfl) rfl rfl fun a hF => ?_
  refine q_alloc (cs := [(.int .i64 0), (.int .i64 0)]) hF hS rfl rfl rfl fun a w b4 hF hS => ?_
  refine q_store (vs := [(.int .i64 t_3.1.Num), (.int .i64 t_3.1.Den)]) (cs' := [(.int .i64 t_3.1.Num), (.int .i64 t_3.1.Den)]) 0 0 hF hS sz26 rfl rfl rfl rfl rfl rfl rfl rfl fun a w hF hS => ?_
  refine q_x (v := (.bool t_3.2)) hF hS (ex_assign rfl) rfl rfl fun a hF => ?_
  refine q_end (n_sq ?_)
  refine q_seq ?_
  refine q_seq ?_
  refine q_region ?_
  refine q_x (v := (.bool t_3.2)) hF hS (ex_move rfl) rfl rfl fun a hF => ?_
  refine q_x (v := (.bool (!t_3.2))) hF hS (ex_not rfl) rfl rfl fun a hF => ?_
  refine q_end (n_sq ?_)
  rcases hc1 : (!t_3.2) with _ | _
  · have hr := cond_f hc1 hr
    refine q_cond_f hF rfl hc1 ?_
    refine q_skipc (n_sq ?_)
    refine q_seq ?_
    refine q_region ?_
    refine q_x (v := (.agg #[(.int .i64 p_a.Num), (.int .i64 p_a.Den)])) hF hS (ex_loadA (vs := [(.int .i64 p_a.Num), (.int .i64 p_a.Den)]) 2 0 Try.underlying26 rfl sz26 rfl rfl rfl rfl) rfl rfl fun a hF => ?_
    obtain ⟨t_5, ht_5, hr⟩ := bindS hr
    refine q_call (vs := [(.agg #[(.int .i64 p_a.Num), (.int .i64 p_a.Den)])]) hF hS Try.func136 (by kernel_rfl) rfl rfl rfl (c_impl_moreOne p_a t_5 ht_5 _ m hS.vis) ?_
    rintro a w _ rfl hF hS
    refine q_x (v := (.tuple #[(.agg #[(.int .i64 t_5.1.Num), (.int .i64 t_5.1.Den)]), (.bool t_5.2)])) hF hS (ex_move rfl) rfl rfl fun a hF => ?_
    refine q_x (v := (.agg #[(.int .i64 t_5.1.Num), (.int .i64 t_5.1.Den)])) hF hS (ex_extract rfl rfl) rfl rfl fun a hF => ?_
    refine q_x (v := (.bool t_5.2)) hF hS (ex_extract rfl rfl) rfl rfl fun a hF => ?_
    refine q_alloc (cs := [(.int .i64 0), (.int .i64 0)]) hF hS rfl rfl rfl fun a w b6 hF hS => ?_
    refine q_store (vs := [(.int .i64 t_5.1.Num), (.int .i64 t_5.1.Den)]) (cs' := [(.int .i64 t_5.1.Num), (.int .i64 t_5.1.Den)]) 0 0 hF hS sz26 rfl rfl rfl rfl rfl rfl rfl rfl fun a w hF hS => ?_
    refine q_x (v := (.bool t_5.2)) hF hS (ex_assign rfl) rfl rfl fun a hF => ?_
    refine q_end (n_sq ?_)
    refine q_seq ?_
    refine q_seq ?_
    refine q_region ?_
    refine q_x (v := (.bool t_5.2)) hF hS (ex_move rfl) rfl rfl fun a hF => ?_
    refine q_x (v := (.bool (!t_5.2))) hF hS (ex_not rfl) rfl rfl fun a hF => ?_
    refine q_end (n_sq ?_)
    rcases hc2 : (!t_5.2) with _ | _
    · have hr := cond_f hc2 hr
      refine q_cond_f hF rfl hc2 ?_
      refine q_skipc (n_sq ?_)
      refine q_seq ?_
      refine q_region ?_
      refine q_x (v := (.agg #[(.int .i64 t_3.1.Num), (.int .i64 t_3.1.Den)])) hF hS (ex_loadA (vs := [(.int .i64 t_3.1.Num), (.int .i64 t_3.1.Den)]) 1 0 Try.underlying26 rfl sz26 rfl rfl rfl rfl) rfl rfl fun a hF => ?_
      refine q_x (v := (.agg #[(.int .i64 t_5.1.Num), (.int .i64 t_5.1.Den)])) hF hS (ex_loadA (vs := [(.int .i64 t_5.1.Num), (.int .i64 t_5.1.Den)]) 0 0 Try.underlying26 rfl sz26 rfl rfl rfl rfl) rfl rfl fun a hF => ?_
      obtain ⟨t_7, ht_7, hr⟩ := bindS hr
      refine q_call (vs := [(.agg #[(.int .i64 t_3.1.Num), (.int .i64 t_3.1.Den)]), (.agg #[(.int .i64 t_5.1.Num), (.int .i64 t_5.1.Den)])]) hF hS Try.func75 (by kernel_rfl) rfl rfl rfl (c_impl_DivFrac t_3.1 t_5.1 t_7 ht_7 _ m hS.vis) ?_
      rintro a w _ rfl hF hS
      refine q_x (v := (.agg #[(.int .i64 t_7.1.Num), (.int .i64 t_7.1.Den)])) hF hS (ex_extract rfl rfl) rfl rfl fun a hF => ?_
      refine q_x (v := (.bool t_7.2)) hF hS (ex_extract rfl rfl) rfl rfl fun a hF => ?_
      refine q_store (vs := [(.int .i64 t_7.1.Num), (.int .i64 t_7.1.Den)]) (cs' := [(.int .i64 t_7.1.Num), (.int .i64 t_7.1.Den)]) 2 0 hF hS sz26 rfl rfl rfl rfl rfl rfl rfl rfl fun a w hF hS => ?_
      refine q_x (v := (.bool t_7.2)) hF hS (ex_assign rfl) rfl rfl fun a hF => ?_
      refine q_end (n_sq (q_ret ?_))
      obtain rfl := someI hr
      exact ret_of hF hS rfl (.cellA (us := [(.int .i64 t_7.1.Num), (.int .i64 t_7.1.Den)]) 2 0 Try.underlying26 rfl sz26 rfl rfl rfl rfl (.tmp rfl .nil)) rfl
    · have hr := cond_t hc2 hr
      refine q_cond_t hF rfl hc2 ?_
      refine q_seq ?_
      refine q_region ?_
      refine q_x (v := (.agg #[(.int .i64 0), (.int .i64 0)])) hF hS (ex_build (cells := [(.int .i64 0), (.int .i64 0)]) rfl (by kernel_rfl)) rfl rfl fun a hF => ?_
      refine q_store (vs := [(.int .i64 0), (.int .i64 0)]) (cs' := [(.int .i64 0), (.int .i64 0)]) 2 0 hF hS sz26 rfl rfl rfl rfl rfl rfl rfl rfl fun a w hF hS => ?_
      refine q_x (v := (.bool false)) hF hS (ex_assign rfl) rfl rfl fun a hF => ?_
      refine q_end (n_sq (q_ret (r_sq ?_)))
      obtain rfl := someI hr
      exact ret_of hF hS rfl (.cellA (us := [(.int .i64 0), (.int .i64 0)]) 2 0 Try.underlying26 rfl sz26 rfl rfl rfl rfl (.tmp rfl .nil)) rfl
  · have hr := cond_t hc1 hr
    refine q_cond_t hF rfl hc1 ?_
    refine q_seq ?_
    refine q_region ?_
    refine q_x (v := (.agg #[(.int .i64 0), (.int .i64 0)])) hF hS (ex_build (cells := [(.int .i64 0), (.int .i64 0)]) rfl (by kernel_rfl)) rfl rfl fun a hF => ?_
    refine q_store (vs := [(.int .i64 0), (.int .i64 0)]) (cs' := [(.int .i64 0), (.int .i64 0)]) 1 0 hF hS sz26 rfl rfl rfl rfl rfl rfl rfl rfl fun a w hF hS => ?_
    refine q_x (v := (.bool false)) hF hS (ex_assign rfl) rfl rfl fun a hF => ?_
    refine q_end (n_sq (q_ret (r_sq ?_)))
    obtain rfl := someI hr
    exact ret_of hF hS rfl (.cellA (us := [(.int .i64 0), (.int .i64 0)]) 1 0 Try.underlying26 rfl sz26 rfl rfl rfl rfl (.tmp rfl .nil)) rfl

theorem c_impl_LeastRadius (p_a : impl_Frac) (p_delta : impl_Frac) (r : Int × Bool) (hr : impl_LeastRadius p_a p_delta = some r) (w0 : World) (m : Mem) (hv : Vis m w0) :
    Ret Try.prog 36 [(.agg #[(.int .i64 p_a.Num), (.int .i64 p_a.Den)]), (.agg #[(.int .i64 p_delta.Num), (.int .i64 p_delta.Den)])] w0 (fun v _ => v = (.tuple #[(.int .i64 r.1), (.bool r.2)])) := by
  unfold impl_LeastRadius at hr
  refine ret_start Try.func36 rfl 44 rfl rfl m hv fun a hF hS => ?_
  refine q_seq ?_
  refine q_region ?_
  refine q_box (cs := [(.int .i64 p_a.Num), (.int .i64 p_a.Den)]) hF hS rfl rfl rfl fun a w b1 hF hS => ?_
  refine q_box (cs := [(.int .i64 p_delta.Num), (.int .i64 p_delta.Den)]) hF hS rfl rfl rfl fun a w b2 hF hS => ?_
  refine q_x (v := (.int .i64 0)) hF hS (ex_assign rfl) rfl rfl fun a hF => ?_
  refine q_x (v := (.bool false)) hF hS (ex_assign rfl) rfl rfl fun a hF => ?_
  refine q_end (n_sq ?_)
  refine q_seq ?_
  refine q_seq ?_
  obtain ⟨t_5, hj1, hr⟩ := bindS hr
  refine q_join (fun a w => Fr a 44 [(2, (.pointer (some ⟨b1, 0, none⟩))), (3, (.pointer (some ⟨b2, 0, none⟩))), (17, (.bool t_5))] ∧ St [] w0 w m [[⟨b2, [(.int .i64 p_delta.Num), (.int .i64 p_delta.Den)], 26⟩], [⟨b1, [(.int .i64 p_a.Num), (.int .i64 p_a.Den)], 26⟩]]) ?_ ?_
  · refine q_region ?_
    refine q_x (v := (.agg #[(.int .i64 p_a.Num), (.int .i64 p_a.Den)])) hF hS (ex_loadA (vs := [(.int .i64 p_a.Num), (.int .i64 p_a.Den)]) 1 0 Try.underlying26 rfl sz26 rfl rfl rfl rfl) rfl rfl fun a hF => ?_
    obtain ⟨t_3, ht_3, hj1⟩ := bindS hj1
    refine q_call (vs := [(.agg #[(.int .i64 p_a.Num), (.int .i64 p_a.Den)])]) hF hS Try.func88 (by kernel_rfl) rfl rfl rfl (c_impl_isRatio p_a t_3 ht_3 _ m hS.vis) ?_
    rintro a w _ rfl hF hS
    refine q_x (v := (.bool (!t_3))) hF hS (ex_not rfl) rfl rfl fun a hF => ?_
    refine q_x (v := (.bool (!t_3))) hF hS (ex_move rfl) rfl rfl fun a hF => ?_
    rcases hc2 : (!t_3) with _ | _
    · have hj1 := cond_f hc2 hj1
      refine q_xg (v := (.agg #[(.int .i64 p_delta.Num), (.int .i64 p_delta.Den)])) hF hS (ex_loadA (vs := [(.int .i64 p_delta.Num), (.int .i64 p_delta.Den)]) 0 0 Try.underlying26 rfl sz26 rfl rfl rfl rfl) (wanted_t hF rfl rfl rfl hc2) rfl fun a hF => ?_
      obtain ⟨t_4, ht_4, hj1⟩ := bindS hj1
      refine q_callg (vs := [(.agg #[(.int .i64 p_delta.Num), (.int .i64 p_delta.Den)])]) hF hS (wanted_t hF rfl rfl rfl hc2) Try.func99 (by kernel_rfl) rfl rfl rfl (c_impl_IsFrac p_delta t_4 ht_4 _ m hS.vis) ?_
      rintro a w _ rfl hF hS
      refine q_xg (v := (.bool (!t_4))) hF hS (ex_not rfl) (wanted_t hF rfl rfl rfl hc2) rfl fun a hF => ?_
      refine q_x (v := (.bool (!t_4))) hF hS (ex_pick_f rfl rfl hc2) rfl rfl fun a hF => ?_
      refine q_end (n_jn ?_)
      obtain rfl := someI hj1
      exact ⟨hF.sub ⟨rfl, rfl, rfl, trivial⟩, hS⟩
    · have hj1 := cond_t hc2 hj1
      refine q_skip hF (wanted_f hF rfl rfl rfl hc2 rfl) rfl fun a hF => ?_
      refine q_skip hF (wanted_f hF rfl rfl rfl hc2 rfl) rfl fun a hF => ?_
      refine q_skip hF (wanted_f hF rfl rfl rfl hc2 rfl) rfl fun a hF => ?_
      refine q_x (v := (.bool true)) hF hS (ex_pick_t rfl rfl hc2) rfl rfl fun a hF => ?_
      refine q_end (n_jn ?_)
      obtain rfl := someI hj1
      exact ⟨hF.sub ⟨rfl, rfl, rfl, trivial⟩, hS⟩
  · rintro a w ⟨hF, hS⟩
    refine n_sq ?_
    rcases hc3 : (t_5) with _ | _
    · have hr := cond_f hc3 hr
      refine q_cond_f hF rfl hc3 ?_
      refine q_skipc (n_sq ?_)
      refine q_seq ?_
      refine q_seq ?_
      refine q_region ?_
      refine q_x (v := (.int .i64 0)) hF hS (ex_move rfl) rfl rfl fun a hF => ?_
      refine q_end (n_sq ?_)
      refine q_block ?_
      obtain ⟨o4, hl4, hr⟩ := bindS hr
      refine q_loop (fun (t_6 : Int) a w => Fr a 44 [(2, (.pointer (some ⟨b1, 0, none⟩))), (3, (.pointer (some ⟨b2, 0, none⟩))), (18, (.int .i64 t_6))] ∧ St [] w0 w m [[⟨b2, [(.int .i64 p_delta.Num), (.int .i64 p_delta.Den)], 26⟩], [⟨b1, [(.int .i64 p_a.Num), (.int .i64 p_a.Den)], 26⟩]]) (fun (o : (Unit) ⊕ (Int × Bool)) e a w => o = .inl () ∧ e = .exit 0 ∧ Fr a 44 [] ∧ St [] w0 w m []) hl4 ⟨hF.sub ⟨rfl, rfl, rfl, trivial⟩, hS⟩ ?_ ?_
      · clear hF hS
        rintro t_6 a w st ⟨hF, hS⟩ hb4
        unfold impl_LeastRadius_l1 at hb4
        refine q_seq ?_
        refine q_region ?_
        refine q_x (v := (.bool (decide (t_6 < 60)))) hF hS (ex_ibin rfl rfl rfl) rfl rfl fun a hF => ?_
        refine q_end (n_sq ?_)
        refine q_seq ?_
        rcases hc5 : (decide (t_6 < 60)) with _ | _
        · have hb4 := cond_f hc5 hb4
          refine q_cond_f hF rfl hc5 ?_
          refine q_exit (x_sq ?_)
          obtain rfl := someI hb4
          exact ⟨nofun, .inl ⟨rfl, rfl, hF.sub trivial, hS.mask [false, false]⟩⟩
        · have hb4 := cond_t hc5 hb4
          refine q_cond_t hF rfl hc5 ?_
          refine q_skipc (n_sq ?_)
          refine q_seq ?_
          refine q_block ?_
          refine q_seq ?_
          refine q_region ?_
          refine q_x (v := (.int .i64 t_6)) hF hS (ex_move rfl) rfl rfl fun a hF => ?_
          refine q_x (v := (.int .i64 t_6)) hF hS (ex_assign rfl) rfl rfl fun a hF => ?_
          refine q_end (n_sq ?_)
          refine q_seq ?_
          refine q_region ?_
          refine q_x (v := (.agg #[(.int .i64 p_a.Num), (.int .i64 p_a.Den)])) hF hS (ex_loadA (vs := [(.int .i64 p_a.Num), (.int .i64 p_a.Den)]) 1 0 Try.underlying26 rfl sz26 rfl rfl rfl rfl) rfl rfl fun a hF => ?_
          refine q_x (v := (.int .i64 t_6)) hF hS (ex_move rfl) rfl rfl fun a hF => ?_
          refine q_x (v := (.int .i64 (w64 (t_6 + 1)))) hF hS (ex_ibin rfl rfl rfl) rfl rfl fun a hF => ?_
          obtain ⟨t_7, ht_7, hb4⟩ := bindS hb4
          refine q_call (vs := [(.agg #[(.int .i64 p_a.Num), (.int .i64 p_a.Den)]), (.int .i64 (w64 (t_6 + 1)))]) hF hS Try.func100 (by kernel_rfl) rfl rfl rfl (c_impl_geoTail p_a (w64 (t_6 + 1)) t_7 ht_7 _ m hS.vis) ?_
          rintro a w _ rfl hF hS
          refine q_x (v := (.tuple #[(.agg #[(.int .i64 t_7.1.Num), (.int .i64 t_7.1.Den)]), (.bool t_7.2)])) hF hS (ex_move rfl) rfl rfl fun a hF => ?_
          refine q_x (v := (.agg #[(.int .i64 t_7.1.Num), (.int .i64 t_7.1.Den)])) hF hS (ex_extract rfl rfl) rfl rfl fun a hF => ?_
          refine q_x (v := (.bool t_7.2)) hF hS (ex_extract rfl rfl) rfl rfl fun a hF => ?_
          refine q_alloc (cs := [(.int .i64 0), (.int .i64 0)]) hF hS rfl rfl rfl fun a w b8 hF hS => ?_
          refine q_store (vs := [(.int .i64 t_7.1.Num), (.int .i64 t_7.1.Den)]) (cs' := [(.int .i64 t_7.1.Num), (.int .i64 t_7.1.Den)]) 0 0 hF hS sz26 rfl rfl rfl rfl rfl rfl rfl rfl fun a w hF hS => ?_
          refine q_x (v := (.bool t_7.2)) hF hS (ex_assign rfl) rfl rfl fun a hF => ?_
          refine q_end (n_sq ?_)
          refine q_seq ?_
          refine q_seq ?_
          refine q_region ?_
          refine q_x (v := (.bool t_7.2)) hF hS (ex_move rfl) rfl rfl fun a hF => ?_
          refine q_x (v := (.bool (!t_7.2))) hF hS (ex_not rfl) rfl rfl fun a hF => ?_
          refine q_end (n_sq ?_)
          rcases hc6 : (!t_7.2) with _ | _
          · have hb4 := cond_f hc6 hb4
            refine q_cond_f hF rfl hc6 ?_
            refine q_skipc (n_sq ?_)
            refine q_seq ?_
            refine q_region ?_
            refine q_x (v := (.agg #[(.int .i64 2), (.int .i64 1)])) hF hS (ex_build (cells := [(.int .i64 2), (.int .i64 1)]) rfl (by kernel_rfl)) rfl rfl fun a hF => ?_
            refine q_x (v := (.agg #[(.int .i64 t_7.1.Num), (.int .i64 t_7.1.Den)])) hF hS (ex_loadA (vs := [(.int .i64 t_7.1.Num), (.int .i64 t_7.1.Den)]) 0 0 Try.underlying26 rfl sz26 rfl rfl rfl rfl) rfl rfl fun a hF => ?_
            obtain ⟨t_9, ht_9, hb4⟩ := bindS hb4
            refine q_call (vs := [(.agg #[(.int .i64 2), (.int .i64 1)]), (.agg #[(.int .i64 t_7.1.Num), (.int .i64 t_7.1.Den)])]) hF hS Try.func101 (by kernel_rfl) rfl rfl rfl (c_impl_MulFrac (impl_Frac.mk 2 1) t_7.1 t_9 ht_9 _ m hS.vis) ?_
            rintro a w _ rfl hF hS
            refine q_x (v := (.tuple #[(.agg #[(.int .i64 t_9.1.Num), (.int .i64 t_9.1.Den)]), (.bool t_9.2)])) hF hS (ex_move rfl) rfl rfl fun a hF => ?_
            refine q_x (v := (.agg #[(.int .i64 t_9.1.Num), (.int .i64 t_9.1.Den)])) hF hS (ex_extract rfl rfl) rfl rfl fun a hF => ?_
            refine q_x (v := (.bool t_9.2)) hF hS (ex_extract rfl rfl) rfl rfl fun a hF => ?_
            refine q_alloc (cs := [(.int .i64 0), (.int .i64 0)]) hF hS rfl rfl rfl fun a w b10 hF hS => ?_
            refine q_store (vs := [(.int .i64 t_9.1.Num), (.int .i64 t_9.1.Den)]) (cs' := [(.int .i64 t_9.1.Num), (.int .i64 t_9.1.Den)]) 0 0 hF hS sz26 rfl rfl rfl rfl rfl rfl rfl rfl fun a w hF hS => ?_
            refine q_x (v := (.bool t_9.2)) hF hS (ex_assign rfl) rfl rfl fun a hF => ?_
            refine q_end (n_sq ?_)
            refine q_seq ?_
            refine q_seq ?_
            refine q_region ?_
            refine q_x (v := (.bool t_9.2)) hF hS (ex_move rfl) rfl rfl fun a hF => ?_
            refine q_x (v := (.bool (!t_9.2))) hF hS (ex_not rfl) rfl rfl fun a hF => ?_
            refine q_end (n_sq ?_)
            rcases hc7 : (!t_9.2) with _ | _
            · have hb4 := cond_f hc7 hb4
              refine q_cond_f hF rfl hc7 ?_
              refine q_skipc (n_sq ?_)
              refine q_seq ?_
              refine q_region ?_
              refine q_x (v := (.agg #[(.int .i64 t_9.1.Num), (.int .i64 t_9.1.Den)])) hF hS (ex_loadA (vs := [(.int .i64 t_9.1.Num), (.int .i64 t_9.1.Den)]) 0 0 Try.underlying26 rfl sz26 rfl rfl rfl rfl) rfl rfl fun a hF => ?_
              refine q_x (v := (.agg #[(.int .i64 p_delta.Num), (.int .i64 p_delta.Den)])) hF hS (ex_loadA (vs := [(.int .i64 p_delta.Num), (.int .i64 p_delta.Den)]) 2 0 Try.underlying26 rfl sz26 rfl rfl rfl rfl) rfl rfl fun a hF => ?_
              obtain ⟨t_11, ht_11, hb4⟩ := bindS hb4
              refine q_call (vs := [(.agg #[(.int .i64 t_9.1.Num), (.int .i64 t_9.1.Den)]), (.agg #[(.int .i64 p_delta.Num), (.int .i64 p_delta.Den)])]) hF hS Try.func102 (by kernel_rfl) rfl rfl rfl (c_impl_cmpFrac t_9.1 p_delta t_11 ht_11 _ m hS.vis) ?_
              rintro a w _ rfl hF hS
              refine q_x (v := (.bool (decide (t_11 ≤ 0)))) hF hS (ex_ibin rfl rfl rfl) rfl rfl fun a hF => ?_
              refine q_end (n_sq ?_)
              rcases hc8 : (decide (t_11 ≤ 0)) with _ | _
              · have hb4 := cond_f hc8 hb4
                refine q_cond_f hF rfl hc8 ?_
                refine q_skipc (n_ib (n_sq ?_))
                refine q_region ?_
                refine q_x (v := (.int .i64 (w64 (t_6 + 1)))) hF hS (ex_ibin rfl rfl rfl) rfl rfl fun a hF => ?_
                refine q_x (v := (.int .i64 (w64 (t_6 + 1)))) hF hS (ex_move rfl) rfl rfl fun a hF => ?_
                refine q_end ?_
                obtain rfl := someI hb4
                exact ⟨rfl, hF.sub ⟨rfl, rfl, rfl, trivial⟩, hS.mask [false, false, true, true]⟩
              · have hb4 := cond_t hc8 hb4
                refine q_cond_t hF rfl hc8 ?_
                refine q_seq ?_
                refine q_region ?_
                refine q_x (v := (.int .i64 t_6)) hF hS (ex_move rfl) rfl rfl fun a hF => ?_
                refine q_x (v := (.int .i64 t_6)) hF hS (ex_assign rfl) rfl rfl fun a hF => ?_
                refine q_x (v := (.bool true)) hF hS (ex_assign rfl) rfl rfl fun a hF => ?_
                refine q_end (n_sq (q_ret (r_ib (r_sq ?_))))
                obtain rfl := someI hb4
                refine ⟨nofun, .inr fun ho => ?_⟩
                subst ho
                refine r_ib (r_sq ?_)
                obtain rfl := someI hr
                exact ret_of hF hS rfl (.tmp rfl (.tmp rfl .nil)) rfl
            · have hb4 := cond_t hc7 hb4
              refine q_cond_t hF rfl hc7 ?_
              refine q_seq ?_
              refine q_region ?_
              refine q_x (v := (.int .i64 0)) hF hS (ex_assign rfl) rfl rfl fun a hF => ?_
              refine q_x (v := (.bool false)) hF hS (ex_assign rfl) rfl rfl fun a hF => ?_
              refine q_end (n_sq (q_ret (r_sq (r_ib (r_sq ?_)))))
              obtain rfl := someI hb4
              refine ⟨nofun, .inr fun ho => ?_⟩
              subst ho
              refine r_ib (r_sq ?_)
              obtain rfl := someI hr
              exact ret_of hF hS rfl (.tmp rfl (.tmp rfl .nil)) rfl
          · have hb4 := cond_t hc6 hb4
            refine q_cond_t hF rfl hc6 ?_
            refine q_seq ?_
            refine q_region ?_
            refine q_x (v := (.int .i64 0)) hF hS (ex_assign rfl) rfl rfl fun a hF => ?_
            refine q_x (v := (.bool false)) hF hS (ex_assign rfl) rfl rfl fun a hF => ?_
            refine q_end (n_sq (q_ret (r_sq (r_ib (r_sq ?_)))))
            obtain rfl := someI hb4
            refine ⟨nofun, .inr fun ho => ?_⟩
            subst ho
            refine r_ib (r_sq ?_)
            obtain rfl := someI hr
            exact ret_of hF hS rfl (.tmp rfl (.tmp rfl .nil)) rfl
      · rintro e a w ⟨rfl, rfl, hF, hS⟩
        refine x_ib (n_sq ?_)
        refine q_seq ?_
        refine q_region ?_
        refine q_x (v := (.int .i64 0)) hF hS (ex_assign rfl) rfl rfl fun a hF => ?_
        refine q_x (v := (.bool false)) hF hS (ex_assign rfl) rfl rfl fun a hF => ?_
        refine q_end (n_sq (q_ret ?_))
        obtain rfl := someI hr
        exact ret_of hF hS rfl (.tmp rfl (.tmp rfl .nil)) rfl
    · have hr := cond_t hc3 hr
      refine q_cond_t hF rfl hc3 ?_
      refine q_seq ?_
      refine q_region ?_
      refine q_x (v := (.int .i64 0)) hF hS (ex_assign rfl) rfl rfl fun a hF => ?_
      refine q_x (v := (.bool false)) hF hS (ex_assign rfl) rfl rfl fun a hF => ?_
      refine q_end (n_sq (q_ret (r_sq ?_)))
      obtain rfl := someI hr
      exact ret_of hF hS rfl (.tmp rfl (.tmp rfl .nil)) rfl

theorem c_laws_FnExactLeastRadius (p_aA : laws_Frac) (p_aDelta : laws_Frac) (r : Bool) (hr : laws_FnExactLeastRadius p_aA p_aDelta = some r) (w0 : World) (m : Mem) (hv : Vis m w0) :
    Ret Try.prog 8 [(.agg #[(.int .i64 p_aA.Num), (.int .i64 p_aA.Den)]), (.agg #[(.int .i64 p_aDelta.Num), (.int .i64 p_aDelta.Den)])] w0 (fun v _ => v = (.bool r)) := by
  unfold laws_FnExactLeastRadius at hr
  refine ret_start Try.func8 rfl 33 rfl rfl m hv fun a hF hS => ?_
  refine q_seq ?_
  refine q_region ?_
  refine q_box (cs := [(.int .i64 p_aA.Num), (.int .i64 p_aA.Den)]) hF hS rfl rfl rfl fun a w b1 hF hS => ?_
  refine q_box (cs := [(.int .i64 p_aDelta.Num), (.int .i64 p_aDelta.Den)]) hF hS rfl rfl rfl fun a w b2 hF hS => ?_
  refine q_x (v := (.bool false)) hF hS (ex_assign rfl) rfl rfl fun a hF => ?_
  refine q_end (n_sq ?_)
  refine q_seq ?_
  refine e_region [] mixed fun w' hw' => ?_
  have hS := hS.below hw'
  refine e_x (v := (.agg #[(.int .i64 p_aA.Num), (.int .i64 p_aA.Den)])) 0 hF hS rfl (ex_loadA (vs := [(.int .i64 p_aA.Num), (.int .i64 p_aA.Den)]) 1 0 Try.underlying23 rfl sz23 rfl rfl rfl rfl) rfl rfl (by kernel_rfl) (by kernel_rfl) (by kernel_rfl) (by kernel_rfl) fun a hF => ?_
  refine e_x (v := (.agg #[(.int .i64 p_aDelta.Num), (.int .i64 p_aDelta.Den)])) 2 hF hS rfl (ex_loadA (vs := [(.int .i64 p_aDelta.Num), (.int .i64 p_aDelta.Den)]) 0 0 Try.underlying23 rfl sz23 rfl rfl rfl rfl) rfl rfl (by kernel_rfl) (by kernel_rfl) (by kernel_rfl) (by kernel_rfl) fun a hF => ?_
  refine e_one 1 (by kernel_rfl) ?_
  obtain ⟨t_4, ht_4, hr⟩ := bindS hr
  refine e_call (vs := [(.agg #[(.int .i64 p_aA.Num), (.int .i64 p_aA.Den)])]) hF hS rfl Try.func30 (by kernel_rfl) rfl rfl rfl (c_laws_toFrac p_aA t_4 ht_4 _ m hS.vis) ?_
  rintro a w _ rfl hF hS
  refine e_one 3 (by kernel_rfl) ?_
  obtain ⟨t_5, ht_5, hr⟩ := bindS hr
  refine e_call (vs := [(.agg #[(.int .i64 p_aDelta.Num), (.int .i64 p_aDelta.Den)])]) hF hS rfl Try.func30 (by kernel_rfl) rfl rfl rfl (c_laws_toFrac p_aDelta t_5 ht_5 _ m hS.vis) ?_
  rintro a w _ rfl hF hS
  refine e_one 4 (by kernel_rfl) ?_
  obtain ⟨t_6, ht_6, hr⟩ := bindS hr
  refine e_call (vs := [(.agg #[(.int .i64 t_4.Num), (.int .i64 t_4.Den)]), (.agg #[(.int .i64 t_5.Num), (.int .i64 t_5.Den)])]) hF hS rfl Try.func35 (by kernel_rfl) rfl rfl rfl (c_spec_LeastRadius t_4 t_5 t_6 ht_6 _ m hS.vis) ?_
  rintro a w _ rfl hF hS
  refine e_p (v := (.tuple #[(.int .i64 t_6.1), (.bool t_6.2)])) 5 hF rfl (ex_move rfl) rfl rfl (by kernel_rfl) (by kernel_rfl) (by kernel_rfl) fun a hF => ?_
  refine e_p (v := (.int .i64 t_6.1)) 6 hF rfl (ex_extract rfl rfl) rfl rfl (by kernel_rfl) (by kernel_rfl) (by kernel_rfl) fun a hF => ?_
  refine e_p (v := (.bool t_6.2)) 7 hF rfl (ex_extract rfl rfl) rfl rfl (by kernel_rfl) (by kernel_rfl) (by kernel_rfl) fun a hF => ?_
  refine e_p (v := (.int .i64 t_6.1)) 8 hF rfl (ex_assign rfl) rfl rfl (by kernel_rfl) (by kernel_rfl) (by kernel_rfl) fun a hF => ?_
  refine e_p (v := (.bool t_6.2)) 9 hF rfl (ex_assign rfl) rfl rfl (by kernel_rfl) (by kernel_rfl) (by kernel_rfl) fun a hF => ?_
  refine e_end (by kernel_rfl) (n_sq ?_) _
  refine q_seq ?_
  refine e_region [] mixed fun w' hw' => ?_
  have hS := hS.below hw'
  refine e_x (v := (.agg #[(.int .i64 p_aA.Num), (.int .i64 p_aA.Den)])) 0 hF hS rfl (ex_loadA (vs := [(.int .i64 p_aA.Num), (.int .i64 p_aA.Den)]) 1 0 Try.underlying23 rfl sz23 rfl rfl rfl rfl) rfl rfl (by kernel_rfl) (by kernel_rfl) (by kernel_rfl) (by kernel_rfl) fun a hF => ?_
  refine e_x (v := (.agg #[(.int .i64 p_aDelta.Num), (.int .i64 p_aDelta.Den)])) 2 hF hS rfl (ex_loadA (vs := [(.int .i64 p_aDelta.Num), (.int .i64 p_aDelta.Den)]) 0 0 Try.underlying23 rfl sz23 rfl rfl rfl rfl) rfl rfl (by kernel_rfl) (by kernel_rfl) (by kernel_rfl) (by kernel_rfl) fun a hF => ?_
  refine e_one 1 (by kernel_rfl) ?_
  obtain ⟨t_8, ht_8, hr⟩ := bindS hr
  refine e_call (vs := [(.agg #[(.int .i64 p_aA.Num), (.int .i64 p_aA.Den)])]) hF hS rfl Try.func30 (by kernel_rfl) rfl rfl rfl (c_laws_toFrac p_aA t_8 ht_8 _ m hS.vis) ?_
  rintro a w _ rfl hF hS
  refine e_one 3 (by kernel_rfl) ?_
  obtain ⟨t_9, ht_9, hr⟩ := bindS hr
  refine e_call (vs := [(.agg #[(.int .i64 p_aDelta.Num), (.int .i64 p_aDelta.Den)])]) hF hS rfl Try.func30 (by kernel_rfl) rfl rfl rfl (c_laws_toFrac p_aDelta t_9 ht_9 _ m hS.vis) ?_
  rintro a w _ rfl hF hS
  refine e_one 4 (by kernel_rfl) ?_
  obtain ⟨t_10, ht_10, hr⟩ := bindS hr
  refine e_call (vs := [(.agg #[(.int .i64 t_8.Num), (.int .i64 t_8.Den)]), (.agg #[(.int .i64 t_9.Num), (.int .i64 t_9.Den)])]) hF hS rfl Try.func36 (by kernel_rfl) rfl rfl rfl (c_impl_LeastRadius t_8 t_9 t_10 ht_10 _ m hS.vis) ?_
  rintro a w _ rfl hF hS
  refine e_p (v := (.tuple #[(.int .i64 t_10.1), (.bool t_10.2)])) 5 hF rfl (ex_move rfl) rfl rfl (by kernel_rfl) (by kernel_rfl) (by kernel_rfl) fun a hF => ?_
  refine e_p (v := (.int .i64 t_10.1)) 6 hF rfl (ex_extract rfl rfl) rfl rfl (by kernel_rfl) (by kernel_rfl) (by kernel_rfl) fun a hF => ?_
  refine e_p (v := (.bool t_10.2)) 7 hF rfl (ex_extract rfl rfl) rfl rfl (by kernel_rfl) (by kernel_rfl) (by kernel_rfl) fun a hF => ?_
  refine e_p (v := (.int .i64 t_10.1)) 8 hF rfl (ex_assign rfl) rfl rfl (by kernel_rfl) (by kernel_rfl) (by kernel_rfl) fun a hF => ?_
  refine e_p (v := (.bool t_10.2)) 9 hF rfl (ex_assign rfl) rfl rfl (by kernel_rfl) (by kernel_rfl) (by kernel_rfl) fun a hF => ?_
  refine e_end (by kernel_rfl) (n_sq ?_) _
  refine q_seq ?_
  refine q_seq ?_
  obtain ⟨t_11, hj1, hr⟩ := bindS hr
  refine q_join (fun a w => Fr a 33 [(32, (.bool t_11))] ∧ St [] w0 w m []) ?_ ?_
  · refine q_region ?_
    refine q_x (v := (.int .i64 t_10.1)) hF hS (ex_move rfl) rfl rfl fun a hF => ?_
    refine q_x (v := (.int .i64 t_6.1)) hF hS (ex_move rfl) rfl rfl fun a hF => ?_
    refine q_x (v := (.bool (t_10.1 != t_6.1))) hF hS (ex_ibin rfl rfl rfl) rfl rfl fun a hF => ?_
    refine q_x (v := (.bool (t_10.1 != t_6.1))) hF hS (ex_move rfl) rfl rfl fun a hF => ?_
    rcases hc2 : (t_10.1 != t_6.1) with _ | _
    · have hj1 := cond_f hc2 hj1
      refine q_xg (v := (.bool t_10.2)) hF hS (ex_move rfl) (wanted_t hF rfl rfl rfl hc2) rfl fun a hF => ?_
      refine q_xg (v := (.bool t_6.2)) hF hS (ex_move rfl) (wanted_t hF rfl rfl rfl hc2) rfl fun a hF => ?_
      refine q_xg (v := (.bool (t_10.2 != t_6.2))) hF hS (ex_bne Try.underlying4 rfl rfl) (wanted_t hF rfl rfl rfl hc2) rfl fun a hF => ?_
      refine q_x (v := (.bool (t_10.2 != t_6.2))) hF hS (ex_pick_f rfl rfl hc2) rfl rfl fun a hF => ?_
      refine q_end (n_jn ?_)
      obtain rfl := someI hj1
      exact ⟨hF.sub ⟨rfl, trivial⟩, hS.mask [false, false]⟩
    · have hj1 := cond_t hc2 hj1
      refine q_skip hF (wanted_f hF rfl rfl rfl hc2 rfl) rfl fun a hF => ?_
      refine q_skip hF (wanted_f hF rfl rfl rfl hc2 rfl) rfl fun a hF => ?_
      refine q_skip hF (wanted_f hF rfl rfl rfl hc2 rfl) rfl fun a hF => ?_
      refine q_x (v := (.bool true)) hF hS (ex_pick_t rfl rfl hc2) rfl rfl fun a hF => ?_
      refine q_end (n_jn ?_)
      obtain rfl := someI hj1
      exact ⟨hF.sub ⟨rfl, trivial⟩, hS.mask [false, false]⟩
  · rintro a w ⟨hF, hS⟩
    refine n_sq ?_
    rcases hc3 : (t_11) with _ | _
    · have hr := cond_f hc3 hr
      refine q_cond_f hF rfl hc3 ?_
      refine q_skipc (n_sq ?_)
      refine q_seq ?_
      refine q_region ?_
      refine q_x (v := (.bool true)) hF hS (ex_assign rfl) rfl rfl fun a hF => ?_
      refine q_end (n_sq (q_ret ?_))
      obtain rfl := someI hr
      exact ret_of hF hS rfl (.tmp rfl .nil) rfl
    · have hr := cond_t hc3 hr
      refine q_cond_t hF rfl hc3 ?_
      refine q_seq ?_
      refine q_region ?_
      refine q_x (v := (.bool false)) hF hS (ex_assign rfl) rfl rfl fun a hF => ?_
      refine q_end (n_sq (q_ret (r_sq ?_)))
      obtain rfl := someI hr
      exact ret_of hF hS rfl (.tmp rfl .nil) rfl

end Go.Proofs.Ytkgmphgbmjbfhaa
