/- The walks of the functions: each returns what its plain function says. -/
import Derived.Test.YtbmeacngcdekbabDefs
import Derived.Test.YtbmeacngcdekbabRows
namespace Go.Proofs.Ytbmeacngcdekbab
open Go.Gx Go.Gx.F Go.RowKit
set_option linter.all false
set_option maxRecDepth 10000

theorem mixed : Try.prog.follows .mixedOrders = true := by kernel_rfl
theorem sz3 : szOf Try.prog 3 = some 1 := by kernel_rfl
theorem sz23 : szOf Try.prog 23 = some 2 := by kernel_rfl
theorem sz24 : szOf Try.prog 24 = some 2 := by kernel_rfl
theorem sz33 : szOf Try.prog 33 = some 4 := by kernel_rfl
theorem sz35 : szOf Try.prog 35 = some 4 := by kernel_rfl

theorem c_laws_toFrac (p_a : laws_Frac) (r : impl_Frac) (hr : laws_toFrac p_a = some r) (w0 : World) (m : Mem) (hv : Vis m w0) :
    Ret Try.prog 9 [(.agg #[(.int .i64 p_a.Num), (.int .i64 p_a.Den)])] w0 fun v _ => v = (.agg #[(.int .i64 r.Num), (.int .i64 r.Den)]) := by
  unfold laws_toFrac at hr
  refine ret_start Try.func9 rfl 11 rfl rfl m hv fun a hF hS => ?_
  refine q_seq ?_
  refine q_region ?_
  refine q_box (cs := [(.int .i64 p_a.Num), (.int .i64 p_a.Den)]) hF hS rfl rfl rfl fun a w b1 hF hS => ?_
  refine q_alloc (cs := [(.int .i64 0), (.int .i64 0)]) hF hS rfl rfl rfl fun a w b2 hF hS => ?_
  refine q_end (n_sq ?_)
  refine q_seq ?_
  refine q_region ?_
  refine q_alloc (cs := [(.int .i64 0), (.int .i64 0)]) hF hS rfl rfl rfl fun a w b3 hF hS => ?_
  refine q_end (n_sq ?_)
  refine q_seq ?_
  refine q_region ?_
  refine q_x (v := (.pointer (some ⟨b1, 0, none⟩))) hF hS (ex_fieldAddr Try.underlying23 rfl sz3 rfl rfl) rfl rfl fun a hF => ?_
  refine q_x (v := (.int .i64 p_a.Num)) hF hS (ex_load1 2 0 Try.underlying3 rfl rfl rfl rfl) rfl rfl fun a hF => ?_
  refine q_x (v := (.pointer (some ⟨b3, 0, none⟩))) hF hS (ex_fieldAddr Try.underlying24 rfl sz3 rfl rfl) rfl rfl fun a hF => ?_
  refine q_store (vs := [(.int .i64 p_a.Num)]) (cs' := [(.int .i64 p_a.Num), (.int .i64 0)]) 0 0 hF hS sz3 rfl rfl rfl rfl rfl rfl rfl rfl fun a w hF hS => ?_
  refine q_end (n_sq ?_)
  refine q_seq ?_
  refine q_region ?_
  refine q_x (v := (.pointer (some ⟨b1, 1, none⟩))) hF hS (ex_fieldAddr Try.underlying23 rfl sz3 rfl rfl) rfl rfl fun a hF => ?_
  refine q_x (v := (.int .i64 p_a.Den)) hF hS (ex_load1 2 0 Try.underlying3 rfl rfl rfl rfl) rfl rfl fun a hF => ?_
  refine q_x (v := (.pointer (some ⟨b3, 1, none⟩))) hF hS (ex_fieldAddr Try.underlying24 rfl sz3 rfl rfl) rfl rfl fun a hF => ?_
  refine q_store (vs := [(.int .i64 p_a.Den)]) (cs' := [(.int .i64 p_a.Num), (.int .i64 p_a.Den)]) 0 0 hF hS sz3 rfl rfl rfl rfl rfl rfl rfl rfl fun a w hF hS => ?_
  refine q_end (n_sq ?_)
  refine q_seq ?_
  refine q_region ?_
  refine q_x (v := (.agg #[(.int .i64 p_a.Num), (.int .i64 p_a.Den)])) hF hS (ex_loadA (vs := [(.int .i64 p_a.Num), (.int .i64 p_a.Den)]) 0 0 Try.underlying24 rfl sz24 rfl rfl rfl rfl) rfl rfl fun a hF => ?_
  refine q_store (vs := [(.int .i64 p_a.Num), (.int .i64 p_a.Den)]) (cs' := [(.int .i64 p_a.Num), (.int .i64 p_a.Den)]) 1 0 hF hS sz24 rfl rfl rfl rfl rfl rfl rfl rfl fun a w hF hS => ?_
  refine q_end (n_sq (q_ret ?_))
  obtain rfl := someI hr
  exact ret_of hF hS rfl (.cellA (us := [(.int .i64 p_a.Num), (.int .i64 p_a.Den)]) 1 0 Try.underlying24 rfl sz24 rfl rfl rfl rfl .nil) rfl

theorem c_spec_l1In (p_n : Int) (p_lo : Int) (p_hi : Int) (r : Bool) (hr : spec_l1In p_n p_lo p_hi = some r) (w0 : World) (m : Mem) (hv : Vis m w0) :
    Ret Try.prog 23 [(.int .i64 p_n), (.int .i64 p_lo), (.int .i64 p_hi)] w0 fun v _ => v = (.bool r) := by
  unfold spec_l1In at hr
  refine ret_start Try.func23 rfl 15 rfl rfl m hv fun a hF hS => ?_
  refine q_seq ?_
  refine q_region ?_
  refine q_x (v := (.bool false)) hF hS (ex_assign rfl) rfl rfl fun a hF => ?_
  refine q_end (n_sq ?_)
  refine q_seq ?_
  obtain ⟨t_1, hj1, hr⟩ := bindS hr
  refine q_join (fun a w => Fr a 15 [(6, (.bool t_1))] ∧ St [] w0 w m []) ?_ ?_
  · refine q_region ?_
    refine q_x (v := (.int .i64 p_n)) hF hS (ex_move rfl) rfl rfl fun a hF => ?_
    refine q_x (v := (.int .i64 p_lo)) hF hS (ex_move rfl) rfl rfl fun a hF => ?_
    refine q_x (v := (.bool (decide (p_lo ≤ p_n)))) hF hS (ex_ibin rfl rfl rfl) rfl rfl fun a hF => ?_
    refine q_x (v := (.bool (decide (p_lo ≤ p_n)))) hF hS (ex_move rfl) rfl rfl fun a hF => ?_
    rcases hc2 : (decide (p_lo ≤ p_n)) with _ | _
    · have hj1 := cond_f hc2 hj1
      refine q_skip hF (wanted_f hF rfl rfl rfl hc2 rfl) rfl fun a hF => ?_
      refine q_skip hF (wanted_f hF rfl rfl rfl hc2 rfl) rfl fun a hF => ?_
      refine q_skip hF (wanted_f hF rfl rfl rfl hc2 rfl) rfl fun a hF => ?_
      refine q_x (v := (.bool false)) hF hS (ex_pick_f rfl rfl hc2) rfl rfl fun a hF => ?_
      refine q_x (v := (.bool false)) hF hS (ex_assign rfl) rfl rfl fun a hF => ?_
      refine q_end (n_jn ?_)
      obtain rfl := someI hj1
      exact ⟨hF.sub ⟨rfl, trivial⟩, hS⟩
    · have hj1 := cond_t hc2 hj1
      refine q_xg (v := (.int .i64 p_n)) hF hS (ex_move rfl) (wanted_t hF rfl rfl rfl hc2) rfl fun a hF => ?_
      refine q_xg (v := (.int .i64 p_hi)) hF hS (ex_move rfl) (wanted_t hF rfl rfl rfl hc2) rfl fun a hF => ?_
      refine q_xg (v := (.bool (decide (p_n ≤ p_hi)))) hF hS (ex_ibin rfl rfl rfl) (wanted_t hF rfl rfl rfl hc2) rfl fun a hF => ?_
      refine q_x (v := (.bool (decide (p_n ≤ p_hi)))) hF hS (ex_pick_t rfl rfl hc2) rfl rfl fun a hF => ?_
      refine q_x (v := (.bool (decide (p_n ≤ p_hi)))) hF hS (ex_assign rfl) rfl rfl fun a hF => ?_
      refine q_end (n_jn ?_)
      obtain rfl := someI hj1
      exact ⟨hF.sub ⟨rfl, trivial⟩, hS⟩
  · rintro a w ⟨hF, hS⟩
    refine n_sq (q_ret ?_)
    obtain rfl := someI hr
    exact ret_of hF hS rfl (.tmp rfl .nil) rfl

theorem c_spec_l1Most (p_a : Int) (p_b : Int) (r : Int) (hr : spec_l1Most p_a p_b = some r) (w0 : World) (m : Mem) (hv : Vis m w0) :
    Ret Try.prog 53 [(.int .i64 p_a), (.int .i64 p_b)] w0 fun v _ => v = (.int .i64 r) := by
  unfold spec_l1Most at hr
  refine ret_start Try.func53 rfl 10 rfl rfl m hv fun a hF hS => ?_
  refine q_seq ?_
  refine q_region ?_
  refine q_x (v := (.int .i64 0)) hF hS (ex_assign rfl) rfl rfl fun a hF => ?_
  refine q_end (n_sq ?_)
  refine q_seq ?_
  refine q_seq ?_
  refine q_region ?_
  refine q_x (v := (.int .i64 p_a)) hF hS (ex_move rfl) rfl rfl fun a hF => ?_
  refine q_x (v := (.int .i64 p_b)) hF hS (ex_move rfl) rfl rfl fun a hF => ?_
  refine q_x (v := (.bool (decide (p_b < p_a)))) hF hS (ex_ibin rfl rfl rfl) rfl rfl fun a hF => ?_
  refine q_end (n_sq ?_)
  rcases hc1 : (decide (p_b < p_a)) with _ | _
  · have hr := cond_f hc1 hr
    refine q_cond_f hF rfl hc1 ?_
    refine q_skipc (n_sq ?_)
    refine q_seq ?_
    refine q_region ?_
    refine q_x (v := (.int .i64 p_b)) hF hS (ex_move rfl) rfl rfl fun a hF => ?_
    refine q_x (v := (.int .i64 p_b)) hF hS (ex_assign rfl) rfl rfl fun a hF => ?_
    refine q_end (n_sq (q_ret ?_))
    obtain rfl := someI hr
    exact ret_of hF hS rfl (.tmp rfl .nil) rfl
  · have hr := cond_t hc1 hr
    refine q_cond_t hF rfl hc1 ?_
    refine q_seq ?_
    refine q_region ?_
    refine q_x (v := (.int .i64 p_a)) hF hS (ex_move rfl) rfl rfl fun a hF => ?_
    refine q_x (v := (.int .i64 p_a)) hF hS (ex_assign rfl) rfl rfl fun a hF => ?_
    refine q_end (n_sq (q_ret (r_sq ?_)))
    obtain rfl := someI hr
    exact ret_of hF hS rfl (.tmp rfl .nil) rfl

theorem c_spec_l1Abs (p_n : Int) (r : Int) (hr : spec_l1Abs p_n = some r) (w0 : World) (m : Mem) (hv : Vis m w0) :
    Ret Try.prog 51 [(.int .i64 p_n)] w0 fun v _ => v = (.int .i64 r) := by
  unfold spec_l1Abs at hr
  refine ret_start Try.func51 rfl 7 rfl rfl m hv fun a hF hS => ?_
  refine q_seq ?_
  refine q_region ?_
  refine q_x (v := (.int .i64 0)) hF hS (ex_assign rfl) rfl rfl fun a hF => ?_
  refine q_end (n_sq ?_)
  refine q_seq ?_
  refine q_region ?_
  refine q_x (v := (.int .i64 p_n)) hF hS (ex_move rfl) rfl rfl fun a hF => ?_
  refine q_x (v := (.int .i64 p_n)) hF hS (ex_move rfl) rfl rfl fun a hF => ?_
  refine q_x (v := (.int .i64 (w64 (-p_n)))) hF hS (ex_neg rfl) rfl rfl fun a hF => ?_
  obtain ⟨t_1, ht_1, hr⟩ := bindS hr
  refine q_call (vs := [(.int .i64 p_n), (.int .i64 (w64 (-p_n)))]) hF hS Try.func53 (by kernel_rfl) rfl rfl rfl (c_spec_l1Most p_n (w64 (-p_n)) t_1 ht_1 _ m hS.vis) ?_
  rintro a w _ rfl hF hS
  refine q_x (v := (.int .i64 t_1)) hF hS (ex_assign rfl) rfl rfl fun a hF => ?_
  refine q_end (n_sq (q_ret ?_))
  obtain rfl := someI hr
  exact ret_of hF hS rfl (.tmp rfl .nil) rfl

theorem c_spec_fGcd (p_a : Int) (p_b : Int) (r : Int) (hr : spec_fGcd p_a p_b = some r) (w0 : World) (m : Mem) (hv : Vis m w0) :
    Ret Try.prog 44 [(.int .i64 p_a), (.int .i64 p_b)] w0 fun v _ => v = (.int .i64 r) := by
  unfold spec_fGcd at hr
  refine ret_start Try.func44 rfl 15 rfl rfl m hv fun a hF hS => ?_
  refine q_seq ?_
  refine q_region ?_
  refine q_x (v := (.int .i64 0)) hF hS (ex_assign rfl) rfl rfl fun a hF => ?_
  refine q_end (n_sq ?_)
  refine q_seq ?_
  refine q_block ?_
  obtain ⟨a_4, hl1, hr⟩ := bindS hr
  refine q_loop (fun (s : Int × Int) a w => ∃ a_1 b_2, s = (a_1, b_2) ∧ Fr a 15 [(0, (.int .i64 a_1)), (1, (.int .i64 b_2))] ∧ St [] w0 w m []) (fun (a_4 : Int) e a w => e = .exit 0 ∧ Fr a 15 [(0, (.int .i64 a_4))] ∧ St [] w0 w m []) hl1 ⟨_, _, rfl, hF.sub ⟨rfl, rfl, trivial⟩, hS⟩ ?_ ?_
  · clear hF hS
    rintro s a w st ⟨a_1, b_2, rfl, hF, hS⟩ hb1
    unfold spec_fGcd_l1 at hb1
    refine q_seq ?_
    refine q_seq ?_
    refine q_region ?_
    refine q_x (v := (.int .i64 b_2)) hF hS (ex_move rfl) rfl rfl fun a hF => ?_
    refine q_x (v := (.bool (b_2 != 0))) hF hS (ex_ibin rfl rfl rfl) rfl rfl fun a hF => ?_
    refine q_end (n_sq ?_)
    rcases hc2 : (b_2 != 0) with _ | _
    · have hb1 := cond_f hc2 hb1
      refine q_cond_f hF rfl hc2 ?_
      refine q_exit (x_sq ?_)
      obtain rfl := someI hb1
      exact ⟨nofun, .inl ⟨rfl, hF.sub ⟨rfl, trivial⟩, hS⟩⟩
    · have hb1 := cond_t hc2 hb1
      refine q_cond_t hF rfl hc2 ?_
      refine q_skipc (n_sq ?_)
      refine q_block ?_
      refine q_seq ?_
      refine q_region ?_
      refine q_x (v := (.int .i64 a_1)) hF hS (ex_move rfl) rfl rfl fun a hF => ?_
      refine q_x (v := (.int .i64 b_2)) hF hS (ex_move rfl) rfl rfl fun a hF => ?_
      obtain ⟨t_3, ht_3, hb1⟩ := bindS hb1
      refine q_x (v := (.int .i64 t_3)) hF hS (ex_rem rfl rfl ht_3) rfl rfl fun a hF => ?_
      refine q_x (v := (.int .i64 t_3)) hF hS (ex_assign rfl) rfl rfl fun a hF => ?_
      refine q_end (n_sq ?_)
      refine q_seq ?_
      refine q_region ?_
      refine q_x (v := (.int .i64 b_2)) hF hS (ex_move rfl) rfl rfl fun a hF => ?_
      refine q_x (v := (.int .i64 b_2)) hF hS (ex_assign rfl) rfl rfl fun a hF => ?_
      refine q_end (n_sq ?_)
      refine q_region ?_
      refine q_x (v := (.int .i64 t_3)) hF hS (ex_move rfl) rfl rfl fun a hF => ?_
      refine q_x (v := (.int .i64 t_3)) hF hS (ex_assign rfl) rfl rfl fun a hF => ?_
      refine q_end (n_ib ?_)
      obtain rfl := someI hb1
      exact ⟨rfl, _, _, rfl, hF.sub ⟨rfl, rfl, trivial⟩, hS⟩
  · rintro e a w ⟨rfl, hF, hS⟩
    refine x_ib (n_sq ?_)
    refine q_seq ?_
    refine q_region ?_
    refine q_x (v := (.int .i64 a_4)) hF hS (ex_move rfl) rfl rfl fun a hF => ?_
    obtain ⟨t_5, ht_5, hr⟩ := bindS hr
    refine q_call (vs := [(.int .i64 a_4)]) hF hS Try.func51 (by kernel_rfl) rfl rfl rfl (c_spec_l1Abs a_4 t_5 ht_5 _ m hS.vis) ?_
    rintro a w _ rfl hF hS
    refine q_x (v := (.int .i64 t_5)) hF hS (ex_assign rfl) rfl rfl fun a hF => ?_
    refine q_end (n_sq (q_ret ?_))
    obtain rfl := someI hr
    exact ret_of hF hS rfl (.tmp rfl .nil) rfl

theorem c_spec_fGood (p_f : impl_Frac) (r : Bool) (hr : spec_fGood p_f = some r) (w0 : World) (m : Mem) (hv : Vis m w0) :
    Ret Try.prog 42 [(.agg #[(.int .i64 p_f.Num), (.int .i64 p_f.Den)])] w0 fun v _ => v = (.bool r) := by
  unfold spec_fGood at hr
  refine ret_start Try.func42 rfl 19 rfl rfl m hv fun a hF hS => ?_
  refine q_seq ?_
  refine q_region ?_
  refine q_box (cs := [(.int .i64 p_f.Num), (.int .i64 p_f.Den)]) hF hS rfl rfl rfl fun a w b1 hF hS => ?_
  refine q_x (v := (.bool false)) hF hS (ex_assign rfl) rfl rfl fun a hF => ?_
  refine q_end (n_sq ?_)
  refine q_seq ?_
  obtain ⟨t_5, hj1, hr⟩ := bindS hr
  refine q_join (fun a w => Fr a 19 [(2, (.bool t_5))] ∧ St [] w0 w m []) ?_ ?_
  · refine q_region ?_
    refine q_x (v := (.pointer (some ⟨b1, 1, none⟩))) hF hS (ex_fieldAddr Try.underlying24 rfl sz3 rfl rfl) rfl rfl fun a hF => ?_
    refine q_x (v := (.int .i64 p_f.Den)) hF hS (ex_load1 0 0 Try.underlying3 rfl rfl rfl rfl) rfl rfl fun a hF => ?_
    obtain ⟨t_2, ht_2, hj1⟩ := bindS hj1
    refine q_call (vs := [(.int .i64 p_f.Den), (.int .i64 1), (.int .i64 1000000000)]) hF hS Try.func23 (by kernel_rfl) rfl rfl rfl (c_spec_l1In p_f.Den 1 1000000000 t_2 ht_2 _ m hS.vis) ?_
    rintro a w _ rfl hF hS
    refine q_x (v := (.bool t_2)) hF hS (ex_move rfl) rfl rfl fun a hF => ?_
    rcases hc2 : (t_2) with _ | _
    · have hj1 := cond_f hc2 hj1
      refine q_skip hF (wanted_f hF rfl rfl rfl hc2 rfl) rfl fun a hF => ?_
      refine q_skip hF (wanted_f hF rfl rfl rfl hc2 rfl) rfl fun a hF => ?_
      refine q_skip hF (wanted_f hF rfl rfl rfl hc2 rfl) rfl fun a hF => ?_
      refine q_x (v := (.bool false)) hF hS (ex_pick_f rfl rfl hc2) rfl rfl fun a hF => ?_
      refine q_x (v := (.bool false)) hF hS (ex_move rfl) rfl rfl fun a hF => ?_
      refine q_skip hF (wanted_f hF rfl rfl rfl rfl rfl) rfl fun a hF => ?_
      refine q_skip hF (wanted_f hF rfl rfl rfl rfl rfl) rfl fun a hF => ?_
      refine q_skip hF (wanted_f hF rfl rfl rfl rfl rfl) rfl fun a hF => ?_
      refine q_skip hF (wanted_f hF rfl rfl rfl rfl rfl) rfl fun a hF => ?_
      refine q_skip hF (wanted_f hF rfl rfl rfl rfl rfl) rfl fun a hF => ?_
      refine q_skip hF (wanted_f hF rfl rfl rfl rfl rfl) rfl fun a hF => ?_
      refine q_x (v := (.bool false)) hF hS (ex_pick_f rfl rfl rfl) rfl rfl fun a hF => ?_
      refine q_x (v := (.bool false)) hF hS (ex_assign rfl) rfl rfl fun a hF => ?_
      refine q_end (n_jn ?_)
      obtain rfl := someI hj1
      exact ⟨hF.sub ⟨rfl, trivial⟩, hS.mask [false]⟩
    · have hj1 := cond_t hc2 hj1
      refine q_xg (v := (.pointer (some ⟨b1, 0, none⟩))) hF hS (ex_fieldAddr Try.underlying24 rfl sz3 rfl rfl) (wanted_t hF rfl rfl rfl hc2) rfl fun a hF => ?_
      refine q_xg (v := (.int .i64 p_f.Num)) hF hS (ex_load1 0 0 Try.underlying3 rfl rfl rfl rfl) (wanted_t hF rfl rfl rfl hc2) rfl fun a hF => ?_
      obtain ⟨t_3, ht_3, hj1⟩ := bindS hj1
      refine q_callg (vs := [(.int .i64 p_f.Num), (.int .i64 (-1000000000)), (.int .i64 1000000000)]) hF hS (wanted_t hF rfl rfl rfl hc2) Try.func23 (by kernel_rfl) rfl rfl rfl (c_spec_l1In p_f.Num (-1000000000) 1000000000 t_3 ht_3 _ m hS.vis) ?_
      rintro a w _ rfl hF hS
      refine q_x (v := (.bool t_3)) hF hS (ex_pick_t rfl rfl hc2) rfl rfl fun a hF => ?_
      refine q_x (v := (.bool t_3)) hF hS (ex_move rfl) rfl rfl fun a hF => ?_
      rcases hc3 : (t_3) with _ | _
      · have hj1 := cond_f hc3 hj1
        refine q_skip hF (wanted_f hF rfl rfl rfl hc3 rfl) rfl fun a hF => ?_
        refine q_skip hF (wanted_f hF rfl rfl rfl hc3 rfl) rfl fun a hF => ?_
        refine q_skip hF (wanted_f hF rfl rfl rfl hc3 rfl) rfl fun a hF => ?_
        refine q_skip hF (wanted_f hF rfl rfl rfl hc3 rfl) rfl fun a hF => ?_
        refine q_skip hF (wanted_f hF rfl rfl rfl hc3 rfl) rfl fun a hF => ?_
        refine q_skip hF (wanted_f hF rfl rfl rfl hc3 rfl) rfl fun a hF => ?_
        refine q_x (v := (.bool false)) hF hS (ex_pick_f rfl rfl hc3) rfl rfl fun a hF => ?_
        refine q_x (v := (.bool false)) hF hS (ex_assign rfl) rfl rfl fun a hF => ?_
        refine q_end (n_jn ?_)
        obtain rfl := someI hj1
        exact ⟨hF.sub ⟨rfl, trivial⟩, hS.mask [false]⟩
      · have hj1 := cond_t hc3 hj1
        refine q_xg (v := (.pointer (some ⟨b1, 0, none⟩))) hF hS (ex_fieldAddr Try.underlying24 rfl sz3 rfl rfl) (wanted_t hF rfl rfl rfl hc3) rfl fun a hF => ?_
        refine q_xg (v := (.int .i64 p_f.Num)) hF hS (ex_load1 0 0 Try.underlying3 rfl rfl rfl rfl) (wanted_t hF rfl rfl rfl hc3) rfl fun a hF => ?_
        refine q_xg (v := (.pointer (some ⟨b1, 1, none⟩))) hF hS (ex_fieldAddr Try.underlying24 rfl sz3 rfl rfl) (wanted_t hF rfl rfl rfl hc3) rfl fun a hF => ?_
        refine q_xg (v := (.int .i64 p_f.Den)) hF hS (ex_load1 0 0 Try.underlying3 rfl rfl rfl rfl) (wanted_t hF rfl rfl rfl hc3) rfl fun a hF => ?_
        obtain ⟨t_4, ht_4, hj1⟩ := bindS hj1
        refine q_callg (vs := [(.int .i64 p_f.Num), (.int .i64 p_f.Den)]) hF hS (wanted_t hF rfl rfl rfl hc3) Try.func44 (by kernel_rfl) rfl rfl rfl (c_spec_fGcd p_f.Num p_f.Den t_4 ht_4 _ m hS.vis) ?_
        rintro a w _ rfl hF hS
        refine q_xg (v := (.bool (t_4 == 1))) hF hS (ex_ibin rfl rfl rfl) (wanted_t hF rfl rfl rfl hc3) rfl fun a hF => ?_
        refine q_x (v := (.bool (t_4 == 1))) hF hS (ex_pick_t rfl rfl hc3) rfl rfl fun a hF => ?_
        refine q_x (v := (.bool (t_4 == 1))) hF hS (ex_assign rfl) rfl rfl fun a hF => ?_
        refine q_end (n_jn ?_)
        obtain rfl := someI hj1
        exact ⟨hF.sub ⟨rfl, trivial⟩, hS.mask [false]⟩
  · rintro a w ⟨hF, hS⟩
    refine n_sq (q_ret ?_)
    obtain rfl := someI hr
    exact ret_of hF hS rfl (.tmp rfl .nil) rfl

theorem c_spec_fInt (p_n : Int) (r : impl_Frac) (hr : spec_fInt p_n = some r) (w0 : World) (m : Mem) (hv : Vis m w0) :
    Ret Try.prog 29 [(.int .i64 p_n)] w0 fun v _ => v = (.agg #[(.int .i64 r.Num), (.int .i64 r.Den)]) := by
  unfold spec_fInt at hr
  refine ret_start Try.func29 rfl 5 rfl rfl m hv fun a hF hS => ?_
  refine q_seq ?_
  refine q_region ?_
  refine q_alloc (cs := [(.int .i64 0), (.int .i64 0)]) hF hS rfl rfl rfl fun a w b1 hF hS => ?_
  refine q_end (n_sq ?_)
  refine q_seq ?_
  refine q_region ?_
  refine q_x (v := (.int .i64 p_n)) hF hS (ex_move rfl) rfl rfl fun a hF => ?_
  refine q_x (v := (.agg #[(.int .i64 p_n), (.int .i64 1)])) hF hS (ex_build (cells := [(.int .i64 p_n), (.int .i64 1)]) rfl (by kernel_rfl)) rfl rfl fun a hF => ?_
  refine q_store (vs := [(.int .i64 p_n), (.int .i64 1)]) (cs' := [(.int .i64 p_n), (.int .i64 1)]) 0 0 hF hS sz24 rfl rfl rfl rfl rfl rfl rfl rfl fun a w hF hS => ?_
  refine q_end (n_sq (q_ret ?_))
  obtain rfl := someI hr
  exact ret_of hF hS rfl (.cellA (us := [(.int .i64 p_n), (.int .i64 1)]) 0 0 Try.underlying24 rfl sz24 rfl rfl rfl rfl .nil) rfl

theorem c_spec_l1Sign (p_n : Int) (r : Int) (hr : spec_l1Sign p_n = some r) (w0 : World) (m : Mem) (hv : Vis m w0) :
    Ret Try.prog 50 [(.int .i64 p_n)] w0 fun v _ => v = (.int .i64 r) := by
  unfold spec_l1Sign at hr
  refine ret_start Try.func50 rfl 9 rfl rfl m hv fun a hF hS => ?_
  refine q_seq ?_
  refine q_region ?_
  refine q_x (v := (.int .i64 0)) hF hS (ex_assign rfl) rfl rfl fun a hF => ?_
  refine q_end (n_sq ?_)
  refine q_seq ?_
  refine q_block ?_
  refine q_seq ?_
  refine q_region ?_
  refine q_x (v := (.int .i64 p_n)) hF hS (ex_move rfl) rfl rfl fun a hF => ?_
  refine q_x (v := (.bool (decide (p_n < 0)))) hF hS (ex_ibin rfl rfl rfl) rfl rfl fun a hF => ?_
  refine q_x (v := (.bool (decide (p_n < 0)))) hF hS (ex_assign rfl) rfl rfl fun a hF => ?_
  refine q_end (n_sq ?_)
  rcases hc1 : (decide (p_n < 0)) with _ | _
  · have hr := cond_f hc1 hr
    refine q_cond_f hF rfl hc1 ?_
    refine q_seq ?_
    refine q_region ?_
    refine q_x (v := (.int .i64 p_n)) hF hS (ex_move rfl) rfl rfl fun a hF => ?_
    refine q_x (v := (.bool (decide (0 < p_n)))) hF hS (ex_ibin rfl rfl rfl) rfl rfl fun a hF => ?_
    refine q_x (v := (.bool (decide (0 < p_n)))) hF hS (ex_assign rfl) rfl rfl fun a hF => ?_
    refine q_end (n_sq ?_)
    rcases hc2 : (decide (0 < p_n)) with _ | _
    · have hr := cond_f hc2 hr
      refine q_cond_f hF rfl hc2 ?_
      refine q_skipc (n_ib (n_sq ?_))
      refine q_seq ?_
      refine q_region ?_
      refine q_x (v := (.int .i64 0)) hF hS (ex_assign rfl) rfl rfl fun a hF => ?_
      refine q_end (n_sq (q_ret ?_))
      obtain rfl := someI hr
      exact ret_of hF hS rfl (.tmp rfl .nil) rfl
    · have hr := cond_t hc2 hr
      refine q_cond_t hF rfl hc2 ?_
      refine q_seq ?_
      refine q_region ?_
      refine q_x (v := (.int .i64 1)) hF hS (ex_assign rfl) rfl rfl fun a hF => ?_
      refine q_end (n_sq (q_ret (r_ib (r_sq ?_))))
      obtain rfl := someI hr
      exact ret_of hF hS rfl (.tmp rfl .nil) rfl
  · have hr := cond_t hc1 hr
    refine q_cond_t hF rfl hc1 ?_
    refine q_seq ?_
    refine q_region ?_
    refine q_x (v := (.int .i64 (-1))) hF hS (ex_assign rfl) rfl rfl fun a hF => ?_
    refine q_end (n_sq (q_ret (r_ib (r_sq ?_))))
    obtain rfl := someI hr
    exact ret_of hF hS rfl (.tmp rfl .nil) rfl

theorem c_spec_fCmp (p_a : impl_Frac) (p_b : impl_Frac) (r : Int) (hr : spec_fCmp p_a p_b = some r) (w0 : World) (m : Mem) (hv : Vis m w0) :
    Ret Try.prog 43 [(.agg #[(.int .i64 p_a.Num), (.int .i64 p_a.Den)]), (.agg #[(.int .i64 p_b.Num), (.int .i64 p_b.Den)])] w0 fun v _ => v = (.int .i64 r) := by
  unfold spec_fCmp at hr
  refine ret_start Try.func43 rfl 17 rfl rfl m hv fun a hF hS => ?_
  refine q_seq ?_
  refine q_region ?_
  refine q_box (cs := [(.int .i64 p_a.Num), (.int .i64 p_a.Den)]) hF hS rfl rfl rfl fun a w b1 hF hS => ?_
  refine q_box (cs := [(.int .i64 p_b.Num), (.int .i64 p_b.Den)]) hF hS rfl rfl rfl fun a w b2 hF hS => ?_
  refine q_x (v := (.int .i64 0)) hF hS (ex_assign rfl) rfl rfl fun a hF => ?_
  refine q_end (n_sq ?_)
  refine q_seq ?_
  refine q_region ?_
  refine q_x (v := (.pointer (some ⟨b1, 0, none⟩))) hF hS (ex_fieldAddr Try.underlying24 rfl sz3 rfl rfl) rfl rfl fun a hF => ?_
  refine q_x (v := (.int .i64 p_a.Num)) hF hS (ex_load1 1 0 Try.underlying3 rfl rfl rfl rfl) rfl rfl fun a hF => ?_
  refine q_x (v := (.pointer (some ⟨b2, 1, none⟩))) hF hS (ex_fieldAddr Try.underlying24 rfl sz3 rfl rfl) rfl rfl fun a hF => ?_
  refine q_x (v := (.int .i64 p_b.Den)) hF hS (ex_load1 0 0 Try.underlying3 rfl rfl rfl rfl) rfl rfl fun a hF => ?_
  refine q_x (v := (.int .i64 (w64 (p_a.Num * p_b.Den)))) hF hS (ex_ibin rfl rfl rfl) rfl rfl fun a hF => ?_
  refine q_x (v := (.pointer (some ⟨b2, 0, none⟩))) hF hS (ex_fieldAddr Try.underlying24 rfl sz3 rfl rfl) rfl rfl fun a hF => ?_
  refine q_x (v := (.int .i64 p_b.Num)) hF hS (ex_load1 0 0 Try.underlying3 rfl rfl rfl rfl) rfl rfl fun a hF => ?_
  refine q_x (v := (.pointer (some ⟨b1, 1, none⟩))) hF hS (ex_fieldAddr Try.underlying24 rfl sz3 rfl rfl) rfl rfl fun a hF => ?_
  refine q_x (v := (.int .i64 p_a.Den)) hF hS (ex_load1 1 0 Try.underlying3 rfl rfl rfl rfl) rfl rfl fun a hF => ?_
  refine q_x (v := (.int .i64 (w64 (p_b.Num * p_a.Den)))) hF hS (ex_ibin rfl rfl rfl) rfl rfl fun a hF => ?_
  refine q_x (v := (.int .i64 (w64 ((w64 (p_a.Num * p_b.Den)) - (w64 (p_b.Num * p_a.Den)))))) hF hS (ex_ibin rfl rfl rfl) rfl rfl fun a hF => ?_
  obtain ⟨t_3, ht_3, hr⟩ := bindS hr
  refine q_call (vs := [(.int .i64 (w64 ((w64 (p_a.Num * p_b.Den)) - (w64 (p_b.Num * p_a.Den)))))]) hF hS Try.func50 (by kernel_rfl) rfl rfl rfl (c_spec_l1Sign (w64 ((w64 (p_a.Num * p_b.Den)) - (w64 (p_b.Num * p_a.Den)))) t_3 ht_3 _ m hS.vis) ?_
  rintro a w _ rfl hF hS
  refine q_x (v := (.int .i64 t_3)) hF hS (ex_assign rfl) rfl rfl fun a hF => ?_
  refine q_end (n_sq (q_ret ?_))
  obtain rfl := someI hr
  exact ret_of hF hS rfl (.tmp rfl .nil) rfl

theorem c_spec_ySigma (p_s : impl_Frac) (r : Bool) (hr : spec_ySigma p_s = some r) (w0 : World) (m : Mem) (hv : Vis m w0) :
    Ret Try.prog 22 [(.agg #[(.int .i64 p_s.Num), (.int .i64 p_s.Den)])] w0 fun v _ => v = (.bool r) := by
  unfold spec_ySigma at hr
  refine ret_start Try.func22 rfl 16 rfl rfl m hv fun a hF hS => ?_
  refine q_seq ?_
  refine q_region ?_
  refine q_box (cs := [(.int .i64 p_s.Num), (.int .i64 p_s.Den)]) hF hS rfl rfl rfl fun a w b1 hF hS => ?_
  refine q_x (v := (.bool false)) hF hS (ex_assign rfl) rfl rfl fun a hF => ?_
  refine q_end (n_sq ?_)
  refine q_seq ?_
  obtain ⟨t_5, hj1, hr⟩ := bindS hr
  refine q_join (fun a w => Fr a 16 [(2, (.bool t_5))] ∧ St [] w0 w m []) ?_ ?_
  · refine e_region [] mixed fun w' hw' => ?_
    have hS := hS.below hw'
    refine e_x (v := (.agg #[(.int .i64 p_s.Num), (.int .i64 p_s.Den)])) 0 hF hS rfl (ex_loadA (vs := [(.int .i64 p_s.Num), (.int .i64 p_s.Den)]) 0 0 Try.underlying24 rfl sz24 rfl rfl rfl rfl) rfl rfl (by kernel_rfl) (by kernel_rfl) (by kernel_rfl) (by kernel_rfl) fun a hF => ?_
    refine e_one 1 (by kernel_rfl) ?_
    obtain ⟨t_2, ht_2, hj1⟩ := bindS hj1
    refine e_call (vs := [(.agg #[(.int .i64 p_s.Num), (.int .i64 p_s.Den)])]) hF hS rfl Try.func42 (by kernel_rfl) rfl rfl rfl (c_spec_fGood p_s t_2 ht_2 _ m hS.vis) ?_
    rintro a w _ rfl hF hS
    refine e_p (v := (.bool t_2)) 2 hF rfl (ex_move rfl) rfl rfl (by kernel_rfl) (by kernel_rfl) (by kernel_rfl) fun a hF => ?_
    rcases hc2 : (t_2) with _ | _
    · have hj1 := cond_f hc2 hj1
      refine e_skipP 3 hF rfl (wanted_f hF rfl rfl rfl hc2 rfl) rfl (by kernel_rfl) (by kernel_rfl) (by kernel_rfl) fun a hF => ?_
      refine e_skipP 4 hF rfl (wanted_f hF rfl rfl rfl hc2 rfl) rfl (by kernel_rfl) (by kernel_rfl) (by kernel_rfl) fun a hF => ?_
      refine e_skipP 5 hF rfl (wanted_f hF rfl rfl rfl hc2 rfl) rfl (by kernel_rfl) (by kernel_rfl) (by kernel_rfl) fun a hF => ?_
      refine e_p (v := (.bool false)) 6 hF rfl (ex_pick_f rfl rfl hc2) rfl rfl (by kernel_rfl) (by kernel_rfl) (by kernel_rfl) fun a hF => ?_
      refine e_p (v := (.bool false)) 7 hF rfl (ex_move rfl) rfl rfl (by kernel_rfl) (by kernel_rfl) (by kernel_rfl) fun a hF => ?_
      refine e_skipP 8 hF rfl (wanted_f hF rfl rfl rfl rfl rfl) rfl (by kernel_rfl) (by kernel_rfl) (by kernel_rfl) fun a hF => ?_
      refine e_skipP 9 hF rfl (wanted_f hF rfl rfl rfl rfl rfl) rfl (by kernel_rfl) (by kernel_rfl) (by kernel_rfl) fun a hF => ?_
      refine e_skipP 10 hF rfl (wanted_f hF rfl rfl rfl rfl rfl) rfl (by kernel_rfl) (by kernel_rfl) (by kernel_rfl) fun a hF => ?_
      refine e_skipP 11 hF rfl (wanted_f hF rfl rfl rfl rfl rfl) rfl (by kernel_rfl) (by kernel_rfl) (by kernel_rfl) fun a hF => ?_
      refine e_p (v := (.bool false)) 12 hF rfl (ex_pick_f rfl rfl rfl) rfl rfl (by kernel_rfl) (by kernel_rfl) (by kernel_rfl) fun a hF => ?_
      refine e_p (v := (.bool false)) 13 hF rfl (ex_assign rfl) rfl rfl (by kernel_rfl) (by kernel_rfl) (by kernel_rfl) fun a hF => ?_
      refine e_end (by kernel_rfl) (n_jn ?_) _
      obtain rfl := someI hj1
      exact ⟨hF.sub ⟨rfl, trivial⟩, hS.mask [false]⟩
    · have hj1 := cond_t hc2 hj1
      refine e_pg (v := (.pointer (some ⟨b1, 0, none⟩))) 3 hF rfl (ex_fieldAddr Try.underlying24 rfl sz3 rfl rfl) (wanted_t hF rfl rfl rfl hc2) rfl (by kernel_rfl) (by kernel_rfl) (by kernel_rfl) fun a hF => ?_
      refine e_xg (v := (.int .i64 p_s.Num)) 4 hF hS rfl (ex_load1 0 0 Try.underlying3 rfl rfl rfl rfl) (wanted_t hF rfl rfl rfl hc2) rfl (by kernel_rfl) (by kernel_rfl) (by kernel_rfl) (by kernel_rfl) fun a hF => ?_
      refine e_pg (v := (.bool (decide (0 < p_s.Num)))) 5 hF rfl (ex_ibin rfl rfl rfl) (wanted_t hF rfl rfl rfl hc2) rfl (by kernel_rfl) (by kernel_rfl) (by kernel_rfl) fun a hF => ?_
      refine e_p (v := (.bool (decide (0 < p_s.Num)))) 6 hF rfl (ex_pick_t rfl rfl hc2) rfl rfl (by kernel_rfl) (by kernel_rfl) (by kernel_rfl) fun a hF => ?_
      refine e_p (v := (.bool (decide (0 < p_s.Num)))) 7 hF rfl (ex_move rfl) rfl rfl (by kernel_rfl) (by kernel_rfl) (by kernel_rfl) fun a hF => ?_
      rcases hc3 : (decide (0 < p_s.Num)) with _ | _
      · have hj1 := cond_f hc3 hj1
        refine e_skipP 8 hF rfl (wanted_f hF rfl rfl rfl hc3 rfl) rfl (by kernel_rfl) (by kernel_rfl) (by kernel_rfl) fun a hF => ?_
        refine e_skipP 9 hF rfl (wanted_f hF rfl rfl rfl hc3 rfl) rfl (by kernel_rfl) (by kernel_rfl) (by kernel_rfl) fun a hF => ?_
        refine e_skipP 10 hF rfl (wanted_f hF rfl rfl rfl hc3 rfl) rfl (by kernel_rfl) (by kernel_rfl) (by kernel_rfl) fun a hF => ?_
        refine e_skipP 11 hF rfl (wanted_f hF rfl rfl rfl hc3 rfl) rfl (by kernel_rfl) (by kernel_rfl) (by kernel_rfl) fun a hF => ?_
        refine e_p (v := (.bool false)) 12 hF rfl (ex_pick_f rfl rfl hc3) rfl rfl (by kernel_rfl) (by kernel_rfl) (by kernel_rfl) fun a hF => ?_
        refine e_p (v := (.bool false)) 13 hF rfl (ex_assign rfl) rfl rfl (by kernel_rfl) (by kernel_rfl) (by kernel_rfl) fun a hF => ?_
        refine e_end (by kernel_rfl) (n_jn ?_) _
        obtain rfl := someI hj1
        exact ⟨hF.sub ⟨rfl, trivial⟩, hS.mask [false]⟩
      · have hj1 := cond_t hc3 hj1
        refine e_xg (v := (.agg #[(.int .i64 p_s.Num), (.int .i64 p_s.Den)])) 8 hF hS rfl (ex_loadA (vs := [(.int .i64 p_s.Num), (.int .i64 p_s.Den)]) 0 0 Try.underlying24 rfl sz24 rfl rfl rfl rfl) (wanted_t hF rfl rfl rfl hc3) rfl (by kernel_rfl) (by kernel_rfl) (by kernel_rfl) (by kernel_rfl) fun a hF => ?_
        refine e_one 9 (by kernel_rfl) ?_
        obtain ⟨t_3, ht_3, hj1⟩ := bindS hj1
        refine e_callg (vs := [(.int .i64 10000)]) hF hS rfl (wanted_t hF rfl rfl rfl hc3) Try.func29 (by kernel_rfl) rfl rfl rfl (c_spec_fInt 10000 t_3 ht_3 _ m hS.vis) ?_
        rintro a w _ rfl hF hS
        refine e_one 10 (by kernel_rfl) ?_
        obtain ⟨t_4, ht_4, hj1⟩ := bindS hj1
        refine e_callg (vs := [(.agg #[(.int .i64 p_s.Num), (.int .i64 p_s.Den)]), (.agg #[(.int .i64 t_3.Num), (.int .i64 t_3.Den)])]) hF hS rfl (wanted_t hF rfl rfl rfl hc3) Try.func43 (by kernel_rfl) rfl rfl rfl (c_spec_fCmp p_s t_3 t_4 ht_4 _ m hS.vis) ?_
        rintro a w _ rfl hF hS
        refine e_pg (v := (.bool (decide (t_4 ≤ 0)))) 11 hF rfl (ex_ibin rfl rfl rfl) (wanted_t hF rfl rfl rfl hc3) rfl (by kernel_rfl) (by kernel_rfl) (by kernel_rfl) fun a hF => ?_
        refine e_p (v := (.bool (decide (t_4 ≤ 0)))) 12 hF rfl (ex_pick_t rfl rfl hc3) rfl rfl (by kernel_rfl) (by kernel_rfl) (by kernel_rfl) fun a hF => ?_
        refine e_p (v := (.bool (decide (t_4 ≤ 0)))) 13 hF rfl (ex_assign rfl) rfl rfl (by kernel_rfl) (by kernel_rfl) (by kernel_rfl) fun a hF => ?_
        refine e_end (by kernel_rfl) (n_jn ?_) _
        obtain rfl := someI hj1
        exact ⟨hF.sub ⟨rfl, trivial⟩, hS.mask [false]⟩
  · rintro a w ⟨hF, hS⟩
    refine n_sq (q_ret ?_)
    obtain rfl := someI hr
    exact ret_of hF hS rfl (.tmp rfl .nil) rfl

theorem c_spec_fMake (p_n : Int) (p_d : Int) (r : impl_Frac × Bool) (hr : spec_fMake p_n p_d = some r) (w0 : World) (m : Mem) (hv : Vis m w0) :
    Ret Try.prog 24 [(.int .i64 p_n), (.int .i64 p_d)] w0 fun v _ => v = (.tuple #[(.agg #[(.int .i64 r.1.Num), (.int .i64 r.1.Den)]), (.bool r.2)]) := by
  unfold spec_fMake at hr
  refine ret_start Try.func24 rfl 30 rfl rfl m hv fun a hF hS => ?_
  refine q_seq ?_
  refine q_region ?_
  refine q_alloc (cs := [(.int .i64 0), (.int .i64 0)]) hF hS rfl rfl rfl fun a w b1 hF hS => ?_
  refine q_x (v := (.bool false)) hF hS (ex_assign rfl) rfl rfl fun a hF => ?_
  refine q_end (n_sq ?_)
  refine q_seq ?_
  refine q_seq ?_
  refine q_region ?_
  refine q_x (v := (.int .i64 p_d)) hF hS (ex_move rfl) rfl rfl fun a hF => ?_
  refine q_x (v := (.bool (p_d == 0))) hF hS (ex_ibin rfl rfl rfl) rfl rfl fun a hF => ?_
  refine q_end (n_sq ?_)
  rcases hc1 : (p_d == 0) with _ | _
  · have hr := cond_f hc1 hr
    refine q_cond_f hF rfl hc1 ?_
    refine q_skipc (n_sq ?_)
    refine q_seq ?_
    refine q_region ?_
    refine q_x (v := (.int .i64 p_n)) hF hS (ex_move rfl) rfl rfl fun a hF => ?_
    refine q_x (v := (.int .i64 p_d)) hF hS (ex_move rfl) rfl rfl fun a hF => ?_
    obtain ⟨t_2, ht_2, hr⟩ := bindS hr
    refine q_call (vs := [(.int .i64 p_n), (.int .i64 p_d)]) hF hS Try.func44 (by kernel_rfl) rfl rfl rfl (c_spec_fGcd p_n p_d t_2 ht_2 _ m hS.vis) ?_
    rintro a w _ rfl hF hS
    refine q_x (v := (.int .i64 t_2)) hF hS (ex_assign rfl) rfl rfl fun a hF => ?_
    refine q_end (n_sq ?_)
    refine q_seq ?_
    refine q_seq ?_
    refine q_region ?_
    refine q_x (v := (.int .i64 p_d)) hF hS (ex_move rfl) rfl rfl fun a hF => ?_
    refine q_x (v := (.bool (decide (p_d < 0)))) hF hS (ex_ibin rfl rfl rfl) rfl rfl fun a hF => ?_
    refine q_end (n_sq ?_)
    obtain ⟨g_3, hj2, hr⟩ := bindS hr
    refine q_join (fun a w => Fr a 30 [(0, (.int .i64 p_n)), (1, (.int .i64 p_d)), (4, (.pointer (some ⟨b1, 0, none⟩))), (6, (.int .i64 g_3))] ∧ St [] w0 w m [[⟨b1, [(.int .i64 0), (.int .i64 0)], 24⟩]]) ?_ ?_
    · rcases hc3 : (decide (p_d < 0)) with _ | _
      · have hj2 := cond_f hc3 hj2
        refine q_cond_f hF rfl hc3 ?_
        refine q_skipc (n_jn ?_)
        obtain rfl := someI hj2
        exact ⟨hF.sub ⟨rfl, rfl, rfl, rfl, trivial⟩, hS⟩
      · have hj2 := cond_t hc3 hj2
        refine q_cond_t hF rfl hc3 ?_
        refine q_region ?_
        refine q_x (v := (.int .i64 t_2)) hF hS (ex_move rfl) rfl rfl fun a hF => ?_
        refine q_x (v := (.int .i64 (w64 (-t_2)))) hF hS (ex_neg rfl) rfl rfl fun a hF => ?_
        refine q_x (v := (.int .i64 (w64 (-t_2)))) hF hS (ex_assign rfl) rfl rfl fun a hF => ?_
        refine q_end (n_jn ?_)
        obtain rfl := someI hj2
        exact ⟨hF.sub ⟨rfl, rfl, rfl, rfl, trivial⟩, hS⟩
    · rintro a w ⟨hF, hS⟩
      refine n_sq ?_
      refine q_seq ?_
      refine e_region [8] mixed fun w' hw' => ?_
      have hS := hS.below hw'
      refine e_p (v := (.int .i64 p_n)) 0 hF rfl (ex_move rfl) rfl rfl (by kernel_rfl) (by kernel_rfl) (by kernel_rfl) fun a hF => ?_
      refine e_p (v := (.int .i64 g_3)) 1 hF rfl (ex_move rfl) rfl rfl (by kernel_rfl) (by kernel_rfl) (by kernel_rfl) fun a hF => ?_
      obtain ⟨t_4, ht_4, hr⟩ := bindS hr
      refine e_p (v := (.int .i64 t_4)) 2 hF rfl (ex_quo rfl rfl ht_4) rfl rfl (by kernel_rfl) (by kernel_rfl) (by kernel_rfl) fun a hF => ?_
      refine e_p (v := (.int .i64 p_d)) 3 hF rfl (ex_move rfl) rfl rfl (by kernel_rfl) (by kernel_rfl) (by kernel_rfl) fun a hF => ?_
      refine e_p (v := (.int .i64 g_3)) 4 hF rfl (ex_move rfl) rfl rfl (by kernel_rfl) (by kernel_rfl) (by kernel_rfl) fun a hF => ?_
      obtain ⟨t_5, ht_5, hr⟩ := bindS hr
      refine e_p (v := (.int .i64 t_5)) 5 hF rfl (ex_quo rfl rfl ht_5) rfl rfl (by kernel_rfl) (by kernel_rfl) (by kernel_rfl) fun a hF => ?_
      refine e_p (v := (.agg #[(.int .i64 t_4), (.int .i64 t_5)])) 6 hF rfl (ex_build (cells := [(.int .i64 t_4), (.int .i64 t_5)]) rfl (by kernel_rfl)) rfl rfl (by kernel_rfl) (by kernel_rfl) (by kernel_rfl) fun a hF => ?_
      refine e_one 7 (by kernel_rfl) ?_
      refine e_alloc (cs := [(.int .i64 0), (.int .i64 0)]) hF hS rfl rfl rfl rfl fun a w b6 hF hS => ?_
      refine e_one 8 (by kernel_rfl) ?_
      refine e_store (vs := [(.int .i64 t_4), (.int .i64 t_5)]) (cs' := [(.int .i64 t_4), (.int .i64 t_5)]) 0 0 hF hS rfl rfl sz24 rfl rfl rfl rfl rfl rfl rfl rfl fun a w hF hS => ?_
      refine e_end (by kernel_rfl) (n_sq ?_) _
      refine q_seq ?_
      refine q_seq ?_
      refine q_region ?_
      refine q_x (v := (.agg #[(.int .i64 t_4), (.int .i64 t_5)])) hF hS (ex_loadA (vs := [(.int .i64 t_4), (.int .i64 t_5)]) 0 0 Try.underlying24 rfl sz24 rfl rfl rfl rfl) rfl rfl fun a hF => ?_
      obtain ⟨t_7, ht_7, hr⟩ := bindS hr
      refine q_call (vs := [(.agg #[(.int .i64 t_4), (.int .i64 t_5)])]) hF hS Try.func42 (by kernel_rfl) rfl rfl rfl (c_spec_fGood (impl_Frac.mk t_4 t_5) t_7 ht_7 _ m hS.vis) ?_
      rintro a w _ rfl hF hS
      refine q_x (v := (.bool (!t_7))) hF hS (ex_not rfl) rfl rfl fun a hF => ?_
      refine q_end (n_sq ?_)
      rcases hc4 : (!t_7) with _ | _
      · have hr := cond_f hc4 hr
        refine q_cond_f hF rfl hc4 ?_
        refine q_skipc (n_sq ?_)
        refine q_seq ?_
        refine q_region ?_
        refine q_x (v := (.agg #[(.int .i64 t_4), (.int .i64 t_5)])) hF hS (ex_loadA (vs := [(.int .i64 t_4), (.int .i64 t_5)]) 0 0 Try.underlying24 rfl sz24 rfl rfl rfl rfl) rfl rfl fun a hF => ?_
        refine q_store (vs := [(.int .i64 t_4), (.int .i64 t_5)]) (cs' := [(.int .i64 t_4), (.int .i64 t_5)]) 1 0 hF hS sz24 rfl rfl rfl rfl rfl rfl rfl rfl fun a w hF hS => ?_
        refine q_x (v := (.bool true)) hF hS (ex_assign rfl) rfl rfl fun a hF => ?_
        refine q_end (n_sq (q_ret ?_))
        obtain rfl := someI hr
        exact ret_of hF hS rfl (.cellA (us := [(.int .i64 t_4), (.int .i64 t_5)]) 1 0 Try.underlying24 rfl sz24 rfl rfl rfl rfl (.tmp rfl .nil)) rfl
      · have hr := cond_t hc4 hr
        refine q_cond_t hF rfl hc4 ?_
        refine q_seq ?_
        refine q_region ?_
        refine q_x (v := (.agg #[(.int .i64 0), (.int .i64 0)])) hF hS (ex_build (cells := [(.int .i64 0), (.int .i64 0)]) rfl (by kernel_rfl)) rfl rfl fun a hF => ?_
        refine q_store (vs := [(.int .i64 0), (.int .i64 0)]) (cs' := [(.int .i64 0), (.int .i64 0)]) 1 0 hF hS sz24 rfl rfl rfl rfl rfl rfl rfl rfl fun a w hF hS => ?_
        refine q_x (v := (.bool false)) hF hS (ex_assign rfl) rfl rfl fun a hF => ?_
        refine q_end (n_sq (q_ret (r_sq ?_)))
        obtain rfl := someI hr
        exact ret_of hF hS rfl (.cellA (us := [(.int .i64 0), (.int .i64 0)]) 1 0 Try.underlying24 rfl sz24 rfl rfl rfl rfl (.tmp rfl .nil)) rfl
  · have hr := cond_t hc1 hr
    refine q_cond_t hF rfl hc1 ?_
    refine q_seq ?_
    refine q_region ?_
    refine q_x (v := (.agg #[(.int .i64 0), (.int .i64 0)])) hF hS (ex_build (cells := [(.int .i64 0), (.int .i64 0)]) rfl (by kernel_rfl)) rfl rfl fun a hF => ?_
    refine q_store (vs := [(.int .i64 0), (.int .i64 0)]) (cs' := [(.int .i64 0), (.int .i64 0)]) 0 0 hF hS sz24 rfl rfl rfl rfl rfl rfl rfl rfl fun a w hF hS => ?_
    refine q_x (v := (.bool false)) hF hS (ex_assign rfl) rfl rfl fun a hF => ?_
    refine q_end (n_sq (q_ret (r_sq ?_)))
    obtain rfl := someI hr
    exact ret_of hF hS rfl (.cellA (us := [(.int .i64 0), (.int .i64 0)]) 0 0 Try.underlying24 rfl sz24 rfl rfl rfl rfl (.tmp rfl .nil)) rfl

theorem c_spec_LossOf (p_sigma2 : impl_Frac) (p_sensitivity : Int) (r : impl_Frac × Bool) (hr : spec_LossOf p_sigma2 p_sensitivity = some r) (w0 : World) (m : Mem) (hv : Vis m w0) :
    Ret Try.prog 8 [(.agg #[(.int .i64 p_sigma2.Num), (.int .i64 p_sigma2.Den)]), (.int .i64 p_sensitivity)] w0 fun v _ => v = (.tuple #[(.agg #[(.int .i64 r.1.Num), (.int .i64 r.1.Den)]), (.bool r.2)]) := by
  unfold spec_LossOf at hr
  refine ret_start Try.func8 rfl 27 rfl rfl m hv fun a hF hS => ?_
  refine q_seq ?_
  refine q_region ?_
  refine q_box (cs := [(.int .i64 p_sigma2.Num), (.int .i64 p_sigma2.Den)]) hF hS rfl rfl rfl fun a w b1 hF hS => ?_
  refine q_alloc (cs := [(.int .i64 0), (.int .i64 0)]) hF hS rfl rfl rfl fun a w b2 hF hS => ?_
  refine q_x (v := (.bool false)) hF hS (ex_assign rfl) rfl rfl fun a hF => ?_
  refine q_end (n_sq ?_)
  refine q_seq ?_
  refine q_seq ?_
  obtain ⟨t_5, hj1, hr⟩ := bindS hr
  refine q_join (fun a w => Fr a 27 [(1, (.int .i64 p_sensitivity)), (2, (.pointer (some ⟨b1, 0, none⟩))), (4, (.pointer (some ⟨b2, 0, none⟩))), (13, (.bool t_5))] ∧ St [] w0 w m [[⟨b2, [(.int .i64 0), (.int .i64 0)], 24⟩], [⟨b1, [(.int .i64 p_sigma2.Num), (.int .i64 p_sigma2.Den)], 24⟩]]) ?_ ?_
  · refine q_region ?_
    refine q_x (v := (.agg #[(.int .i64 p_sigma2.Num), (.int .i64 p_sigma2.Den)])) hF hS (ex_loadA (vs := [(.int .i64 p_sigma2.Num), (.int .i64 p_sigma2.Den)]) 1 0 Try.underlying24 rfl sz24 rfl rfl rfl rfl) rfl rfl fun a hF => ?_
    obtain ⟨t_3, ht_3, hj1⟩ := bindS hj1
    refine q_call (vs := [(.agg #[(.int .i64 p_sigma2.Num), (.int .i64 p_sigma2.Den)])]) hF hS Try.func22 (by kernel_rfl) rfl rfl rfl (c_spec_ySigma p_sigma2 t_3 ht_3 _ m hS.vis) ?_
    rintro a w _ rfl hF hS
    refine q_x (v := (.bool (!t_3))) hF hS (ex_not rfl) rfl rfl fun a hF => ?_
    refine q_x (v := (.bool (!t_3))) hF hS (ex_move rfl) rfl rfl fun a hF => ?_
    rcases hc2 : (!t_3) with _ | _
    · have hj1 := cond_f hc2 hj1
      refine q_xg (v := (.int .i64 p_sensitivity)) hF hS (ex_move rfl) (wanted_t hF rfl rfl rfl hc2) rfl fun a hF => ?_
      obtain ⟨t_4, ht_4, hj1⟩ := bindS hj1
      refine q_callg (vs := [(.int .i64 p_sensitivity), (.int .i64 0), (.int .i64 1000)]) hF hS (wanted_t hF rfl rfl rfl hc2) Try.func23 (by kernel_rfl) rfl rfl rfl (c_spec_l1In p_sensitivity 0 1000 t_4 ht_4 _ m hS.vis) ?_
      rintro a w _ rfl hF hS
      refine q_xg (v := (.bool (!t_4))) hF hS (ex_not rfl) (wanted_t hF rfl rfl rfl hc2) rfl fun a hF => ?_
      refine q_x (v := (.bool (!t_4))) hF hS (ex_pick_f rfl rfl hc2) rfl rfl fun a hF => ?_
      refine q_end (n_jn ?_)
      obtain rfl := someI hj1
      exact ⟨hF.sub ⟨rfl, rfl, rfl, rfl, trivial⟩, hS⟩
    · have hj1 := cond_t hc2 hj1
      refine q_skip hF (wanted_f hF rfl rfl rfl hc2 rfl) rfl fun a hF => ?_
      refine q_skip hF (wanted_f hF rfl rfl rfl hc2 rfl) rfl fun a hF => ?_
      refine q_skip hF (wanted_f hF rfl rfl rfl hc2 rfl) rfl fun a hF => ?_
      refine q_x (v := (.bool true)) hF hS (ex_pick_t rfl rfl hc2) rfl rfl fun a hF => ?_
      refine q_end (n_jn ?_)
      obtain rfl := someI hj1
      exact ⟨hF.sub ⟨rfl, rfl, rfl, rfl, trivial⟩, hS⟩
  · rintro a w ⟨hF, hS⟩
    refine n_sq ?_
    rcases hc3 : (t_5) with _ | _
    · have hr := cond_f hc3 hr
      refine q_cond_f hF rfl hc3 ?_
      refine q_skipc (n_sq ?_)
      refine q_seq ?_
      refine q_region ?_
      refine q_x (v := (.int .i64 p_sensitivity)) hF hS (ex_move rfl) rfl rfl fun a hF => ?_
      refine q_x (v := (.int .i64 p_sensitivity)) hF hS (ex_move rfl) rfl rfl fun a hF => ?_
      refine q_x (v := (.int .i64 (w64 (p_sensitivity * p_sensitivity)))) hF hS (ex_ibin rfl rfl rfl) rfl rfl fun a hF => ?_
      refine q_x (v := (.pointer (some ⟨b1, 1, none⟩))) hF hS (ex_fieldAddr Try.underlying24 rfl sz3 rfl rfl) rfl rfl fun a hF => ?_
      refine q_x (v := (.int .i64 p_sigma2.Den)) hF hS (ex_load1 1 0 Try.underlying3 rfl rfl rfl rfl) rfl rfl fun a hF => ?_
      refine q_x (v := (.int .i64 (w64 ((w64 (p_sensitivity * p_sensitivity)) * p_sigma2.Den)))) hF hS (ex_ibin rfl rfl rfl) rfl rfl fun a hF => ?_
      refine q_x (v := (.pointer (some ⟨b1, 0, none⟩))) hF hS (ex_fieldAddr Try.underlying24 rfl sz3 rfl rfl) rfl rfl fun a hF => ?_
      refine q_x (v := (.int .i64 p_sigma2.Num)) hF hS (ex_load1 1 0 Try.underlying3 rfl rfl rfl rfl) rfl rfl fun a hF => ?_
      refine q_x (v := (.int .i64 (w64 (2 * p_sigma2.Num)))) hF hS (ex_ibin rfl rfl rfl) rfl rfl fun a hF => ?_
      obtain ⟨t_6, ht_6, hr⟩ := bindS hr
      refine q_call (vs := [(.int .i64 (w64 ((w64 (p_sensitivity * p_sensitivity)) * p_sigma2.Den))), (.int .i64 (w64 (2 * p_sigma2.Num)))]) hF hS Try.func24 (by kernel_rfl) rfl rfl rfl (c_spec_fMake (w64 ((w64 (p_sensitivity * p_sensitivity)) * p_sigma2.Den)) (w64 (2 * p_sigma2.Num)) t_6 ht_6 _ m hS.vis) ?_
      rintro a w _ rfl hF hS
      refine q_x (v := (.agg #[(.int .i64 t_6.1.Num), (.int .i64 t_6.1.Den)])) hF hS (ex_extract rfl rfl) rfl rfl fun a hF => ?_
      refine q_x (v := (.bool t_6.2)) hF hS (ex_extract rfl rfl) rfl rfl fun a hF => ?_
      refine q_store (vs := [(.int .i64 t_6.1.Num), (.int .i64 t_6.1.Den)]) (cs' := [(.int .i64 t_6.1.Num), (.int .i64 t_6.1.Den)]) 0 0 hF hS sz24 rfl rfl rfl rfl rfl rfl rfl rfl fun a w hF hS => ?_
      refine q_x (v := (.bool t_6.2)) hF hS (ex_assign rfl) rfl rfl fun a hF => ?_
      refine q_end (n_sq (q_ret ?_))
      obtain rfl := someI hr
      exact ret_of hF hS rfl (.cellA (us := [(.int .i64 t_6.1.Num), (.int .i64 t_6.1.Den)]) 0 0 Try.underlying24 rfl sz24 rfl rfl rfl rfl (.tmp rfl .nil)) rfl
    · have hr := cond_t hc3 hr
      refine q_cond_t hF rfl hc3 ?_
      refine q_seq ?_
      refine q_region ?_
      refine q_x (v := (.agg #[(.int .i64 0), (.int .i64 0)])) hF hS (ex_build (cells := [(.int .i64 0), (.int .i64 0)]) rfl (by kernel_rfl)) rfl rfl fun a hF => ?_
      refine q_store (vs := [(.int .i64 0), (.int .i64 0)]) (cs' := [(.int .i64 0), (.int .i64 0)]) 0 0 hF hS sz24 rfl rfl rfl rfl rfl rfl rfl rfl fun a w hF hS => ?_
      refine q_x (v := (.bool false)) hF hS (ex_assign rfl) rfl rfl fun a hF => ?_
      refine q_end (n_sq (q_ret (r_sq ?_)))
      obtain rfl := someI hr
      exact ret_of hF hS rfl (.cellA (us := [(.int .i64 0), (.int .i64 0)]) 0 0 Try.underlying24 rfl sz24 rfl rfl rfl rfl (.tmp rfl .nil)) rfl

theorem c_impl_gcdOf (p_a : Int) (p_b : Int) (r : Int) (hr : impl_gcdOf p_a p_b = some r) (w0 : World) (m : Mem) (hv : Vis m w0) :
    Ret Try.prog 46 [(.int .i64 p_a), (.int .i64 p_b)] w0 fun v _ => v = (.int .i64 r) := by
  unfold impl_gcdOf at hr
  refine ret_start Try.func46 rfl 20 rfl rfl m hv fun a hF hS => ?_
  refine q_seq ?_
  refine q_region ?_
  refine q_x (v := (.int .i64 0)) hF hS (ex_assign rfl) rfl rfl fun a hF => ?_
  refine q_end (n_sq ?_)
  refine q_seq ?_
  refine q_seq ?_
  refine q_region ?_
  refine q_x (v := (.int .i64 p_a)) hF hS (ex_move rfl) rfl rfl fun a hF => ?_
  refine q_x (v := (.bool (decide (p_a < 0)))) hF hS (ex_ibin rfl rfl rfl) rfl rfl fun a hF => ?_
  refine q_end (n_sq ?_)
  obtain ⟨a_1, hj1, hr⟩ := bindS hr
  refine q_join (fun a w => Fr a 20 [(0, (.int .i64 a_1)), (1, (.int .i64 p_b))] ∧ St [] w0 w m []) ?_ ?_
  · rcases hc2 : (decide (p_a < 0)) with _ | _
    · have hj1 := cond_f hc2 hj1
      refine q_cond_f hF rfl hc2 ?_
      refine q_skipc (n_jn ?_)
      obtain rfl := someI hj1
      exact ⟨hF.sub ⟨rfl, rfl, trivial⟩, hS⟩
    · have hj1 := cond_t hc2 hj1
      refine q_cond_t hF rfl hc2 ?_
      refine q_region ?_
      refine q_x (v := (.int .i64 p_a)) hF hS (ex_move rfl) rfl rfl fun a hF => ?_
      refine q_x (v := (.int .i64 (w64 (-p_a)))) hF hS (ex_neg rfl) rfl rfl fun a hF => ?_
      refine q_x (v := (.int .i64 (w64 (-p_a)))) hF hS (ex_assign rfl) rfl rfl fun a hF => ?_
      refine q_end (n_jn ?_)
      obtain rfl := someI hj1
      exact ⟨hF.sub ⟨rfl, rfl, trivial⟩, hS⟩
  · rintro a w ⟨hF, hS⟩
    refine n_sq ?_
    refine q_seq ?_
    refine q_seq ?_
    refine q_region ?_
    refine q_x (v := (.int .i64 p_b)) hF hS (ex_move rfl) rfl rfl fun a hF => ?_
    refine q_x (v := (.bool (decide (p_b < 0)))) hF hS (ex_ibin rfl rfl rfl) rfl rfl fun a hF => ?_
    refine q_end (n_sq ?_)
    obtain ⟨b_2, hj3, hr⟩ := bindS hr
    refine q_join (fun a w => Fr a 20 [(0, (.int .i64 a_1)), (1, (.int .i64 b_2))] ∧ St [] w0 w m []) ?_ ?_
    · rcases hc4 : (decide (p_b < 0)) with _ | _
      · have hj3 := cond_f hc4 hj3
        refine q_cond_f hF rfl hc4 ?_
        refine q_skipc (n_jn ?_)
        obtain rfl := someI hj3
        exact ⟨hF.sub ⟨rfl, rfl, trivial⟩, hS⟩
      · have hj3 := cond_t hc4 hj3
        refine q_cond_t hF rfl hc4 ?_
        refine q_region ?_
        refine q_x (v := (.int .i64 p_b)) hF hS (ex_move rfl) rfl rfl fun a hF => ?_
        refine q_x (v := (.int .i64 (w64 (-p_b)))) hF hS (ex_neg rfl) rfl rfl fun a hF => ?_
        refine q_x (v := (.int .i64 (w64 (-p_b)))) hF hS (ex_assign rfl) rfl rfl fun a hF => ?_
        refine q_end (n_jn ?_)
        obtain rfl := someI hj3
        exact ⟨hF.sub ⟨rfl, rfl, trivial⟩, hS⟩
    · rintro a w ⟨hF, hS⟩
      refine n_sq ?_
      refine q_seq ?_
      refine q_block ?_
      obtain ⟨a_6, hl5, hr⟩ := bindS hr
      refine q_loop (fun (s : Int × Int) a w => ∃ a_3 b_4, s = (a_3, b_4) ∧ Fr a 20 [(0, (.int .i64 a_3)), (1, (.int .i64 b_4))] ∧ St [] w0 w m []) (fun (a_6 : Int) e a w => e = .exit 0 ∧ Fr a 20 [(0, (.int .i64 a_6))] ∧ St [] w0 w m []) hl5 ⟨_, _, rfl, hF.sub ⟨rfl, rfl, trivial⟩, hS⟩ ?_ ?_
      · clear hF hS
        rintro s a w st ⟨a_3, b_4, rfl, hF, hS⟩ hb5
        unfold impl_gcdOf_l1 at hb5
        refine q_seq ?_
        refine q_seq ?_
        refine q_region ?_
        refine q_x (v := (.int .i64 b_4)) hF hS (ex_move rfl) rfl rfl fun a hF => ?_
        refine q_x (v := (.bool (b_4 != 0))) hF hS (ex_ibin rfl rfl rfl) rfl rfl fun a hF => ?_
        refine q_end (n_sq ?_)
        rcases hc6 : (b_4 != 0) with _ | _
        · have hb5 := cond_f hc6 hb5
          refine q_cond_f hF rfl hc6 ?_
          refine q_exit (x_sq ?_)
          obtain rfl := someI hb5
          exact ⟨nofun, .inl ⟨rfl, hF.sub ⟨rfl, trivial⟩, hS⟩⟩
        · have hb5 := cond_t hc6 hb5
          refine q_cond_t hF rfl hc6 ?_
          refine q_skipc (n_sq ?_)
          refine q_block ?_
          refine e_region [] mixed fun w' hw' => ?_
          have hS := hS.below hw'
          refine e_p (v := (.int .i64 b_4)) 0 hF rfl (ex_move rfl) rfl rfl (by kernel_rfl) (by kernel_rfl) (by kernel_rfl) fun a hF => ?_
          refine e_p (v := (.int .i64 a_3)) 1 hF rfl (ex_move rfl) rfl rfl (by kernel_rfl) (by kernel_rfl) (by kernel_rfl) fun a hF => ?_
          refine e_p (v := (.int .i64 b_4)) 2 hF rfl (ex_move rfl) rfl rfl (by kernel_rfl) (by kernel_rfl) (by kernel_rfl) fun a hF => ?_
          obtain ⟨t_5, ht_5, hb5⟩ := bindS hb5
          refine e_p (v := (.int .i64 t_5)) 3 hF rfl (ex_rem rfl rfl ht_5) rfl rfl (by kernel_rfl) (by kernel_rfl) (by kernel_rfl) fun a hF => ?_
          refine e_p (v := (.int .i64 b_4)) 4 hF rfl (ex_assign rfl) rfl rfl (by kernel_rfl) (by kernel_rfl) (by kernel_rfl) fun a hF => ?_
          refine e_p (v := (.int .i64 t_5)) 5 hF rfl (ex_assign rfl) rfl rfl (by kernel_rfl) (by kernel_rfl) (by kernel_rfl) fun a hF => ?_
          refine e_end (by kernel_rfl) (n_ib ?_) _
          obtain rfl := someI hb5
          exact ⟨rfl, _, _, rfl, hF.sub ⟨rfl, rfl, trivial⟩, hS⟩
      · rintro e a w ⟨rfl, hF, hS⟩
        refine x_ib (n_sq ?_)
        refine q_seq ?_
        refine q_region ?_
        refine q_x (v := (.int .i64 a_6)) hF hS (ex_move rfl) rfl rfl fun a hF => ?_
        refine q_x (v := (.int .i64 a_6)) hF hS (ex_assign rfl) rfl rfl fun a hF => ?_
        refine q_end (n_sq (q_ret ?_))
        obtain rfl := someI hr
        exact ret_of hF hS rfl (.tmp rfl .nil) rfl

theorem c_impl_IsFrac (p_f : impl_Frac) (r : Bool) (hr : impl_IsFrac p_f = some r) (w0 : World) (m : Mem) (hv : Vis m w0) :
    Ret Try.prog 45 [(.agg #[(.int .i64 p_f.Num), (.int .i64 p_f.Den)])] w0 fun v _ => v = (.bool r) := by
  unfold impl_IsFrac at hr
  refine ret_start Try.func45 rfl 29 rfl rfl m hv fun a hF hS => ?_
  refine q_seq ?_
  refine q_region ?_
  refine q_box (cs := [(.int .i64 p_f.Num), (.int .i64 p_f.Den)]) hF hS rfl rfl rfl fun a w b1 hF hS => ?_
  refine q_x (v := (.bool false)) hF hS (ex_assign rfl) rfl rfl fun a hF => ?_
  refine q_end (n_sq ?_)
  refine q_seq ?_
  obtain ⟨t_3, hj1, hr⟩ := bindS hr
  refine q_join (fun a w => Fr a 29 [(2, (.bool t_3))] ∧ St [] w0 w m []) ?_ ?_
  · refine q_region ?_
    refine q_x (v := (.pointer (some ⟨b1, 1, none⟩))) hF hS (ex_fieldAddr Try.underlying24 rfl sz3 rfl rfl) rfl rfl fun a hF => ?_
    refine q_x (v := (.int .i64 p_f.Den)) hF hS (ex_load1 0 0 Try.underlying3 rfl rfl rfl rfl) rfl rfl fun a hF => ?_
    refine q_x (v := (.bool (decide (1 ≤ p_f.Den)))) hF hS (ex_ibin rfl rfl rfl) rfl rfl fun a hF => ?_
    refine q_x (v := (.bool (decide (1 ≤ p_f.Den)))) hF hS (ex_move rfl) rfl rfl fun a hF => ?_
    rcases hc2 : (decide (1 ≤ p_f.Den)) with _ | _
    · have hj1 := cond_f hc2 hj1
      refine q_skip hF (wanted_f hF rfl rfl rfl hc2 rfl) rfl fun a hF => ?_
      refine q_skip hF (wanted_f hF rfl rfl rfl hc2 rfl) rfl fun a hF => ?_
      refine q_skip hF (wanted_f hF rfl rfl rfl hc2 rfl) rfl fun a hF => ?_
      refine q_x (v := (.bool false)) hF hS (ex_pick_f rfl rfl hc2) rfl rfl fun a hF => ?_
      refine q_x (v := (.bool false)) hF hS (ex_move rfl) rfl rfl fun a hF => ?_
      refine q_skip hF (wanted_f hF rfl rfl rfl rfl rfl) rfl fun a hF => ?_
      refine q_skip hF (wanted_f hF rfl rfl rfl rfl rfl) rfl fun a hF => ?_
      refine q_skip hF (wanted_f hF rfl rfl rfl rfl rfl) rfl fun a hF => ?_
      refine q_x (v := (.bool false)) hF hS (ex_pick_f rfl rfl rfl) rfl rfl fun a hF => ?_
      refine q_x (v := (.bool false)) hF hS (ex_move rfl) rfl rfl fun a hF => ?_
      refine q_skip hF (wanted_f hF rfl rfl rfl rfl rfl) rfl fun a hF => ?_
      refine q_skip hF (wanted_f hF rfl rfl rfl rfl rfl) rfl fun a hF => ?_
      refine q_skip hF (wanted_f hF rfl rfl rfl rfl rfl) rfl fun a hF => ?_
      refine q_x (v := (.bool false)) hF hS (ex_pick_f rfl rfl rfl) rfl rfl fun a hF => ?_
      refine q_x (v := (.bool false)) hF hS (ex_move rfl) rfl rfl fun a hF => ?_
      refine q_skip hF (wanted_f hF rfl rfl rfl rfl rfl) rfl fun a hF => ?_
      refine q_skip hF (wanted_f hF rfl rfl rfl rfl rfl) rfl fun a hF => ?_
      refine q_skip hF (wanted_f hF rfl rfl rfl rfl rfl) rfl fun a hF => ?_
      refine q_skip hF (wanted_f hF rfl rfl rfl rfl rfl) rfl fun a hF => ?_
      refine q_skip hF (wanted_f hF rfl rfl rfl rfl rfl) rfl fun a hF => ?_
      refine q_skip hF (wanted_f hF rfl rfl rfl rfl rfl) rfl fun a hF => ?_
      refine q_x (v := (.bool false)) hF hS (ex_pick_f rfl rfl rfl) rfl rfl fun a hF => ?_
      refine q_x (v := (.bool false)) hF hS (ex_assign rfl) rfl rfl fun a hF => ?_
      refine q_end (n_jn ?_)
      obtain rfl := someI hj1
      exact ⟨hF.sub ⟨rfl, trivial⟩, hS.mask [false]⟩
    · have hj1 := cond_t hc2 hj1
      refine q_xg (v := (.pointer (some ⟨b1, 1, none⟩))) hF hS (ex_fieldAddr Try.underlying24 rfl sz3 rfl rfl) (wanted_t hF rfl rfl rfl hc2) rfl fun a hF => ?_
      refine q_xg (v := (.int .i64 p_f.Den)) hF hS (ex_load1 0 0 Try.underlying3 rfl rfl rfl rfl) (wanted_t hF rfl rfl rfl hc2) rfl fun a hF => ?_
      refine q_xg (v := (.bool (decide (p_f.Den ≤ 1000000000)))) hF hS (ex_ibin rfl rfl rfl) (wanted_t hF rfl rfl rfl hc2) rfl fun a hF => ?_
      refine q_x (v := (.bool (decide (p_f.Den ≤ 1000000000)))) hF hS (ex_pick_t rfl rfl hc2) rfl rfl fun a hF => ?_
      refine q_x (v := (.bool (decide (p_f.Den ≤ 1000000000)))) hF hS (ex_move rfl) rfl rfl fun a hF => ?_
      rcases hc3 : (decide (p_f.Den ≤ 1000000000)) with _ | _
      · have hj1 := cond_f hc3 hj1
        refine q_skip hF (wanted_f hF rfl rfl rfl hc3 rfl) rfl fun a hF => ?_
        refine q_skip hF (wanted_f hF rfl rfl rfl hc3 rfl) rfl fun a hF => ?_
        refine q_skip hF (wanted_f hF rfl rfl rfl hc3 rfl) rfl fun a hF => ?_
        refine q_x (v := (.bool false)) hF hS (ex_pick_f rfl rfl hc3) rfl rfl fun a hF => ?_
        refine q_x (v := (.bool false)) hF hS (ex_move rfl) rfl rfl fun a hF => ?_
        refine q_skip hF (wanted_f hF rfl rfl rfl rfl rfl) rfl fun a hF => ?_
        refine q_skip hF (wanted_f hF rfl rfl rfl rfl rfl) rfl fun a hF => ?_
        refine q_skip hF (wanted_f hF rfl rfl rfl rfl rfl) rfl fun a hF => ?_
        refine q_x (v := (.bool false)) hF hS (ex_pick_f rfl rfl rfl) rfl rfl fun a hF => ?_
        refine q_x (v := (.bool false)) hF hS (ex_move rfl) rfl rfl fun a hF => ?_
        refine q_skip hF (wanted_f hF rfl rfl rfl rfl rfl) rfl fun a hF => ?_
        refine q_skip hF (wanted_f hF rfl rfl rfl rfl rfl) rfl fun a hF => ?_
        refine q_skip hF (wanted_f hF rfl rfl rfl rfl rfl) rfl fun a hF => ?_
        refine q_skip hF (wanted_f hF rfl rfl rfl rfl rfl) rfl fun a hF => ?_
        refine q_skip hF (wanted_f hF rfl rfl rfl rfl rfl) rfl fun a hF => ?_
        refine q_skip hF (wanted_f hF rfl rfl rfl rfl rfl) rfl fun a hF => ?_
        refine q_x (v := (.bool false)) hF hS (ex_pick_f rfl rfl rfl) rfl rfl fun a hF => ?_
        refine q_x (v := (.bool false)) hF hS (ex_assign rfl) rfl rfl fun a hF => ?_
        refine q_end (n_jn ?_)
        obtain rfl := someI hj1
        exact ⟨hF.sub ⟨rfl, trivial⟩, hS.mask [false]⟩
      · have hj1 := cond_t hc3 hj1
        refine q_xg (v := (.pointer (some ⟨b1, 0, none⟩))) hF hS (ex_fieldAddr Try.underlying24 rfl sz3 rfl rfl) (wanted_t hF rfl rfl rfl hc3) rfl fun a hF => ?_
        refine q_xg (v := (.int .i64 p_f.Num)) hF hS (ex_load1 0 0 Try.underlying3 rfl rfl rfl rfl) (wanted_t hF rfl rfl rfl hc3) rfl fun a hF => ?_
        refine q_xg (v := (.bool (decide ((-1000000000) ≤ p_f.Num)))) hF hS (ex_ibin rfl rfl rfl) (wanted_t hF rfl rfl rfl hc3) rfl fun a hF => ?_
        refine q_x (v := (.bool (decide ((-1000000000) ≤ p_f.Num)))) hF hS (ex_pick_t rfl rfl hc3) rfl rfl fun a hF => ?_
        refine q_x (v := (.bool (decide ((-1000000000) ≤ p_f.Num)))) hF hS (ex_move rfl) rfl rfl fun a hF => ?_
        rcases hc4 : (decide ((-1000000000) ≤ p_f.Num)) with _ | _
        · have hj1 := cond_f hc4 hj1
          refine q_skip hF (wanted_f hF rfl rfl rfl hc4 rfl) rfl fun a hF => ?_
          refine q_skip hF (wanted_f hF rfl rfl rfl hc4 rfl) rfl fun a hF => ?_
          refine q_skip hF (wanted_f hF rfl rfl rfl hc4 rfl) rfl fun a hF => ?_
          refine q_x (v := (.bool false)) hF hS (ex_pick_f rfl rfl hc4) rfl rfl fun a hF => ?_
          refine q_x (v := (.bool false)) hF hS (ex_move rfl) rfl rfl fun a hF => ?_
          refine q_skip hF (wanted_f hF rfl rfl rfl rfl rfl) rfl fun a hF => ?_
          refine q_skip hF (wanted_f hF rfl rfl rfl rfl rfl) rfl fun a hF => ?_
          refine q_skip hF (wanted_f hF rfl rfl rfl rfl rfl) rfl fun a hF => ?_
          refine q_skip hF (wanted_f hF rfl rfl rfl rfl rfl) rfl fun a hF => ?_
          refine q_skip hF (wanted_f hF rfl rfl rfl rfl rfl) rfl fun a hF => ?_
          refine q_skip hF (wanted_f hF rfl rfl rfl rfl rfl) rfl fun a hF => ?_
          refine q_x (v := (.bool false)) hF hS (ex_pick_f rfl rfl rfl) rfl rfl fun a hF => ?_
          refine q_x (v := (.bool false)) hF hS (ex_assign rfl) rfl rfl fun a hF => ?_
          refine q_end (n_jn ?_)
          obtain rfl := someI hj1
          exact ⟨hF.sub ⟨rfl, trivial⟩, hS.mask [false]⟩
        · have hj1 := cond_t hc4 hj1
          refine q_xg (v := (.pointer (some ⟨b1, 0, none⟩))) hF hS (ex_fieldAddr Try.underlying24 rfl sz3 rfl rfl) (wanted_t hF rfl rfl rfl hc4) rfl fun a hF => ?_
          refine q_xg (v := (.int .i64 p_f.Num)) hF hS (ex_load1 0 0 Try.underlying3 rfl rfl rfl rfl) (wanted_t hF rfl rfl rfl hc4) rfl fun a hF => ?_
          refine q_xg (v := (.bool (decide (p_f.Num ≤ 1000000000)))) hF hS (ex_ibin rfl rfl rfl) (wanted_t hF rfl rfl rfl hc4) rfl fun a hF => ?_
          refine q_x (v := (.bool (decide (p_f.Num ≤ 1000000000)))) hF hS (ex_pick_t rfl rfl hc4) rfl rfl fun a hF => ?_
          refine q_x (v := (.bool (decide (p_f.Num ≤ 1000000000)))) hF hS (ex_move rfl) rfl rfl fun a hF => ?_
          rcases hc5 : (decide (p_f.Num ≤ 1000000000)) with _ | _
          · have hj1 := cond_f hc5 hj1
            refine q_skip hF (wanted_f hF rfl rfl rfl hc5 rfl) rfl fun a hF => ?_
            refine q_skip hF (wanted_f hF rfl rfl rfl hc5 rfl) rfl fun a hF => ?_
            refine q_skip hF (wanted_f hF rfl rfl rfl hc5 rfl) rfl fun a hF => ?_
            refine q_skip hF (wanted_f hF rfl rfl rfl hc5 rfl) rfl fun a hF => ?_
            refine q_skip hF (wanted_f hF rfl rfl rfl hc5 rfl) rfl fun a hF => ?_
            refine q_skip hF (wanted_f hF rfl rfl rfl hc5 rfl) rfl fun a hF => ?_
            refine q_x (v := (.bool false)) hF hS (ex_pick_f rfl rfl hc5) rfl rfl fun a hF => ?_
            refine q_x (v := (.bool false)) hF hS (ex_assign rfl) rfl rfl fun a hF => ?_
            refine q_end (n_jn ?_)
            obtain rfl := someI hj1
            exact ⟨hF.sub ⟨rfl, trivial⟩, hS.mask [false]⟩
          · have hj1 := cond_t hc5 hj1
            refine q_xg (v := (.pointer (some ⟨b1, 0, none⟩))) hF hS (ex_fieldAddr Try.underlying24 rfl sz3 rfl rfl) (wanted_t hF rfl rfl rfl hc5) rfl fun a hF => ?_
            refine q_xg (v := (.int .i64 p_f.Num)) hF hS (ex_load1 0 0 Try.underlying3 rfl rfl rfl rfl) (wanted_t hF rfl rfl rfl hc5) rfl fun a hF => ?_
            refine q_xg (v := (.pointer (some ⟨b1, 1, none⟩))) hF hS (ex_fieldAddr Try.underlying24 rfl sz3 rfl rfl) (wanted_t hF rfl rfl rfl hc5) rfl fun a hF => ?_
            refine q_xg (v := (.int .i64 p_f.Den)) hF hS (ex_load1 0 0 Try.underlying3 rfl rfl rfl rfl) (wanted_t hF rfl rfl rfl hc5) rfl fun a hF => ?_
            obtain ⟨t_2, ht_2, hj1⟩ := bindS hj1
            refine q_callg (vs := [(.int .i64 p_f.Num), (.int .i64 p_f.Den)]) hF hS (wanted_t hF rfl rfl rfl hc5) Try.func46 (by kernel_rfl) rfl rfl rfl (c_impl_gcdOf p_f.Num p_f.Den t_2 ht_2 _ m hS.vis) ?_
            rintro a w _ rfl hF hS
            refine q_xg (v := (.bool (t_2 == 1))) hF hS (ex_ibin rfl rfl rfl) (wanted_t hF rfl rfl rfl hc5) rfl fun a hF => ?_
            refine q_x (v := (.bool (t_2 == 1))) hF hS (ex_pick_t rfl rfl hc5) rfl rfl fun a hF => ?_
            refine q_x (v := (.bool (t_2 == 1))) hF hS (ex_assign rfl) rfl rfl fun a hF => ?_
            refine q_end (n_jn ?_)
            obtain rfl := someI hj1
            exact ⟨hF.sub ⟨rfl, trivial⟩, hS.mask [false]⟩
  · rintro a w ⟨hF, hS⟩
    refine n_sq (q_ret ?_)
    obtain rfl := someI hr
    exact ret_of hF hS rfl (.tmp rfl .nil) rfl

theorem c_impl_isSigma2 (p_sigma2 : impl_Frac) (r : Bool) (hr : impl_isSigma2 p_sigma2 = some r) (w0 : World) (m : Mem) (hv : Vis m w0) :
    Ret Try.prog 25 [(.agg #[(.int .i64 p_sigma2.Num), (.int .i64 p_sigma2.Den)])] w0 fun v _ => v = (.bool r) := by
  unfold impl_isSigma2 at hr
  refine ret_start Try.func25 rfl 18 rfl rfl m hv fun a hF hS => ?_
  refine q_seq ?_
  refine q_region ?_
  refine q_box (cs := [(.int .i64 p_sigma2.Num), (.int .i64 p_sigma2.Den)]) hF hS rfl rfl rfl fun a w b1 hF hS => ?_
  refine q_x (v := (.bool false)) hF hS (ex_assign rfl) rfl rfl fun a hF => ?_
  refine q_end (n_sq ?_)
  refine q_seq ?_
  obtain ⟨t_3, hj1, hr⟩ := bindS hr
  refine q_join (fun a w => Fr a 18 [(2, (.bool t_3))] ∧ St [] w0 w m []) ?_ ?_
  · refine q_region ?_
    refine q_x (v := (.agg #[(.int .i64 p_sigma2.Num), (.int .i64 p_sigma2.Den)])) hF hS (ex_loadA (vs := [(.int .i64 p_sigma2.Num), (.int .i64 p_sigma2.Den)]) 0 0 Try.underlying24 rfl sz24 rfl rfl rfl rfl) rfl rfl fun a hF => ?_
    obtain ⟨t_2, ht_2, hj1⟩ := bindS hj1
    refine q_call (vs := [(.agg #[(.int .i64 p_sigma2.Num), (.int .i64 p_sigma2.Den)])]) hF hS Try.func45 (by kernel_rfl) rfl rfl rfl (c_impl_IsFrac p_sigma2 t_2 ht_2 _ m hS.vis) ?_
    rintro a w _ rfl hF hS
    refine q_x (v := (.bool t_2)) hF hS (ex_move rfl) rfl rfl fun a hF => ?_
    rcases hc2 : (t_2) with _ | _
    · have hj1 := cond_f hc2 hj1
      refine q_skip hF (wanted_f hF rfl rfl rfl hc2 rfl) rfl fun a hF => ?_
      refine q_skip hF (wanted_f hF rfl rfl rfl hc2 rfl) rfl fun a hF => ?_
      refine q_skip hF (wanted_f hF rfl rfl rfl hc2 rfl) rfl fun a hF => ?_
      refine q_x (v := (.bool false)) hF hS (ex_pick_f rfl rfl hc2) rfl rfl fun a hF => ?_
      refine q_x (v := (.bool false)) hF hS (ex_move rfl) rfl rfl fun a hF => ?_
      refine q_skip hF (wanted_f hF rfl rfl rfl rfl rfl) rfl fun a hF => ?_
      refine q_skip hF (wanted_f hF rfl rfl rfl rfl rfl) rfl fun a hF => ?_
      refine q_skip hF (wanted_f hF rfl rfl rfl rfl rfl) rfl fun a hF => ?_
      refine q_skip hF (wanted_f hF rfl rfl rfl rfl rfl) rfl fun a hF => ?_
      refine q_skip hF (wanted_f hF rfl rfl rfl rfl rfl) rfl fun a hF => ?_
      refine q_skip hF (wanted_f hF rfl rfl rfl rfl rfl) rfl fun a hF => ?_
      refine q_x (v := (.bool false)) hF hS (ex_pick_f rfl rfl rfl) rfl rfl fun a hF => ?_
      refine q_x (v := (.bool false)) hF hS (ex_assign rfl) rfl rfl fun a hF => ?_
      refine q_end (n_jn ?_)
      obtain rfl := someI hj1
      exact ⟨hF.sub ⟨rfl, trivial⟩, hS.mask [false]⟩
    · have hj1 := cond_t hc2 hj1
      refine q_xg (v := (.pointer (some ⟨b1, 0, none⟩))) hF hS (ex_fieldAddr Try.underlying24 rfl sz3 rfl rfl) (wanted_t hF rfl rfl rfl hc2) rfl fun a hF => ?_
      refine q_xg (v := (.int .i64 p_sigma2.Num)) hF hS (ex_load1 0 0 Try.underlying3 rfl rfl rfl rfl) (wanted_t hF rfl rfl rfl hc2) rfl fun a hF => ?_
      refine q_xg (v := (.bool (decide (0 < p_sigma2.Num)))) hF hS (ex_ibin rfl rfl rfl) (wanted_t hF rfl rfl rfl hc2) rfl fun a hF => ?_
      refine q_x (v := (.bool (decide (0 < p_sigma2.Num)))) hF hS (ex_pick_t rfl rfl hc2) rfl rfl fun a hF => ?_
      refine q_x (v := (.bool (decide (0 < p_sigma2.Num)))) hF hS (ex_move rfl) rfl rfl fun a hF => ?_
      rcases hc3 : (decide (0 < p_sigma2.Num)) with _ | _
      · have hj1 := cond_f hc3 hj1
        refine q_skip hF (wanted_f hF rfl rfl rfl hc3 rfl) rfl fun a hF => ?_
        refine q_skip hF (wanted_f hF rfl rfl rfl hc3 rfl) rfl fun a hF => ?_
        refine q_skip hF (wanted_f hF rfl rfl rfl hc3 rfl) rfl fun a hF => ?_
        refine q_skip hF (wanted_f hF rfl rfl rfl hc3 rfl) rfl fun a hF => ?_
        refine q_skip hF (wanted_f hF rfl rfl rfl hc3 rfl) rfl fun a hF => ?_
        refine q_skip hF (wanted_f hF rfl rfl rfl hc3 rfl) rfl fun a hF => ?_
        refine q_x (v := (.bool false)) hF hS (ex_pick_f rfl rfl hc3) rfl rfl fun a hF => ?_
        refine q_x (v := (.bool false)) hF hS (ex_assign rfl) rfl rfl fun a hF => ?_
        refine q_end (n_jn ?_)
        obtain rfl := someI hj1
        exact ⟨hF.sub ⟨rfl, trivial⟩, hS.mask [false]⟩
      · have hj1 := cond_t hc3 hj1
        refine q_xg (v := (.pointer (some ⟨b1, 0, none⟩))) hF hS (ex_fieldAddr Try.underlying24 rfl sz3 rfl rfl) (wanted_t hF rfl rfl rfl hc3) rfl fun a hF => ?_
        refine q_xg (v := (.int .i64 p_sigma2.Num)) hF hS (ex_load1 0 0 Try.underlying3 rfl rfl rfl rfl) (wanted_t hF rfl rfl rfl hc3) rfl fun a hF => ?_
        refine q_xg (v := (.pointer (some ⟨b1, 1, none⟩))) hF hS (ex_fieldAddr Try.underlying24 rfl sz3 rfl rfl) (wanted_t hF rfl rfl rfl hc3) rfl fun a hF => ?_
        refine q_xg (v := (.int .i64 p_sigma2.Den)) hF hS (ex_load1 0 0 Try.underlying3 rfl rfl rfl rfl) (wanted_t hF rfl rfl rfl hc3) rfl fun a hF => ?_
        refine q_xg (v := (.int .i64 (w64 (10000 * p_sigma2.Den)))) hF hS (ex_ibin rfl rfl rfl) (wanted_t hF rfl rfl rfl hc3) rfl fun a hF => ?_
        refine q_xg (v := (.bool (decide (p_sigma2.Num ≤ (w64 (10000 * p_sigma2.Den)))))) hF hS (ex_ibin rfl rfl rfl) (wanted_t hF rfl rfl rfl hc3) rfl fun a hF => ?_
        refine q_x (v := (.bool (decide (p_sigma2.Num ≤ (w64 (10000 * p_sigma2.Den)))))) hF hS (ex_pick_t rfl rfl hc3) rfl rfl fun a hF => ?_
        refine q_x (v := (.bool (decide (p_sigma2.Num ≤ (w64 (10000 * p_sigma2.Den)))))) hF hS (ex_assign rfl) rfl rfl fun a hF => ?_
        refine q_end (n_jn ?_)
        obtain rfl := someI hj1
        exact ⟨hF.sub ⟨rfl, trivial⟩, hS.mask [false]⟩
  · rintro a w ⟨hF, hS⟩
    refine n_sq (q_ret ?_)
    obtain rfl := someI hr
    exact ret_of hF hS rfl (.tmp rfl .nil) rfl

theorem c_impl_reduced (p_n : Int) (p_d : Int) (r : impl_Frac × Bool) (hr : impl_reduced p_n p_d = some r) (w0 : World) (m : Mem) (hv : Vis m w0) :
    Ret Try.prog 47 [(.int .i64 p_n), (.int .i64 p_d)] w0 fun v _ => v = (.tuple #[(.agg #[(.int .i64 r.1.Num), (.int .i64 r.1.Den)]), (.bool r.2)]) := by
  unfold impl_reduced at hr
  refine ret_start Try.func47 rfl 36 rfl rfl m hv fun a hF hS => ?_
  refine q_seq ?_
  refine q_region ?_
  refine q_alloc (cs := [(.int .i64 0), (.int .i64 0)]) hF hS rfl rfl rfl fun a w b1 hF hS => ?_
  refine q_x (v := (.bool false)) hF hS (ex_assign rfl) rfl rfl fun a hF => ?_
  refine q_end (n_sq ?_)
  refine q_seq ?_
  refine q_region ?_
  refine q_x (v := (.int .i64 p_n)) hF hS (ex_move rfl) rfl rfl fun a hF => ?_
  refine q_x (v := (.int .i64 p_d)) hF hS (ex_move rfl) rfl rfl fun a hF => ?_
  obtain ⟨t_2, ht_2, hr⟩ := bindS hr
  refine q_call (vs := [(.int .i64 p_n), (.int .i64 p_d)]) hF hS Try.func46 (by kernel_rfl) rfl rfl rfl (c_impl_gcdOf p_n p_d t_2 ht_2 _ m hS.vis) ?_
  rintro a w _ rfl hF hS
  refine q_x (v := (.int .i64 t_2)) hF hS (ex_assign rfl) rfl rfl fun a hF => ?_
  refine q_end (n_sq ?_)
  refine q_seq ?_
  refine e_region [] mixed fun w' hw' => ?_
  have hS := hS.below hw'
  refine e_p (v := (.int .i64 p_n)) 0 hF rfl (ex_move rfl) rfl rfl (by kernel_rfl) (by kernel_rfl) (by kernel_rfl) fun a hF => ?_
  refine e_p (v := (.int .i64 t_2)) 1 hF rfl (ex_move rfl) rfl rfl (by kernel_rfl) (by kernel_rfl) (by kernel_rfl) fun a hF => ?_
  obtain ⟨t_3, ht_3, hr⟩ := bindS hr
  refine e_p (v := (.int .i64 t_3)) 2 hF rfl (ex_quo rfl rfl ht_3) rfl rfl (by kernel_rfl) (by kernel_rfl) (by kernel_rfl) fun a hF => ?_
  refine e_p (v := (.int .i64 p_d)) 3 hF rfl (ex_move rfl) rfl rfl (by kernel_rfl) (by kernel_rfl) (by kernel_rfl) fun a hF => ?_
  refine e_p (v := (.int .i64 t_2)) 4 hF rfl (ex_move rfl) rfl rfl (by kernel_rfl) (by kernel_rfl) (by kernel_rfl) fun a hF => ?_
  obtain ⟨t_4, ht_4, hr⟩ := bindS hr
  refine e_p (v := (.int .i64 t_4)) 5 hF rfl (ex_quo rfl rfl ht_4) rfl rfl (by kernel_rfl) (by kernel_rfl) (by kernel_rfl) fun a hF => ?_
  refine e_p (v := (.int .i64 t_3)) 6 hF rfl (ex_assign rfl) rfl rfl (by kernel_rfl) (by kernel_rfl) (by kernel_rfl) fun a hF => ?_
  refine e_p (v := (.int .i64 t_4)) 7 hF rfl (ex_assign rfl) rfl rfl (by kernel_rfl) (by kernel_rfl) (by kernel_rfl) fun a hF => ?_
  refine e_end (by kernel_rfl) (n_sq ?_) _
  refine q_seq ?_
  refine q_seq ?_
  refine q_region ?_
  refine q_x (v := (.int .i64 t_4)) hF hS (ex_move rfl) rfl rfl fun a hF => ?_
  refine q_x (v := (.bool (decide (t_4 < 0)))) hF hS (ex_ibin rfl rfl rfl) rfl rfl fun a hF => ?_
  refine q_end (n_sq ?_)
  obtain ⟨j1, hj1, hr⟩ := bindS hr
  refine q_join (fun a w => ∃ n_5 d_6, j1 = (n_5, d_6) ∧ Fr a 36 [(0, (.int .i64 n_5)), (1, (.int .i64 d_6)), (4, (.pointer (some ⟨b1, 0, none⟩)))] ∧ St [] w0 w m [[⟨b1, [(.int .i64 0), (.int .i64 0)], 24⟩]]) ?_ ?_
  · rcases hc2 : (decide (t_4 < 0)) with _ | _
    · have hj1 := cond_f hc2 hj1
      refine q_cond_f hF rfl hc2 ?_
      refine q_skipc (n_jn ?_)
      obtain rfl := someI hj1
      exact ⟨_, _, rfl, hF.sub ⟨rfl, rfl, rfl, trivial⟩, hS⟩
    · have hj1 := cond_t hc2 hj1
      refine q_cond_t hF rfl hc2 ?_
      refine q_region ?_
      refine q_x (v := (.int .i64 t_3)) hF hS (ex_move rfl) rfl rfl fun a hF => ?_
      refine q_x (v := (.int .i64 (w64 (-t_3)))) hF hS (ex_neg rfl) rfl rfl fun a hF => ?_
      refine q_x (v := (.int .i64 t_4)) hF hS (ex_move rfl) rfl rfl fun a hF => ?_
      refine q_x (v := (.int .i64 (w64 (-t_4)))) hF hS (ex_neg rfl) rfl rfl fun a hF => ?_
      refine q_x (v := (.int .i64 (w64 (-t_3)))) hF hS (ex_assign rfl) rfl rfl fun a hF => ?_
      refine q_x (v := (.int .i64 (w64 (-t_4)))) hF hS (ex_assign rfl) rfl rfl fun a hF => ?_
      refine q_end (n_jn ?_)
      obtain rfl := someI hj1
      exact ⟨_, _, rfl, hF.sub ⟨rfl, rfl, rfl, trivial⟩, hS⟩
  · rintro a w ⟨n_5, d_6, rfl, hF, hS⟩
    refine n_sq ?_
    refine q_seq ?_
    refine q_seq ?_
    obtain ⟨t_7, hj3, hr⟩ := bindS hr
    refine q_join (fun a w => Fr a 36 [(0, (.int .i64 n_5)), (1, (.int .i64 d_6)), (4, (.pointer (some ⟨b1, 0, none⟩))), (31, (.bool t_7))] ∧ St [] w0 w m [[⟨b1, [(.int .i64 0), (.int .i64 0)], 24⟩]]) ?_ ?_
    · refine q_region ?_
      refine q_x (v := (.int .i64 n_5)) hF hS (ex_move rfl) rfl rfl fun a hF => ?_
      refine q_x (v := (.bool (decide (1000000000 < n_5)))) hF hS (ex_ibin rfl rfl rfl) rfl rfl fun a hF => ?_
      refine q_x (v := (.bool (decide (1000000000 < n_5)))) hF hS (ex_move rfl) rfl rfl fun a hF => ?_
      rcases hc4 : (decide (1000000000 < n_5)) with _ | _
      · have hj3 := cond_f hc4 hj3
        refine q_xg (v := (.int .i64 n_5)) hF hS (ex_move rfl) (wanted_t hF rfl rfl rfl hc4) rfl fun a hF => ?_
        refine q_xg (v := (.bool (decide (n_5 < (-1000000000))))) hF hS (ex_ibin rfl rfl rfl) (wanted_t hF rfl rfl rfl hc4) rfl fun a hF => ?_
        refine q_x (v := (.bool (decide (n_5 < (-1000000000))))) hF hS (ex_pick_f rfl rfl hc4) rfl rfl fun a hF => ?_
        refine q_x (v := (.bool (decide (n_5 < (-1000000000))))) hF hS (ex_move rfl) rfl rfl fun a hF => ?_
        rcases hc5 : (decide (n_5 < (-1000000000))) with _ | _
        · have hj3 := cond_f hc5 hj3
          refine q_xg (v := (.int .i64 d_6)) hF hS (ex_move rfl) (wanted_t hF rfl rfl rfl hc5) rfl fun a hF => ?_
          refine q_xg (v := (.bool (decide (1000000000 < d_6)))) hF hS (ex_ibin rfl rfl rfl) (wanted_t hF rfl rfl rfl hc5) rfl fun a hF => ?_
          refine q_x (v := (.bool (decide (1000000000 < d_6)))) hF hS (ex_pick_f rfl rfl hc5) rfl rfl fun a hF => ?_
          refine q_end (n_jn ?_)
          obtain rfl := someI hj3
          exact ⟨hF.sub ⟨rfl, rfl, rfl, rfl, trivial⟩, hS⟩
        · have hj3 := cond_t hc5 hj3
          refine q_skip hF (wanted_f hF rfl rfl rfl hc5 rfl) rfl fun a hF => ?_
          refine q_skip hF (wanted_f hF rfl rfl rfl hc5 rfl) rfl fun a hF => ?_
          refine q_x (v := (.bool true)) hF hS (ex_pick_t rfl rfl hc5) rfl rfl fun a hF => ?_
          refine q_end (n_jn ?_)
          obtain rfl := someI hj3
          exact ⟨hF.sub ⟨rfl, rfl, rfl, rfl, trivial⟩, hS⟩
      · have hj3 := cond_t hc4 hj3
        refine q_skip hF (wanted_f hF rfl rfl rfl hc4 rfl) rfl fun a hF => ?_
        refine q_skip hF (wanted_f hF rfl rfl rfl hc4 rfl) rfl fun a hF => ?_
        refine q_x (v := (.bool true)) hF hS (ex_pick_t rfl rfl hc4) rfl rfl fun a hF => ?_
        refine q_x (v := (.bool true)) hF hS (ex_move rfl) rfl rfl fun a hF => ?_
        refine q_skip hF (wanted_f hF rfl rfl rfl rfl rfl) rfl fun a hF => ?_
        refine q_skip hF (wanted_f hF rfl rfl rfl rfl rfl) rfl fun a hF => ?_
        refine q_x (v := (.bool true)) hF hS (ex_pick_t rfl rfl rfl) rfl rfl fun a hF => ?_
        refine q_end (n_jn ?_)
        obtain rfl := someI hj3
        exact ⟨hF.sub ⟨rfl, rfl, rfl, rfl, trivial⟩, hS⟩
    · rintro a w ⟨hF, hS⟩
      refine n_sq ?_
      rcases hc6 : (t_7) with _ | _
      · have hr := cond_f hc6 hr
        refine q_cond_f hF rfl hc6 ?_
        refine q_skipc (n_sq ?_)
        refine q_seq ?_
        refine q_region ?_
        refine q_x (v := (.int .i64 n_5)) hF hS (ex_move rfl) rfl rfl fun a hF => ?_
        refine q_x (v := (.int .i64 d_6)) hF hS (ex_move rfl) rfl rfl fun a hF => ?_
        refine q_x (v := (.agg #[(.int .i64 n_5), (.int .i64 d_6)])) hF hS (ex_build (cells := [(.int .i64 n_5), (.int .i64 d_6)]) rfl (by kernel_rfl)) rfl rfl fun a hF => ?_
        refine q_store (vs := [(.int .i64 n_5), (.int .i64 d_6)]) (cs' := [(.int .i64 n_5), (.int .i64 d_6)]) 0 0 hF hS sz24 rfl rfl rfl rfl rfl rfl rfl rfl fun a w hF hS => ?_
        refine q_x (v := (.bool true)) hF hS (ex_assign rfl) rfl rfl fun a hF => ?_
        refine q_end (n_sq (q_ret ?_))
        obtain rfl := someI hr
        exact ret_of hF hS rfl (.cellA (us := [(.int .i64 n_5), (.int .i64 d_6)]) 0 0 Try.underlying24 rfl sz24 rfl rfl rfl rfl (.tmp rfl .nil)) rfl
      · have hr := cond_t hc6 hr
        refine q_cond_t hF rfl hc6 ?_
        refine q_seq ?_
        refine q_region ?_
        refine q_x (v := (.agg #[(.int .i64 0), (.int .i64 0)])) hF hS (ex_build (cells := [(.int .i64 0), (.int .i64 0)]) rfl (by kernel_rfl)) rfl rfl fun a hF => ?_
        refine q_store (vs := [(.int .i64 0), (.int .i64 0)]) (cs' := [(.int .i64 0), (.int .i64 0)]) 0 0 hF hS sz24 rfl rfl rfl rfl rfl rfl rfl rfl fun a w hF hS => ?_
        refine q_x (v := (.bool false)) hF hS (ex_assign rfl) rfl rfl fun a hF => ?_
        refine q_end (n_sq (q_ret (r_sq ?_)))
        obtain rfl := someI hr
        exact ret_of hF hS rfl (.cellA (us := [(.int .i64 0), (.int .i64 0)]) 0 0 Try.underlying24 rfl sz24 rfl rfl rfl rfl (.tmp rfl .nil)) rfl

theorem c_impl_quotient (p_a : impl_Frac) (p_b : impl_Frac) (r : impl_Frac × Bool) (hr : impl_quotient p_a p_b = some r) (w0 : World) (m : Mem) (hv : Vis m w0) :
    Ret Try.prog 26 [(.agg #[(.int .i64 p_a.Num), (.int .i64 p_a.Den)]), (.agg #[(.int .i64 p_b.Num), (.int .i64 p_b.Den)])] w0 fun v _ => v = (.tuple #[(.agg #[(.int .i64 r.1.Num), (.int .i64 r.1.Den)]), (.bool r.2)]) := by
  unfold impl_quotient at hr
  refine ret_start Try.func26 rfl 40 rfl rfl m hv fun a hF hS => ?_
  refine q_seq ?_
  refine q_region ?_
  refine q_box (cs := [(.int .i64 p_a.Num), (.int .i64 p_a.Den)]) hF hS rfl rfl rfl fun a w b1 hF hS => ?_
  refine q_box (cs := [(.int .i64 p_b.Num), (.int .i64 p_b.Den)]) hF hS rfl rfl rfl fun a w b2 hF hS => ?_
  refine q_alloc (cs := [(.int .i64 0), (.int .i64 0)]) hF hS rfl rfl rfl fun a w b3 hF hS => ?_
  refine q_x (v := (.bool false)) hF hS (ex_assign rfl) rfl rfl fun a hF => ?_
  refine q_end (n_sq ?_)
  refine q_seq ?_
  refine q_region ?_
  refine q_x (v := (.pointer (some ⟨b1, 0, none⟩))) hF hS (ex_fieldAddr Try.underlying24 rfl sz3 rfl rfl) rfl rfl fun a hF => ?_
  refine q_x (v := (.int .i64 p_a.Num)) hF hS (ex_load1 2 0 Try.underlying3 rfl rfl rfl rfl) rfl rfl fun a hF => ?_
  refine q_x (v := (.pointer (some ⟨b2, 0, none⟩))) hF hS (ex_fieldAddr Try.underlying24 rfl sz3 rfl rfl) rfl rfl fun a hF => ?_
  refine q_x (v := (.int .i64 p_b.Num)) hF hS (ex_load1 1 0 Try.underlying3 rfl rfl rfl rfl) rfl rfl fun a hF => ?_
  obtain ⟨t_4, ht_4, hr⟩ := bindS hr
  refine q_call (vs := [(.int .i64 p_a.Num), (.int .i64 p_b.Num)]) hF hS Try.func46 (by kernel_rfl) rfl rfl rfl (c_impl_gcdOf p_a.Num p_b.Num t_4 ht_4 _ m hS.vis) ?_
  rintro a w _ rfl hF hS
  refine q_x (v := (.int .i64 t_4)) hF hS (ex_assign rfl) rfl rfl fun a hF => ?_
  refine q_end (n_sq ?_)
  refine q_seq ?_
  refine q_region ?_
  refine q_x (v := (.pointer (some ⟨b1, 1, none⟩))) hF hS (ex_fieldAddr Try.underlying24 rfl sz3 rfl rfl) rfl rfl fun a hF => ?_
  refine q_x (v := (.int .i64 p_a.Den)) hF hS (ex_load1 2 0 Try.underlying3 rfl rfl rfl rfl) rfl rfl fun a hF => ?_
  refine q_x (v := (.pointer (some ⟨b2, 1, none⟩))) hF hS (ex_fieldAddr Try.underlying24 rfl sz3 rfl rfl) rfl rfl fun a hF => ?_
  refine q_x (v := (.int .i64 p_b.Den)) hF hS (ex_load1 1 0 Try.underlying3 rfl rfl rfl rfl) rfl rfl fun a hF => ?_
  obtain ⟨t_5, ht_5, hr⟩ := bindS hr
  refine q_call (vs := [(.int .i64 p_a.Den), (.int .i64 p_b.Den)]) hF hS Try.func46 (by kernel_rfl) rfl rfl rfl (c_impl_gcdOf p_a.Den p_b.Den t_5 ht_5 _ m hS.vis) ?_
  rintro a w _ rfl hF hS
  refine q_x (v := (.int .i64 t_5)) hF hS (ex_assign rfl) rfl rfl fun a hF => ?_
  refine q_end (n_sq ?_)
  refine q_seq ?_
  refine e_region [22] mixed fun w' hw' => ?_
  have hS := hS.below hw'
  refine e_p (v := (.pointer (some ⟨b1, 0, none⟩))) 0 hF rfl (ex_fieldAddr Try.underlying24 rfl sz3 rfl rfl) rfl rfl (by kernel_rfl) (by kernel_rfl) (by kernel_rfl) fun a hF => ?_
  refine e_x (v := (.int .i64 p_a.Num)) 1 hF hS rfl (ex_load1 2 0 Try.underlying3 rfl rfl rfl rfl) rfl rfl (by kernel_rfl) (by kernel_rfl) (by kernel_rfl) (by kernel_rfl) fun a hF => ?_
  refine e_p (v := (.int .i64 t_4)) 2 hF rfl (ex_move rfl) rfl rfl (by kernel_rfl) (by kernel_rfl) (by kernel_rfl) fun a hF => ?_
  obtain ⟨t_6, ht_6, hr⟩ := bindS hr
  refine e_p (v := (.int .i64 t_6)) 3 hF rfl (ex_quo rfl rfl ht_6) rfl rfl (by kernel_rfl) (by kernel_rfl) (by kernel_rfl) fun a hF => ?_
  refine e_p (v := (.pointer (some ⟨b2, 1, none⟩))) 4 hF rfl (ex_fieldAddr Try.underlying24 rfl sz3 rfl rfl) rfl rfl (by kernel_rfl) (by kernel_rfl) (by kernel_rfl) fun a hF => ?_
  refine e_x (v := (.int .i64 p_b.Den)) 5 hF hS rfl (ex_load1 1 0 Try.underlying3 rfl rfl rfl rfl) rfl rfl (by kernel_rfl) (by kernel_rfl) (by kernel_rfl) (by kernel_rfl) fun a hF => ?_
  refine e_p (v := (.int .i64 t_5)) 6 hF rfl (ex_move rfl) rfl rfl (by kernel_rfl) (by kernel_rfl) (by kernel_rfl) fun a hF => ?_
  obtain ⟨t_7, ht_7, hr⟩ := bindS hr
  refine e_p (v := (.int .i64 t_7)) 7 hF rfl (ex_quo rfl rfl ht_7) rfl rfl (by kernel_rfl) (by kernel_rfl) (by kernel_rfl) fun a hF => ?_
  refine e_p (v := (.int .i64 (w64 (t_6 * t_7)))) 8 hF rfl (ex_ibin rfl rfl rfl) rfl rfl (by kernel_rfl) (by kernel_rfl) (by kernel_rfl) fun a hF => ?_
  refine e_p (v := (.pointer (some ⟨b1, 1, none⟩))) 9 hF rfl (ex_fieldAddr Try.underlying24 rfl sz3 rfl rfl) rfl rfl (by kernel_rfl) (by kernel_rfl) (by kernel_rfl) fun a hF => ?_
  refine e_x (v := (.int .i64 p_a.Den)) 10 hF hS rfl (ex_load1 2 0 Try.underlying3 rfl rfl rfl rfl) rfl rfl (by kernel_rfl) (by kernel_rfl) (by kernel_rfl) (by kernel_rfl) fun a hF => ?_
  refine e_p (v := (.int .i64 t_5)) 11 hF rfl (ex_move rfl) rfl rfl (by kernel_rfl) (by kernel_rfl) (by kernel_rfl) fun a hF => ?_
  obtain ⟨t_8, ht_8, hr⟩ := bindS hr
  refine e_p (v := (.int .i64 t_8)) 12 hF rfl (ex_quo rfl rfl ht_8) rfl rfl (by kernel_rfl) (by kernel_rfl) (by kernel_rfl) fun a hF => ?_
  refine e_p (v := (.int .i64 (w64 (2 * t_8)))) 13 hF rfl (ex_ibin rfl rfl rfl) rfl rfl (by kernel_rfl) (by kernel_rfl) (by kernel_rfl) fun a hF => ?_
  refine e_p (v := (.pointer (some ⟨b2, 0, none⟩))) 14 hF rfl (ex_fieldAddr Try.underlying24 rfl sz3 rfl rfl) rfl rfl (by kernel_rfl) (by kernel_rfl) (by kernel_rfl) fun a hF => ?_
  refine e_x (v := (.int .i64 p_b.Num)) 15 hF hS rfl (ex_load1 1 0 Try.underlying3 rfl rfl rfl rfl) rfl rfl (by kernel_rfl) (by kernel_rfl) (by kernel_rfl) (by kernel_rfl) fun a hF => ?_
  refine e_p (v := (.int .i64 t_4)) 16 hF rfl (ex_move rfl) rfl rfl (by kernel_rfl) (by kernel_rfl) (by kernel_rfl) fun a hF => ?_
  obtain ⟨t_9, ht_9, hr⟩ := bindS hr
  refine e_p (v := (.int .i64 t_9)) 17 hF rfl (ex_quo rfl rfl ht_9) rfl rfl (by kernel_rfl) (by kernel_rfl) (by kernel_rfl) fun a hF => ?_
  refine e_p (v := (.int .i64 (w64 ((w64 (2 * t_8)) * t_9)))) 18 hF rfl (ex_ibin rfl rfl rfl) rfl rfl (by kernel_rfl) (by kernel_rfl) (by kernel_rfl) fun a hF => ?_
  refine e_one 19 (by kernel_rfl) ?_
  obtain ⟨t_10, ht_10, hr⟩ := bindS hr
  refine e_call (vs := [(.int .i64 (w64 (t_6 * t_7))), (.int .i64 (w64 ((w64 (2 * t_8)) * t_9)))]) hF hS rfl Try.func47 (by kernel_rfl) rfl rfl rfl (c_impl_reduced (w64 (t_6 * t_7)) (w64 ((w64 (2 * t_8)) * t_9)) t_10 ht_10 _ m hS.vis) ?_
  rintro a w _ rfl hF hS
  refine e_p (v := (.agg #[(.int .i64 t_10.1.Num), (.int .i64 t_10.1.Den)])) 20 hF rfl (ex_extract rfl rfl) rfl rfl (by kernel_rfl) (by kernel_rfl) (by kernel_rfl) fun a hF => ?_
  refine e_p (v := (.bool t_10.2)) 21 hF rfl (ex_extract rfl rfl) rfl rfl (by kernel_rfl) (by kernel_rfl) (by kernel_rfl) fun a hF => ?_
  refine e_one 22 (by kernel_rfl) ?_
  refine e_store (vs := [(.int .i64 t_10.1.Num), (.int .i64 t_10.1.Den)]) (cs' := [(.int .i64 t_10.1.Num), (.int .i64 t_10.1.Den)]) 0 0 hF hS rfl rfl sz24 rfl rfl rfl rfl rfl rfl rfl rfl fun a w hF hS => ?_
  refine e_p (v := (.bool t_10.2)) 23 hF rfl (ex_assign rfl) rfl rfl (by kernel_rfl) (by kernel_rfl) (by kernel_rfl) fun a hF => ?_
  refine e_end (by kernel_rfl) (n_sq (q_ret ?_)) _
  obtain rfl := someI hr
  exact ret_of hF hS rfl (.cellA (us := [(.int .i64 t_10.1.Num), (.int .i64 t_10.1.Den)]) 0 0 Try.underlying24 rfl sz24 rfl rfl rfl rfl (.tmp rfl .nil)) rfl

theorem c_impl_LossOf (p_sigma2 : impl_Frac) (p_sensitivity : Int) (r : impl_Frac × Bool) (hr : impl_LossOf p_sigma2 p_sensitivity = some r) (w0 : World) (m : Mem) (hv : Vis m w0) :
    Ret Try.prog 10 [(.agg #[(.int .i64 p_sigma2.Num), (.int .i64 p_sigma2.Den)]), (.int .i64 p_sensitivity)] w0 fun v _ => v = (.tuple #[(.agg #[(.int .i64 r.1.Num), (.int .i64 r.1.Den)]), (.bool r.2)]) := by
  unfold impl_LossOf at hr
  refine ret_start Try.func10 rfl 26 rfl rfl m hv fun a hF hS => ?_
  refine q_seq ?_
  refine q_region ?_
  refine q_box (cs := [(.int .i64 p_sigma2.Num), (.int .i64 p_sigma2.Den)]) hF hS rfl rfl rfl fun a w b1 hF hS => ?_
  refine q_alloc (cs := [(.int .i64 0), (.int .i64 0)]) hF hS rfl rfl rfl fun a w b2 hF hS => ?_
  refine q_x (v := (.bool false)) hF hS (ex_assign rfl) rfl rfl fun a hF => ?_
  refine q_end (n_sq ?_)
  refine q_seq ?_
  refine q_seq ?_
  obtain ⟨t_4, hj1, hr⟩ := bindS hr
  refine q_join (fun a w => Fr a 26 [(1, (.int .i64 p_sensitivity)), (2, (.pointer (some ⟨b1, 0, none⟩))), (4, (.pointer (some ⟨b2, 0, none⟩))), (16, (.bool t_4))] ∧ St [] w0 w m [[⟨b2, [(.int .i64 0), (.int .i64 0)], 24⟩], [⟨b1, [(.int .i64 p_sigma2.Num), (.int .i64 p_sigma2.Den)], 24⟩]]) ?_ ?_
  · refine q_region ?_
    refine q_x (v := (.agg #[(.int .i64 p_sigma2.Num), (.int .i64 p_sigma2.Den)])) hF hS (ex_loadA (vs := [(.int .i64 p_sigma2.Num), (.int .i64 p_sigma2.Den)]) 1 0 Try.underlying24 rfl sz24 rfl rfl rfl rfl) rfl rfl fun a hF => ?_
    obtain ⟨t_3, ht_3, hj1⟩ := bindS hj1
    refine q_call (vs := [(.agg #[(.int .i64 p_sigma2.Num), (.int .i64 p_sigma2.Den)])]) hF hS Try.func25 (by kernel_rfl) rfl rfl rfl (c_impl_isSigma2 p_sigma2 t_3 ht_3 _ m hS.vis) ?_
    rintro a w _ rfl hF hS
    refine q_x (v := (.bool (!t_3))) hF hS (ex_not rfl) rfl rfl fun a hF => ?_
    refine q_x (v := (.bool (!t_3))) hF hS (ex_move rfl) rfl rfl fun a hF => ?_
    rcases hc2 : (!t_3) with _ | _
    · have hj1 := cond_f hc2 hj1
      refine q_xg (v := (.int .i64 p_sensitivity)) hF hS (ex_move rfl) (wanted_t hF rfl rfl rfl hc2) rfl fun a hF => ?_
      refine q_xg (v := (.bool (decide (p_sensitivity < 0)))) hF hS (ex_ibin rfl rfl rfl) (wanted_t hF rfl rfl rfl hc2) rfl fun a hF => ?_
      refine q_x (v := (.bool (decide (p_sensitivity < 0)))) hF hS (ex_pick_f rfl rfl hc2) rfl rfl fun a hF => ?_
      refine q_x (v := (.bool (decide (p_sensitivity < 0)))) hF hS (ex_move rfl) rfl rfl fun a hF => ?_
      rcases hc3 : (decide (p_sensitivity < 0)) with _ | _
      · have hj1 := cond_f hc3 hj1
        refine q_xg (v := (.int .i64 p_sensitivity)) hF hS (ex_move rfl) (wanted_t hF rfl rfl rfl hc3) rfl fun a hF => ?_
        refine q_xg (v := (.bool (decide (1000 < p_sensitivity)))) hF hS (ex_ibin rfl rfl rfl) (wanted_t hF rfl rfl rfl hc3) rfl fun a hF => ?_
        refine q_x (v := (.bool (decide (1000 < p_sensitivity)))) hF hS (ex_pick_f rfl rfl hc3) rfl rfl fun a hF => ?_
        refine q_end (n_jn ?_)
        obtain rfl := someI hj1
        exact ⟨hF.sub ⟨rfl, rfl, rfl, rfl, trivial⟩, hS⟩
      · have hj1 := cond_t hc3 hj1
        refine q_skip hF (wanted_f hF rfl rfl rfl hc3 rfl) rfl fun a hF => ?_
        refine q_skip hF (wanted_f hF rfl rfl rfl hc3 rfl) rfl fun a hF => ?_
        refine q_x (v := (.bool true)) hF hS (ex_pick_t rfl rfl hc3) rfl rfl fun a hF => ?_
        refine q_end (n_jn ?_)
        obtain rfl := someI hj1
        exact ⟨hF.sub ⟨rfl, rfl, rfl, rfl, trivial⟩, hS⟩
    · have hj1 := cond_t hc2 hj1
      refine q_skip hF (wanted_f hF rfl rfl rfl hc2 rfl) rfl fun a hF => ?_
      refine q_skip hF (wanted_f hF rfl rfl rfl hc2 rfl) rfl fun a hF => ?_
      refine q_x (v := (.bool true)) hF hS (ex_pick_t rfl rfl hc2) rfl rfl fun a hF => ?_
      refine q_x (v := (.bool true)) hF hS (ex_move rfl) rfl rfl fun a hF => ?_
      refine q_skip hF (wanted_f hF rfl rfl rfl rfl rfl) rfl fun a hF => ?_
      refine q_skip hF (wanted_f hF rfl rfl rfl rfl rfl) rfl fun a hF => ?_
      refine q_x (v := (.bool true)) hF hS (ex_pick_t rfl rfl rfl) rfl rfl fun a hF => ?_
      refine q_end (n_jn ?_)
      obtain rfl := someI hj1
      exact ⟨hF.sub ⟨rfl, rfl, rfl, rfl, trivial⟩, hS⟩
  · rintro a w ⟨hF, hS⟩
    refine n_sq ?_
    rcases hc4 : (t_4) with _ | _
    · have hr := cond_f hc4 hr
      refine q_cond_f hF rfl hc4 ?_
      refine q_skipc (n_sq ?_)
      refine q_seq ?_
      refine q_region ?_
      refine q_x (v := (.int .i64 p_sensitivity)) hF hS (ex_move rfl) rfl rfl fun a hF => ?_
      refine q_x (v := (.int .i64 p_sensitivity)) hF hS (ex_move rfl) rfl rfl fun a hF => ?_
      refine q_x (v := (.int .i64 (w64 (p_sensitivity * p_sensitivity)))) hF hS (ex_ibin rfl rfl rfl) rfl rfl fun a hF => ?_
      refine q_x (v := (.agg #[(.int .i64 (w64 (p_sensitivity * p_sensitivity))), (.int .i64 1)])) hF hS (ex_build (cells := [(.int .i64 (w64 (p_sensitivity * p_sensitivity))), (.int .i64 1)]) rfl (by kernel_rfl)) rfl rfl fun a hF => ?_
      refine q_x (v := (.agg #[(.int .i64 p_sigma2.Num), (.int .i64 p_sigma2.Den)])) hF hS (ex_loadA (vs := [(.int .i64 p_sigma2.Num), (.int .i64 p_sigma2.Den)]) 1 0 Try.underlying24 rfl sz24 rfl rfl rfl rfl) rfl rfl fun a hF => ?_
      obtain ⟨t_5, ht_5, hr⟩ := bindS hr
      refine q_call (vs := [(.agg #[(.int .i64 (w64 (p_sensitivity * p_sensitivity))), (.int .i64 1)]), (.agg #[(.int .i64 p_sigma2.Num), (.int .i64 p_sigma2.Den)])]) hF hS Try.func26 (by kernel_rfl) rfl rfl rfl (c_impl_quotient (impl_Frac.mk (w64 (p_sensitivity * p_sensitivity)) 1) p_sigma2 t_5 ht_5 _ m hS.vis) ?_
      rintro a w _ rfl hF hS
      refine q_x (v := (.agg #[(.int .i64 t_5.1.Num), (.int .i64 t_5.1.Den)])) hF hS (ex_extract rfl rfl) rfl rfl fun a hF => ?_
      refine q_x (v := (.bool t_5.2)) hF hS (ex_extract rfl rfl) rfl rfl fun a hF => ?_
      refine q_store (vs := [(.int .i64 t_5.1.Num), (.int .i64 t_5.1.Den)]) (cs' := [(.int .i64 t_5.1.Num), (.int .i64 t_5.1.Den)]) 0 0 hF hS sz24 rfl rfl rfl rfl rfl rfl rfl rfl fun a w hF hS => ?_
      refine q_x (v := (.bool t_5.2)) hF hS (ex_assign rfl) rfl rfl fun a hF => ?_
      refine q_end (n_sq (q_ret ?_))
      obtain rfl := someI hr
      exact ret_of hF hS rfl (.cellA (us := [(.int .i64 t_5.1.Num), (.int .i64 t_5.1.Den)]) 0 0 Try.underlying24 rfl sz24 rfl rfl rfl rfl (.tmp rfl .nil)) rfl
    · have hr := cond_t hc4 hr
      refine q_cond_t hF rfl hc4 ?_
      refine q_seq ?_
      refine q_region ?_
      refine q_x (v := (.agg #[(.int .i64 0), (.int .i64 0)])) hF hS (ex_build (cells := [(.int .i64 0), (.int .i64 0)]) rfl (by kernel_rfl)) rfl rfl fun a hF => ?_
      refine q_store (vs := [(.int .i64 0), (.int .i64 0)]) (cs' := [(.int .i64 0), (.int .i64 0)]) 0 0 hF hS sz24 rfl rfl rfl rfl rfl rfl rfl rfl fun a w hF hS => ?_
      refine q_x (v := (.bool false)) hF hS (ex_assign rfl) rfl rfl fun a hF => ?_
      refine q_end (n_sq (q_ret (r_sq ?_)))
      obtain rfl := someI hr
      exact ret_of hF hS rfl (.cellA (us := [(.int .i64 0), (.int .i64 0)]) 0 0 Try.underlying24 rfl sz24 rfl rfl rfl rfl (.tmp rfl .nil)) rfl

theorem c_laws_eqFrac (p_a : impl_Frac) (p_b : impl_Frac) (r : Bool) (hr : laws_eqFrac p_a p_b = some r) (w0 : World) (m : Mem) (hv : Vis m w0) :
    Ret Try.prog 11 [(.agg #[(.int .i64 p_a.Num), (.int .i64 p_a.Den)]), (.agg #[(.int .i64 p_b.Num), (.int .i64 p_b.Den)])] w0 fun v _ => v = (.bool r) := by
  unfold laws_eqFrac at hr
  refine ret_start Try.func11 rfl 15 rfl rfl m hv fun a hF hS => ?_
  refine q_seq ?_
  refine q_region ?_
  refine q_box (cs := [(.int .i64 p_a.Num), (.int .i64 p_a.Den)]) hF hS rfl rfl rfl fun a w b1 hF hS => ?_
  refine q_box (cs := [(.int .i64 p_b.Num), (.int .i64 p_b.Den)]) hF hS rfl rfl rfl fun a w b2 hF hS => ?_
  refine q_x (v := (.bool false)) hF hS (ex_assign rfl) rfl rfl fun a hF => ?_
  refine q_end (n_sq ?_)
  refine q_seq ?_
  refine q_seq ?_
  refine q_region ?_
  refine q_x (v := (.pointer (some ⟨b1, 0, none⟩))) hF hS (ex_fieldAddr Try.underlying24 rfl sz3 rfl rfl) rfl rfl fun a hF => ?_
  refine q_x (v := (.int .i64 p_a.Num)) hF hS (ex_load1 1 0 Try.underlying3 rfl rfl rfl rfl) rfl rfl fun a hF => ?_
  refine q_x (v := (.pointer (some ⟨b2, 0, none⟩))) hF hS (ex_fieldAddr Try.underlying24 rfl sz3 rfl rfl) rfl rfl fun a hF => ?_
  refine q_x (v := (.int .i64 p_b.Num)) hF hS (ex_load1 0 0 Try.underlying3 rfl rfl rfl rfl) rfl rfl fun a hF => ?_
  refine q_x (v := (.bool (p_a.Num != p_b.Num))) hF hS (ex_ibin rfl rfl rfl) rfl rfl fun a hF => ?_
  refine q_end (n_sq ?_)
  rcases hc1 : (p_a.Num != p_b.Num) with _ | _
  · have hr := cond_f hc1 hr
    refine q_cond_f hF rfl hc1 ?_
    refine q_skipc (n_sq ?_)
    refine q_seq ?_
    refine q_seq ?_
    refine q_region ?_
    refine q_x (v := (.pointer (some ⟨b1, 1, none⟩))) hF hS (ex_fieldAddr Try.underlying24 rfl sz3 rfl rfl) rfl rfl fun a hF => ?_
    refine q_x (v := (.int .i64 p_a.Den)) hF hS (ex_load1 1 0 Try.underlying3 rfl rfl rfl rfl) rfl rfl fun a hF => ?_
    refine q_x (v := (.pointer (some ⟨b2, 1, none⟩))) hF hS (ex_fieldAddr Try.underlying24 rfl sz3 rfl rfl) rfl rfl fun a hF => ?_
    refine q_x (v := (.int .i64 p_b.Den)) hF hS (ex_load1 0 0 Try.underlying3 rfl rfl rfl rfl) rfl rfl fun a hF => ?_
    refine q_x (v := (.bool (p_a.Den != p_b.Den))) hF hS (ex_ibin rfl rfl rfl) rfl rfl fun a hF => ?_
    refine q_end (n_sq ?_)
    rcases hc2 : (p_a.Den != p_b.Den) with _ | _
    · have hr := cond_f hc2 hr
      refine q_cond_f hF rfl hc2 ?_
      refine q_skipc (n_sq ?_)
      refine q_seq ?_
      refine q_region ?_
      refine q_x (v := (.bool true)) hF hS (ex_assign rfl) rfl rfl fun a hF => ?_
      refine q_end (n_sq (q_ret ?_))
      obtain rfl := someI hr
      exact ret_of hF hS rfl (.tmp rfl .nil) rfl
    · have hr := cond_t hc2 hr
      refine q_cond_t hF rfl hc2 ?_
      refine q_seq ?_
      refine q_region ?_
      refine q_x (v := (.bool false)) hF hS (ex_assign rfl) rfl rfl fun a hF => ?_
      refine q_end (n_sq (q_ret (r_sq ?_)))
      obtain rfl := someI hr
      exact ret_of hF hS rfl (.tmp rfl .nil) rfl
  · have hr := cond_t hc1 hr
    refine q_cond_t hF rfl hc1 ?_
    refine q_seq ?_
    refine q_region ?_
    refine q_x (v := (.bool false)) hF hS (ex_assign rfl) rfl rfl fun a hF => ?_
    refine q_end (n_sq (q_ret (r_sq ?_)))
    obtain rfl := someI hr
    exact ret_of hF hS rfl (.tmp rfl .nil) rfl

theorem c_laws_FnExactLossOf (p_aSigma2 : laws_Frac) (p_aSensitivity : Int) (r : Bool) (hr : laws_FnExactLossOf p_aSigma2 p_aSensitivity = some r) (w0 : World) (m : Mem) (hv : Vis m w0) :
    Ret Try.prog 3 [(.agg #[(.int .i64 p_aSigma2.Num), (.int .i64 p_aSigma2.Den)]), (.int .i64 p_aSensitivity)] w0 fun v _ => v = (.bool r) := by
  unfold laws_FnExactLossOf at hr
  refine ret_start Try.func3 rfl 32 rfl rfl m hv fun a hF hS => ?_
  refine q_seq ?_
  refine q_region ?_
  refine q_box (cs := [(.int .i64 p_aSigma2.Num), (.int .i64 p_aSigma2.Den)]) hF hS rfl rfl rfl fun a w b1 hF hS => ?_
  refine q_x (v := (.bool false)) hF hS (ex_assign rfl) rfl rfl fun a hF => ?_
  refine q_end (n_sq ?_)
  refine q_seq ?_
  refine q_region ?_
  refine q_x (v := (.agg #[(.int .i64 p_aSigma2.Num), (.int .i64 p_aSigma2.Den)])) hF hS (ex_loadA (vs := [(.int .i64 p_aSigma2.Num), (.int .i64 p_aSigma2.Den)]) 0 0 Try.underlying23 rfl sz23 rfl rfl rfl rfl) rfl rfl fun a hF => ?_
  obtain ⟨t_2, ht_2, hr⟩ := bindS hr
  refine q_call (vs := [(.agg #[(.int .i64 p_aSigma2.Num), (.int .i64 p_aSigma2.Den)])]) hF hS Try.func9 (by kernel_rfl) rfl rfl rfl (c_laws_toFrac p_aSigma2 t_2 ht_2 _ m hS.vis) ?_
  rintro a w _ rfl hF hS
  refine q_x (v := (.int .i64 p_aSensitivity)) hF hS (ex_move rfl) rfl rfl fun a hF => ?_
  obtain ⟨t_3, ht_3, hr⟩ := bindS hr
  refine q_call (vs := [(.agg #[(.int .i64 t_2.Num), (.int .i64 t_2.Den)]), (.int .i64 p_aSensitivity)]) hF hS Try.func8 (by kernel_rfl) rfl rfl rfl (c_spec_LossOf t_2 p_aSensitivity t_3 ht_3 _ m hS.vis) ?_
  rintro a w _ rfl hF hS
  refine q_x (v := (.tuple #[(.agg #[(.int .i64 t_3.1.Num), (.int .i64 t_3.1.Den)]), (.bool t_3.2)])) hF hS (ex_move rfl) rfl rfl fun a hF => ?_
  refine q_x (v := (.agg #[(.int .i64 t_3.1.Num), (.int .i64 t_3.1.Den)])) hF hS (ex_extract rfl rfl) rfl rfl fun a hF => ?_
  refine q_x (v := (.bool t_3.2)) hF hS (ex_extract rfl rfl) rfl rfl fun a hF => ?_
  refine q_alloc (cs := [(.int .i64 0), (.int .i64 0)]) hF hS rfl rfl rfl fun a w b4 hF hS => ?_
  refine q_store (vs := [(.int .i64 t_3.1.Num), (.int .i64 t_3.1.Den)]) (cs' := [(.int .i64 t_3.1.Num), (.int .i64 t_3.1.Den)]) 0 0 hF hS sz24 rfl rfl rfl rfl rfl rfl rfl rfl fun a w hF hS => ?_
  refine q_x (v := (.bool t_3.2)) hF hS (ex_assign rfl) rfl rfl fun a hF => ?_
  refine q_end (n_sq ?_)
  refine q_seq ?_
  refine q_region ?_
  refine q_x (v := (.agg #[(.int .i64 p_aSigma2.Num), (.int .i64 p_aSigma2.Den)])) hF hS (ex_loadA (vs := [(.int .i64 p_aSigma2.Num), (.int .i64 p_aSigma2.Den)]) 1 0 Try.underlying23 rfl sz23 rfl rfl rfl rfl) rfl rfl fun a hF => ?_
  obtain ⟨t_5, ht_5, hr⟩ := bindS hr
  refine q_call (vs := [(.agg #[(.int .i64 p_aSigma2.Num), (.int .i64 p_aSigma2.Den)])]) hF hS Try.func9 (by kernel_rfl) rfl rfl rfl (c_laws_toFrac p_aSigma2 t_5 ht_5 _ m hS.vis) ?_
  rintro a w _ rfl hF hS
  refine q_x (v := (.int .i64 p_aSensitivity)) hF hS (ex_move rfl) rfl rfl fun a hF => ?_
  obtain ⟨t_6, ht_6, hr⟩ := bindS hr
  refine q_call (vs := [(.agg #[(.int .i64 t_5.Num), (.int .i64 t_5.Den)]), (.int .i64 p_aSensitivity)]) hF hS Try.func10 (by kernel_rfl) rfl rfl rfl (c_impl_LossOf t_5 p_aSensitivity t_6 ht_6 _ m hS.vis) ?_
  rintro a w _ rfl hF hS
  refine q_x (v := (.tuple #[(.agg #[(.int .i64 t_6.1.Num), (.int .i64 t_6.1.Den)]), (.bool t_6.2)])) hF hS (ex_move rfl) rfl rfl fun a hF => ?_
  refine q_x (v := (.agg #[(.int .i64 t_6.1.Num), (.int .i64 t_6.1.Den)])) hF hS (ex_extract rfl rfl) rfl rfl fun a hF => ?_
  refine q_x (v := (.bool t_6.2)) hF hS (ex_extract rfl rfl) rfl rfl fun a hF => ?_
  refine q_alloc (cs := [(.int .i64 0), (.int .i64 0)]) hF hS rfl rfl rfl fun a w b7 hF hS => ?_
  refine q_store (vs := [(.int .i64 t_6.1.Num), (.int .i64 t_6.1.Den)]) (cs' := [(.int .i64 t_6.1.Num), (.int .i64 t_6.1.Den)]) 0 0 hF hS sz24 rfl rfl rfl rfl rfl rfl rfl rfl fun a w hF hS => ?_
  refine q_x (v := (.bool t_6.2)) hF hS (ex_assign rfl) rfl rfl fun a hF => ?_
  refine q_end (n_sq ?_)
  refine q_seq ?_
  refine q_seq ?_
  obtain ⟨t_9, hj1, hr⟩ := bindS hr
  refine q_join (fun a w => Fr a 32 [(31, (.bool t_9))] ∧ St [] w0 w m []) ?_ ?_
  · refine q_region ?_
    refine q_x (v := (.agg #[(.int .i64 t_6.1.Num), (.int .i64 t_6.1.Den)])) hF hS (ex_loadA (vs := [(.int .i64 t_6.1.Num), (.int .i64 t_6.1.Den)]) 0 0 Try.underlying24 rfl sz24 rfl rfl rfl rfl) rfl rfl fun a hF => ?_
    refine q_x (v := (.agg #[(.int .i64 t_3.1.Num), (.int .i64 t_3.1.Den)])) hF hS (ex_loadA (vs := [(.int .i64 t_3.1.Num), (.int .i64 t_3.1.Den)]) 1 0 Try.underlying24 rfl sz24 rfl rfl rfl rfl) rfl rfl fun a hF => ?_
    obtain ⟨t_8, ht_8, hj1⟩ := bindS hj1
    refine q_call (vs := [(.agg #[(.int .i64 t_6.1.Num), (.int .i64 t_6.1.Den)]), (.agg #[(.int .i64 t_3.1.Num), (.int .i64 t_3.1.Den)])]) hF hS Try.func11 (by kernel_rfl) rfl rfl rfl (c_laws_eqFrac t_6.1 t_3.1 t_8 ht_8 _ m hS.vis) ?_
    rintro a w _ rfl hF hS
    refine q_x (v := (.bool (!t_8))) hF hS (ex_not rfl) rfl rfl fun a hF => ?_
    refine q_x (v := (.bool (!t_8))) hF hS (ex_move rfl) rfl rfl fun a hF => ?_
    rcases hc2 : (!t_8) with _ | _
    · have hj1 := cond_f hc2 hj1
      refine q_xg (v := (.bool t_6.2)) hF hS (ex_move rfl) (wanted_t hF rfl rfl rfl hc2) rfl fun a hF => ?_
      refine q_xg (v := (.bool t_3.2)) hF hS (ex_move rfl) (wanted_t hF rfl rfl rfl hc2) rfl fun a hF => ?_
      refine q_xg (v := (.bool (t_6.2 != t_3.2))) hF hS (ex_bne Try.underlying4 rfl rfl) (wanted_t hF rfl rfl rfl hc2) rfl fun a hF => ?_
      refine q_x (v := (.bool (t_6.2 != t_3.2))) hF hS (ex_pick_f rfl rfl hc2) rfl rfl fun a hF => ?_
      refine q_end (n_jn ?_)
      obtain rfl := someI hj1
      exact ⟨hF.sub ⟨rfl, trivial⟩, hS.mask [false, false, false]⟩
    · have hj1 := cond_t hc2 hj1
      refine q_skip hF (wanted_f hF rfl rfl rfl hc2 rfl) rfl fun a hF => ?_
      refine q_skip hF (wanted_f hF rfl rfl rfl hc2 rfl) rfl fun a hF => ?_
      refine q_skip hF (wanted_f hF rfl rfl rfl hc2 rfl) rfl fun a hF => ?_
      refine q_x (v := (.bool true)) hF hS (ex_pick_t rfl rfl hc2) rfl rfl fun a hF => ?_
      refine q_end (n_jn ?_)
      obtain rfl := someI hj1
      exact ⟨hF.sub ⟨rfl, trivial⟩, hS.mask [false, false, false]⟩
  · rintro a w ⟨hF, hS⟩
    refine n_sq ?_
    rcases hc3 : (t_9) with _ | _
    · have hr := cond_f hc3 hr
      refine q_cond_f hF rfl hc3 ?_
      refine q_skipc (n_sq ?_)
      refine q_seq ?_
      refine q_region ?_
      refine q_x (v := (.bool true)) hF hS (ex_assign rfl) rfl rfl fun a hF => ?_
      refine q_end (n_sq (q_ret ?_))
      obtain rfl := someI hr
      exact ret_of hF hS rfl (.tmp rfl .nil) rfl
    · have hr := cond_t hc3 hr
      refine q_cond_t hF rfl hc3 ?_
      refine q_seq ?_
      refine q_region ?_
      refine q_x (v := (.bool false)) hF hS (ex_assign rfl) rfl rfl fun a hF => ?_
      refine q_end (n_sq (q_ret (r_sq ?_)))
      obtain rfl := someI hr
      exact ret_of hF hS rfl (.tmp rfl .nil) rfl

theorem c_spec_zRatio (p_a : impl_Frac) (r : Bool) (hr : spec_zRatio p_a = some r) (w0 : World) (m : Mem) (hv : Vis m w0) :
    Ret Try.prog 27 [(.agg #[(.int .i64 p_a.Num), (.int .i64 p_a.Den)])] w0 fun v _ => v = (.bool r) := by
  unfold spec_zRatio at hr
  refine ret_start Try.func27 rfl 17 rfl rfl m hv fun a hF hS => ?_
  refine q_seq ?_
  refine q_region ?_
  refine q_box (cs := [(.int .i64 p_a.Num), (.int .i64 p_a.Den)]) hF hS rfl rfl rfl fun a w b1 hF hS => ?_
  refine q_x (v := (.bool false)) hF hS (ex_assign rfl) rfl rfl fun a hF => ?_
  refine q_end (n_sq ?_)
  refine q_seq ?_
  obtain ⟨t_3, hj1, hr⟩ := bindS hr
  refine q_join (fun a w => Fr a 17 [(2, (.bool t_3))] ∧ St [] w0 w m []) ?_ ?_
  · refine q_region ?_
    refine q_x (v := (.agg #[(.int .i64 p_a.Num), (.int .i64 p_a.Den)])) hF hS (ex_loadA (vs := [(.int .i64 p_a.Num), (.int .i64 p_a.Den)]) 0 0 Try.underlying24 rfl sz24 rfl rfl rfl rfl) rfl rfl fun a hF => ?_
    obtain ⟨t_2, ht_2, hj1⟩ := bindS hj1
    refine q_call (vs := [(.agg #[(.int .i64 p_a.Num), (.int .i64 p_a.Den)])]) hF hS Try.func42 (by kernel_rfl) rfl rfl rfl (c_spec_fGood p_a t_2 ht_2 _ m hS.vis) ?_
    rintro a w _ rfl hF hS
    refine q_x (v := (.bool t_2)) hF hS (ex_move rfl) rfl rfl fun a hF => ?_
    rcases hc2 : (t_2) with _ | _
    · have hj1 := cond_f hc2 hj1
      refine q_skip hF (wanted_f hF rfl rfl rfl hc2 rfl) rfl fun a hF => ?_
      refine q_skip hF (wanted_f hF rfl rfl rfl hc2 rfl) rfl fun a hF => ?_
      refine q_skip hF (wanted_f hF rfl rfl rfl hc2 rfl) rfl fun a hF => ?_
      refine q_x (v := (.bool false)) hF hS (ex_pick_f rfl rfl hc2) rfl rfl fun a hF => ?_
      refine q_x (v := (.bool false)) hF hS (ex_move rfl) rfl rfl fun a hF => ?_
      refine q_skip hF (wanted_f hF rfl rfl rfl rfl rfl) rfl fun a hF => ?_
      refine q_skip hF (wanted_f hF rfl rfl rfl rfl rfl) rfl fun a hF => ?_
      refine q_skip hF (wanted_f hF rfl rfl rfl rfl rfl) rfl fun a hF => ?_
      refine q_skip hF (wanted_f hF rfl rfl rfl rfl rfl) rfl fun a hF => ?_
      refine q_skip hF (wanted_f hF rfl rfl rfl rfl rfl) rfl fun a hF => ?_
      refine q_x (v := (.bool false)) hF hS (ex_pick_f rfl rfl rfl) rfl rfl fun a hF => ?_
      refine q_x (v := (.bool false)) hF hS (ex_assign rfl) rfl rfl fun a hF => ?_
      refine q_end (n_jn ?_)
      obtain rfl := someI hj1
      exact ⟨hF.sub ⟨rfl, trivial⟩, hS.mask [false]⟩
    · have hj1 := cond_t hc2 hj1
      refine q_xg (v := (.pointer (some ⟨b1, 0, none⟩))) hF hS (ex_fieldAddr Try.underlying24 rfl sz3 rfl rfl) (wanted_t hF rfl rfl rfl hc2) rfl fun a hF => ?_
      refine q_xg (v := (.int .i64 p_a.Num)) hF hS (ex_load1 0 0 Try.underlying3 rfl rfl rfl rfl) (wanted_t hF rfl rfl rfl hc2) rfl fun a hF => ?_
      refine q_xg (v := (.bool (decide (0 < p_a.Num)))) hF hS (ex_ibin rfl rfl rfl) (wanted_t hF rfl rfl rfl hc2) rfl fun a hF => ?_
      refine q_x (v := (.bool (decide (0 < p_a.Num)))) hF hS (ex_pick_t rfl rfl hc2) rfl rfl fun a hF => ?_
      refine q_x (v := (.bool (decide (0 < p_a.Num)))) hF hS (ex_move rfl) rfl rfl fun a hF => ?_
      rcases hc3 : (decide (0 < p_a.Num)) with _ | _
      · have hj1 := cond_f hc3 hj1
        refine q_skip hF (wanted_f hF rfl rfl rfl hc3 rfl) rfl fun a hF => ?_
        refine q_skip hF (wanted_f hF rfl rfl rfl hc3 rfl) rfl fun a hF => ?_
        refine q_skip hF (wanted_f hF rfl rfl rfl hc3 rfl) rfl fun a hF => ?_
        refine q_skip hF (wanted_f hF rfl rfl rfl hc3 rfl) rfl fun a hF => ?_
        refine q_skip hF (wanted_f hF rfl rfl rfl hc3 rfl) rfl fun a hF => ?_
        refine q_x (v := (.bool false)) hF hS (ex_pick_f rfl rfl hc3) rfl rfl fun a hF => ?_
        refine q_x (v := (.bool false)) hF hS (ex_assign rfl) rfl rfl fun a hF => ?_
        refine q_end (n_jn ?_)
        obtain rfl := someI hj1
        exact ⟨hF.sub ⟨rfl, trivial⟩, hS.mask [false]⟩
      · have hj1 := cond_t hc3 hj1
        refine q_xg (v := (.pointer (some ⟨b1, 0, none⟩))) hF hS (ex_fieldAddr Try.underlying24 rfl sz3 rfl rfl) (wanted_t hF rfl rfl rfl hc3) rfl fun a hF => ?_
        refine q_xg (v := (.int .i64 p_a.Num)) hF hS (ex_load1 0 0 Try.underlying3 rfl rfl rfl rfl) (wanted_t hF rfl rfl rfl hc3) rfl fun a hF => ?_
        refine q_xg (v := (.pointer (some ⟨b1, 1, none⟩))) hF hS (ex_fieldAddr Try.underlying24 rfl sz3 rfl rfl) (wanted_t hF rfl rfl rfl hc3) rfl fun a hF => ?_
        refine q_xg (v := (.int .i64 p_a.Den)) hF hS (ex_load1 0 0 Try.underlying3 rfl rfl rfl rfl) (wanted_t hF rfl rfl rfl hc3) rfl fun a hF => ?_
        refine q_xg (v := (.bool (decide (p_a.Num < p_a.Den)))) hF hS (ex_ibin rfl rfl rfl) (wanted_t hF rfl rfl rfl hc3) rfl fun a hF => ?_
        refine q_x (v := (.bool (decide (p_a.Num < p_a.Den)))) hF hS (ex_pick_t rfl rfl hc3) rfl rfl fun a hF => ?_
        refine q_x (v := (.bool (decide (p_a.Num < p_a.Den)))) hF hS (ex_assign rfl) rfl rfl fun a hF => ?_
        refine q_end (n_jn ?_)
        obtain rfl := someI hj1
        exact ⟨hF.sub ⟨rfl, trivial⟩, hS.mask [false]⟩
  · rintro a w ⟨hF, hS⟩
    refine n_sq (q_ret ?_)
    obtain rfl := someI hr
    exact ret_of hF hS rfl (.tmp rfl .nil) rfl

theorem c_spec_fDiv (p_a : impl_Frac) (p_b : impl_Frac) (r : impl_Frac × Bool) (hr : spec_fDiv p_a p_b = some r) (w0 : World) (m : Mem) (hv : Vis m w0) :
    Ret Try.prog 28 [(.agg #[(.int .i64 p_a.Num), (.int .i64 p_a.Den)]), (.agg #[(.int .i64 p_b.Num), (.int .i64 p_b.Den)])] w0 fun v _ => v = (.tuple #[(.agg #[(.int .i64 r.1.Num), (.int .i64 r.1.Den)]), (.bool r.2)]) := by
  unfold spec_fDiv at hr
  refine ret_start Try.func28 rfl 23 rfl rfl m hv fun a hF hS => ?_
  refine q_seq ?_
  refine q_region ?_
  refine q_box (cs := [(.int .i64 p_a.Num), (.int .i64 p_a.Den)]) hF hS rfl rfl rfl fun a w b1 hF hS => ?_
  refine q_box (cs := [(.int .i64 p_b.Num), (.int .i64 p_b.Den)]) hF hS rfl rfl rfl fun a w b2 hF hS => ?_
  refine q_alloc (cs := [(.int .i64 0), (.int .i64 0)]) hF hS rfl rfl rfl fun a w b3 hF hS => ?_
  refine q_x (v := (.bool false)) hF hS (ex_assign rfl) rfl rfl fun a hF => ?_
  refine q_end (n_sq ?_)
  refine q_seq ?_
  refine q_seq ?_
  refine q_region ?_
  refine q_x (v := (.pointer (some ⟨b2, 0, none⟩))) hF hS (ex_fieldAddr Try.underlying24 rfl sz3 rfl rfl) rfl rfl fun a hF => ?_
  refine q_x (v := (.int .i64 p_b.Num)) hF hS (ex_load1 1 0 Try.underlying3 rfl rfl rfl rfl) rfl rfl fun a hF => ?_
  refine q_x (v := (.bool (p_b.Num == 0))) hF hS (ex_ibin rfl rfl rfl) rfl rfl fun a hF => ?_
  refine q_end (n_sq ?_)
  rcases hc1 : (p_b.Num == 0) with _ | _
  · have hr := cond_f hc1 hr
    refine q_cond_f hF rfl hc1 ?_
    refine q_skipc (n_sq ?_)
    refine q_seq ?_
    refine q_region ?_
    refine q_x (v := (.pointer (some ⟨b1, 0, none⟩))) hF hS (ex_fieldAddr Try.underlying24 rfl sz3 rfl rfl) rfl rfl fun a hF => ?_
    refine q_x (v := (.int .i64 p_a.Num)) hF hS (ex_load1 2 0 Try.underlying3 rfl rfl rfl rfl) rfl rfl fun a hF => ?_
    refine q_x (v := (.pointer (some ⟨b2, 1, none⟩))) hF hS (ex_fieldAddr Try.underlying24 rfl sz3 rfl rfl) rfl rfl fun a hF => ?_
    refine q_x (v := (.int .i64 p_b.Den)) hF hS (ex_load1 1 0 Try.underlying3 rfl rfl rfl rfl) rfl rfl fun a hF => ?_
    refine q_x (v := (.int .i64 (w64 (p_a.Num * p_b.Den)))) hF hS (ex_ibin rfl rfl rfl) rfl rfl fun a hF => ?_
    refine q_x (v := (.pointer (some ⟨b1, 1, none⟩))) hF hS (ex_fieldAddr Try.underlying24 rfl sz3 rfl rfl) rfl rfl fun a hF => ?_
    refine q_x (v := (.int .i64 p_a.Den)) hF hS (ex_load1 2 0 Try.underlying3 rfl rfl rfl rfl) rfl rfl fun a hF => ?_
    refine q_x (v := (.pointer (some ⟨b2, 0, none⟩))) hF hS (ex_fieldAddr Try.underlying24 rfl sz3 rfl rfl) rfl rfl fun a hF => ?_
    refine q_x (v := (.int .i64 p_b.Num)) hF hS (ex_load1 1 0 Try.underlying3 rfl rfl rfl rfl) rfl rfl fun a hF => ?_
    refine q_x (v := (.int .i64 (w64 (p_a.Den * p_b.Num)))) hF hS (ex_ibin rfl rfl rfl) rfl rfl fun a hF => ?_
    obtain ⟨t_4, ht_4, hr⟩ := bindS hr
    refine q_call (vs := [(.int .i64 (w64 (p_a.Num * p_b.Den))), (.int .i64 (w64 (p_a.Den * p_b.Num)))]) hF hS Try.func24 (by kernel_rfl) rfl rfl rfl (c_spec_fMake (w64 (p_a.Num * p_b.Den)) (w64 (p_a.Den * p_b.Num)) t_4 ht_4 _ m hS.vis) ?_
    rintro a w _ rfl hF hS
    refine q_x (v := (.agg #[(.int .i64 t_4.1.Num), (.int .i64 t_4.1.Den)])) hF hS (ex_extract rfl rfl) rfl rfl fun a hF => ?_
    refine q_x (v := (.bool t_4.2)) hF hS (ex_extract rfl rfl) rfl rfl fun a hF => ?_
    refine q_store (vs := [(.int .i64 t_4.1.Num), (.int .i64 t_4.1.Den)]) (cs' := [(.int .i64 t_4.1.Num), (.int .i64 t_4.1.Den)]) 0 0 hF hS sz24 rfl rfl rfl rfl rfl rfl rfl rfl fun a w hF hS => ?_
    refine q_x (v := (.bool t_4.2)) hF hS (ex_assign rfl) rfl rfl fun a hF => ?_
    refine q_end (n_sq (q_ret ?_))
    obtain rfl := someI hr
    exact ret_of hF hS rfl (.cellA (us := [(.int .i64 t_4.1.Num), (.int .i64 t_4.1.Den)]) 0 0 Try.underlying24 rfl sz24 rfl rfl rfl rfl (.tmp rfl .nil)) rfl
  · have hr := cond_t hc1 hr
    refine q_cond_t hF rfl hc1 ?_
    refine q_seq ?_
    refine q_region ?_
    refine q_x (v := (.agg #[(.int .i64 0), (.int .i64 0)])) hF hS (ex_build (cells := [(.int .i64 0), (.int .i64 0)]) rfl (by kernel_rfl)) rfl rfl fun a hF => ?_
    refine q_store (vs := [(.int .i64 0), (.int .i64 0)]) (cs' := [(.int .i64 0), (.int .i64 0)]) 0 0 hF hS sz24 rfl rfl rfl rfl rfl rfl rfl rfl fun a w hF hS => ?_
    refine q_x (v := (.bool false)) hF hS (ex_assign rfl) rfl rfl fun a hF => ?_
    refine q_end (n_sq (q_ret (r_sq ?_)))
    obtain rfl := someI hr
    exact ret_of hF hS rfl (.cellA (us := [(.int .i64 0), (.int .i64 0)]) 0 0 Try.underlying24 rfl sz24 rfl rfl rfl rfl (.tmp rfl .nil)) rfl

theorem c_spec_fMul (p_a : impl_Frac) (p_b : impl_Frac) (r : impl_Frac × Bool) (hr : spec_fMul p_a p_b = some r) (w0 : World) (m : Mem) (hv : Vis m w0) :
    Ret Try.prog 33 [(.agg #[(.int .i64 p_a.Num), (.int .i64 p_a.Den)]), (.agg #[(.int .i64 p_b.Num), (.int .i64 p_b.Den)])] w0 fun v _ => v = (.tuple #[(.agg #[(.int .i64 r.1.Num), (.int .i64 r.1.Den)]), (.bool r.2)]) := by
  unfold spec_fMul at hr
  refine ret_start Try.func33 rfl 19 rfl rfl m hv fun a hF hS => ?_
  refine q_seq ?_
  refine q_region ?_
  refine q_box (cs := [(.int .i64 p_a.Num), (.int .i64 p_a.Den)]) hF hS rfl rfl rfl fun a w b1 hF hS => ?_
  refine q_box (cs := [(.int .i64 p_b.Num), (.int .i64 p_b.Den)]) hF hS rfl rfl rfl fun a w b2 hF hS => ?_
  refine q_alloc (cs := [(.int .i64 0), (.int .i64 0)]) hF hS rfl rfl rfl fun a w b3 hF hS => ?_
  refine q_x (v := (.bool false)) hF hS (ex_assign rfl) rfl rfl fun a hF => ?_
  refine q_end (n_sq ?_)
  refine q_seq ?_
  refine q_region ?_
  refine q_x (v := (.pointer (some ⟨b1, 0, none⟩))) hF hS (ex_fieldAddr Try.underlying24 rfl sz3 rfl rfl) rfl rfl fun a hF => ?_
  refine q_x (v := (.int .i64 p_a.Num)) hF hS (ex_load1 2 0 Try.underlying3 rfl rfl rfl rfl) rfl rfl fun a hF => ?_
  refine q_x (v := (.pointer (some ⟨b2, 0, none⟩))) hF hS (ex_fieldAddr Try.underlying24 rfl sz3 rfl rfl) rfl rfl fun a hF => ?_
  refine q_x (v := (.int .i64 p_b.Num)) hF hS (ex_load1 1 0 Try.underlying3 rfl rfl rfl rfl) rfl rfl fun a hF => ?_
  refine q_x (v := (.int .i64 (w64 (p_a.Num * p_b.Num)))) hF hS (ex_ibin rfl rfl rfl) rfl rfl fun a hF => ?_
  refine q_x (v := (.pointer (some ⟨b1, 1, none⟩))) hF hS (ex_fieldAddr Try.underlying24 rfl sz3 rfl rfl) rfl rfl fun a hF => ?_
  refine q_x (v := (.int .i64 p_a.Den)) hF hS (ex_load1 2 0 Try.underlying3 rfl rfl rfl rfl) rfl rfl fun a hF => ?_
  refine q_x (v := (.pointer (some ⟨b2, 1, none⟩))) hF hS (ex_fieldAddr Try.underlying24 rfl sz3 rfl rfl) rfl rfl fun a hF => ?_
  refine q_x (v := (.int .i64 p_b.Den)) hF hS (ex_load1 1 0 Try.underlying3 rfl rfl rfl rfl) rfl rfl fun a hF => ?_
  refine q_x (v := (.int .i64 (w64 (p_a.Den * p_b.Den)))) hF hS (ex_ibin rfl rfl rfl) rfl rfl fun a hF => ?_
  obtain ⟨t_4, ht_4, hr⟩ := bindS hr
  refine q_call (vs := [(.int .i64 (w64 (p_a.Num * p_b.Num))), (.int .i64 (w64 (p_a.Den * p_b.Den)))]) hF hS Try.func24 (by kernel_rfl) rfl rfl rfl (c_spec_fMake (w64 (p_a.Num * p_b.Num)) (w64 (p_a.Den * p_b.Den)) t_4 ht_4 _ m hS.vis) ?_
  rintro a w _ rfl hF hS
  refine q_x (v := (.agg #[(.int .i64 t_4.1.Num), (.int .i64 t_4.1.Den)])) hF hS (ex_extract rfl rfl) rfl rfl fun a hF => ?_
  refine q_x (v := (.bool t_4.2)) hF hS (ex_extract rfl rfl) rfl rfl fun a hF => ?_
  refine q_store (vs := [(.int .i64 t_4.1.Num), (.int .i64 t_4.1.Den)]) (cs' := [(.int .i64 t_4.1.Num), (.int .i64 t_4.1.Den)]) 0 0 hF hS sz24 rfl rfl rfl rfl rfl rfl rfl rfl fun a w hF hS => ?_
  refine q_x (v := (.bool t_4.2)) hF hS (ex_assign rfl) rfl rfl fun a hF => ?_
  refine q_end (n_sq (q_ret ?_))
  obtain rfl := someI hr
  exact ret_of hF hS rfl (.cellA (us := [(.int .i64 t_4.1.Num), (.int .i64 t_4.1.Den)]) 0 0 Try.underlying24 rfl sz24 rfl rfl rfl rfl (.tmp rfl .nil)) rfl

theorem c_spec_fPow (p_f : impl_Frac) (p_k : Int) (r : impl_Frac × Bool) (hr : spec_fPow p_f p_k = some r) (w0 : World) (m : Mem) (hv : Vis m w0) :
    Ret Try.prog 30 [(.agg #[(.int .i64 p_f.Num), (.int .i64 p_f.Den)]), (.int .i64 p_k)] w0 fun v _ => v = (.tuple #[(.agg #[(.int .i64 r.1.Num), (.int .i64 r.1.Den)]), (.bool r.2)]) := by
  unfold spec_fPow at hr
  refine ret_start Try.func30 rfl 25 rfl rfl m hv fun a hF hS => ?_
  refine q_seq ?_
  refine q_region ?_
  refine q_box (cs := [(.int .i64 p_f.Num), (.int .i64 p_f.Den)]) hF hS rfl rfl rfl fun a w b1 hF hS => ?_
  refine q_alloc (cs := [(.int .i64 0), (.int .i64 0)]) hF hS rfl rfl rfl fun a w b2 hF hS => ?_
  refine q_x (v := (.bool false)) hF hS (ex_assign rfl) rfl rfl fun a hF => ?_
  refine q_end (n_sq ?_)
  refine q_seq ?_
  refine q_region ?_
  obtain ⟨t_3, ht_3, hr⟩ := bindS hr
  refine q_call (vs := [(.int .i64 1)]) hF hS Try.func29 (by kernel_rfl) rfl rfl rfl (c_spec_fInt 1 t_3 ht_3 _ m hS.vis) ?_
  rintro a w _ rfl hF hS
  refine q_alloc (cs := [(.int .i64 0), (.int .i64 0)]) hF hS rfl rfl rfl fun a w b4 hF hS => ?_
  refine q_store (vs := [(.int .i64 t_3.Num), (.int .i64 t_3.Den)]) (cs' := [(.int .i64 t_3.Num), (.int .i64 t_3.Den)]) 0 0 hF hS sz24 rfl rfl rfl rfl rfl rfl rfl rfl fun a w hF hS => ?_
  refine q_end (n_sq ?_)
  refine q_seq ?_
  refine q_block ?_
  obtain ⟨o1, hl1, hr⟩ := bindS hr
  refine q_loop (fun (s : Int × impl_Frac) a w => ∃ k_5 out_6, s = (k_5, out_6) ∧ Fr a 25 [(1, (.int .i64 k_5)), (2, (.pointer (some ⟨b1, 0, none⟩))), (4, (.pointer (some ⟨b2, 0, none⟩))), (6, (.pointer (some ⟨b4, 0, none⟩)))] ∧ St [] w0 w m [[⟨b4, [(.int .i64 out_6.Num), (.int .i64 out_6.Den)], 24⟩], [⟨b2, [(.int .i64 0), (.int .i64 0)], 24⟩], [⟨b1, [(.int .i64 p_f.Num), (.int .i64 p_f.Den)], 24⟩]]) (fun (o : (impl_Frac) ⊕ (impl_Frac × Bool)) e a w => ∃ out_9, o = .inl out_9 ∧ e = .exit 0 ∧ Fr a 25 [(4, (.pointer (some ⟨b2, 0, none⟩))), (6, (.pointer (some ⟨b4, 0, none⟩)))] ∧ St [] w0 w m [[⟨b4, [(.int .i64 out_9.Num), (.int .i64 out_9.Den)], 24⟩], [⟨b2, [(.int .i64 0), (.int .i64 0)], 24⟩]]) hl1 ⟨_, _, rfl, hF.sub ⟨rfl, rfl, rfl, rfl, trivial⟩, hS⟩ ?_ ?_
  · clear hF hS
    rintro s a w st ⟨k_5, out_6, rfl, hF, hS⟩ hb1
    unfold spec_fPow_l1 at hb1
    refine q_seq ?_
    refine q_seq ?_
    refine q_region ?_
    refine q_x (v := (.int .i64 k_5)) hF hS (ex_move rfl) rfl rfl fun a hF => ?_
    refine q_x (v := (.bool (decide (0 < k_5)))) hF hS (ex_ibin rfl rfl rfl) rfl rfl fun a hF => ?_
    refine q_end (n_sq ?_)
    rcases hc2 : (decide (0 < k_5)) with _ | _
    · have hb1 := cond_f hc2 hb1
      refine q_cond_f hF rfl hc2 ?_
      refine q_exit (x_sq ?_)
      obtain rfl := someI hb1
      exact ⟨nofun, .inl ⟨_, rfl, rfl, hF.sub ⟨rfl, rfl, trivial⟩, hS.mask [true, true, false]⟩⟩
    · have hb1 := cond_t hc2 hb1
      refine q_cond_t hF rfl hc2 ?_
      refine q_skipc (n_sq ?_)
      refine q_seq ?_
      refine q_block ?_
      refine q_seq ?_
      refine q_region ?_
      refine q_x (v := (.agg #[(.int .i64 out_6.Num), (.int .i64 out_6.Den)])) hF hS (ex_loadA (vs := [(.int .i64 out_6.Num), (.int .i64 out_6.Den)]) 0 0 Try.underlying24 rfl sz24 rfl rfl rfl rfl) rfl rfl fun a hF => ?_
      refine q_x (v := (.agg #[(.int .i64 p_f.Num), (.int .i64 p_f.Den)])) hF hS (ex_loadA (vs := [(.int .i64 p_f.Num), (.int .i64 p_f.Den)]) 2 0 Try.underlying24 rfl sz24 rfl rfl rfl rfl) rfl rfl fun a hF => ?_
      obtain ⟨t_7, ht_7, hb1⟩ := bindS hb1
      refine q_call (vs := [(.agg #[(.int .i64 out_6.Num), (.int .i64 out_6.Den)]), (.agg #[(.int .i64 p_f.Num), (.int .i64 p_f.Den)])]) hF hS Try.func33 (by kernel_rfl) rfl rfl rfl (c_spec_fMul out_6 p_f t_7 ht_7 _ m hS.vis) ?_
      rintro a w _ rfl hF hS
      refine q_x (v := (.tuple #[(.agg #[(.int .i64 t_7.1.Num), (.int .i64 t_7.1.Den)]), (.bool t_7.2)])) hF hS (ex_move rfl) rfl rfl fun a hF => ?_
      refine q_x (v := (.agg #[(.int .i64 t_7.1.Num), (.int .i64 t_7.1.Den)])) hF hS (ex_extract rfl rfl) rfl rfl fun a hF => ?_
      refine q_x (v := (.bool t_7.2)) hF hS (ex_extract rfl rfl) rfl rfl fun a hF => ?_
      refine q_alloc (cs := [(.int .i64 0), (.int .i64 0)]) hF hS rfl rfl rfl fun a w b8 hF hS => ?_
      refine q_store (vs := [(.int .i64 t_7.1.Num), (.int .i64 t_7.1.Den)]) (cs' := [(.int .i64 t_7.1.Num), (.int .i64 t_7.1.Den)]) 0 0 hF hS sz24 rfl rfl rfl rfl rfl rfl rfl rfl fun a w hF hS => ?_
      refine q_x (v := (.bool t_7.2)) hF hS (ex_assign rfl) rfl rfl fun a hF => ?_
      refine q_end (n_sq ?_)
      refine q_seq ?_
      refine q_seq ?_
      refine q_region ?_
      refine q_x (v := (.bool t_7.2)) hF hS (ex_move rfl) rfl rfl fun a hF => ?_
      refine q_x (v := (.bool (!t_7.2))) hF hS (ex_not rfl) rfl rfl fun a hF => ?_
      refine q_end (n_sq ?_)
      rcases hc3 : (!t_7.2) with _ | _
      · have hb1 := cond_f hc3 hb1
        refine q_cond_f hF rfl hc3 ?_
        refine q_skipc (n_sq ?_)
        refine q_region ?_
        refine q_x (v := (.agg #[(.int .i64 t_7.1.Num), (.int .i64 t_7.1.Den)])) hF hS (ex_loadA (vs := [(.int .i64 t_7.1.Num), (.int .i64 t_7.1.Den)]) 0 0 Try.underlying24 rfl sz24 rfl rfl rfl rfl) rfl rfl fun a hF => ?_
        refine q_store (vs := [(.int .i64 t_7.1.Num), (.int .i64 t_7.1.Den)]) (cs' := [(.int .i64 t_7.1.Num), (.int .i64 t_7.1.Den)]) 1 0 hF hS sz24 rfl rfl rfl rfl rfl rfl rfl rfl fun a w hF hS => ?_
        refine q_end (n_ib (n_sq ?_))
        refine q_region ?_
        refine q_x (v := (.int .i64 k_5)) hF hS (ex_move rfl) rfl rfl fun a hF => ?_
        refine q_x (v := (.int .i64 (w64 (k_5 - 1)))) hF hS (ex_ibin rfl rfl rfl) rfl rfl fun a hF => ?_
        refine q_x (v := (.int .i64 (w64 (k_5 - 1)))) hF hS (ex_assign rfl) rfl rfl fun a hF => ?_
        refine q_end ?_
        obtain rfl := someI hb1
        exact ⟨rfl, _, _, rfl, hF.sub ⟨rfl, rfl, rfl, rfl, trivial⟩, hS.mask [false, true, true, true]⟩
      · have hb1 := cond_t hc3 hb1
        refine q_cond_t hF rfl hc3 ?_
        refine q_seq ?_
        refine q_region ?_
        refine q_x (v := (.agg #[(.int .i64 0), (.int .i64 0)])) hF hS (ex_build (cells := [(.int .i64 0), (.int .i64 0)]) rfl (by kernel_rfl)) rfl rfl fun a hF => ?_
        refine q_store (vs := [(.int .i64 0), (.int .i64 0)]) (cs' := [(.int .i64 0), (.int .i64 0)]) 2 0 hF hS sz24 rfl rfl rfl rfl rfl rfl rfl rfl fun a w hF hS => ?_
        refine q_x (v := (.bool false)) hF hS (ex_assign rfl) rfl rfl fun a hF => ?_
        refine q_end (n_sq (q_ret (r_sq (r_ib (r_sq ?_)))))
        obtain rfl := someI hb1
        refine ⟨nofun, .inr fun ho => ?_⟩
        subst ho
        refine r_ib (r_sq ?_)
        obtain rfl := someI hr
        exact ret_of hF hS rfl (.cellA (us := [(.int .i64 0), (.int .i64 0)]) 2 0 Try.underlying24 rfl sz24 rfl rfl rfl rfl (.tmp rfl .nil)) rfl
  · rintro e a w ⟨out_9, rfl, rfl, hF, hS⟩
    refine x_ib (n_sq ?_)
    refine q_seq ?_
    refine q_region ?_
    refine q_x (v := (.agg #[(.int .i64 out_9.Num), (.int .i64 out_9.Den)])) hF hS (ex_loadA (vs := [(.int .i64 out_9.Num), (.int .i64 out_9.Den)]) 0 0 Try.underlying24 rfl sz24 rfl rfl rfl rfl) rfl rfl fun a hF => ?_
    refine q_store (vs := [(.int .i64 out_9.Num), (.int .i64 out_9.Den)]) (cs' := [(.int .i64 out_9.Num), (.int .i64 out_9.Den)]) 1 0 hF hS sz24 rfl rfl rfl rfl rfl rfl rfl rfl fun a w hF hS => ?_
    refine q_x (v := (.bool true)) hF hS (ex_assign rfl) rfl rfl fun a hF => ?_
    refine q_end (n_sq (q_ret ?_))
    obtain rfl := someI hr
    exact ret_of hF hS rfl (.cellA (us := [(.int .i64 out_9.Num), (.int .i64 out_9.Den)]) 1 0 Try.underlying24 rfl sz24 rfl rfl rfl rfl (.tmp rfl .nil)) rfl

theorem c_spec_GeoRatio (p_a : impl_Frac) (p_sensitivity : Int) (r : impl_Frac × Bool) (hr : spec_GeoRatio p_a p_sensitivity = some r) (w0 : World) (m : Mem) (hv : Vis m w0) :
    Ret Try.prog 12 [(.agg #[(.int .i64 p_a.Num), (.int .i64 p_a.Den)]), (.int .i64 p_sensitivity)] w0 fun v _ => v = (.tuple #[(.agg #[(.int .i64 r.1.Num), (.int .i64 r.1.Den)]), (.bool r.2)]) := by
  unfold spec_GeoRatio at hr
  refine ret_start Try.func12 rfl 28 rfl rfl m hv fun a hF hS => ?_
  refine q_seq ?_
  refine q_region ?_
  refine q_box (cs := [(.int .i64 p_a.Num), (.int .i64 p_a.Den)]) hF hS rfl rfl rfl fun a w b1 hF hS => ?_
  refine q_alloc (cs := [(.int .i64 0), (.int .i64 0)]) hF hS rfl rfl rfl fun a w b2 hF hS => ?_
  refine q_x (v := (.bool false)) hF hS (ex_assign rfl) rfl rfl fun a hF => ?_
  refine q_end (n_sq ?_)
  refine q_seq ?_
  refine q_seq ?_
  obtain ⟨t_5, hj1, hr⟩ := bindS hr
  refine q_join (fun a w => Fr a 28 [(1, (.int .i64 p_sensitivity)), (2, (.pointer (some ⟨b1, 0, none⟩))), (4, (.pointer (some ⟨b2, 0, none⟩))), (15, (.bool t_5))] ∧ St [] w0 w m [[⟨b2, [(.int .i64 0), (.int .i64 0)], 24⟩], [⟨b1, [(.int .i64 p_a.Num), (.int .i64 p_a.Den)], 24⟩]]) ?_ ?_
  · refine q_region ?_
    refine q_x (v := (.agg #[(.int .i64 p_a.Num), (.int .i64 p_a.Den)])) hF hS (ex_loadA (vs := [(.int .i64 p_a.Num), (.int .i64 p_a.Den)]) 1 0 Try.underlying24 rfl sz24 rfl rfl rfl rfl) rfl rfl fun a hF => ?_
    obtain ⟨t_3, ht_3, hj1⟩ := bindS hj1
    refine q_call (vs := [(.agg #[(.int .i64 p_a.Num), (.int .i64 p_a.Den)])]) hF hS Try.func27 (by kernel_rfl) rfl rfl rfl (c_spec_zRatio p_a t_3 ht_3 _ m hS.vis) ?_
    rintro a w _ rfl hF hS
    refine q_x (v := (.bool (!t_3))) hF hS (ex_not rfl) rfl rfl fun a hF => ?_
    refine q_x (v := (.bool (!t_3))) hF hS (ex_move rfl) rfl rfl fun a hF => ?_
    rcases hc2 : (!t_3) with _ | _
    · have hj1 := cond_f hc2 hj1
      refine q_xg (v := (.int .i64 p_sensitivity)) hF hS (ex_move rfl) (wanted_t hF rfl rfl rfl hc2) rfl fun a hF => ?_
      obtain ⟨t_4, ht_4, hj1⟩ := bindS hj1
      refine q_callg (vs := [(.int .i64 p_sensitivity), (.int .i64 0), (.int .i64 30)]) hF hS (wanted_t hF rfl rfl rfl hc2) Try.func23 (by kernel_rfl) rfl rfl rfl (c_spec_l1In p_sensitivity 0 30 t_4 ht_4 _ m hS.vis) ?_
      rintro a w _ rfl hF hS
      refine q_xg (v := (.bool (!t_4))) hF hS (ex_not rfl) (wanted_t hF rfl rfl rfl hc2) rfl fun a hF => ?_
      refine q_x (v := (.bool (!t_4))) hF hS (ex_pick_f rfl rfl hc2) rfl rfl fun a hF => ?_
      refine q_end (n_jn ?_)
      obtain rfl := someI hj1
      exact ⟨hF.sub ⟨rfl, rfl, rfl, rfl, trivial⟩, hS⟩
    · have hj1 := cond_t hc2 hj1
      refine q_skip hF (wanted_f hF rfl rfl rfl hc2 rfl) rfl fun a hF => ?_
      refine q_skip hF (wanted_f hF rfl rfl rfl hc2 rfl) rfl fun a hF => ?_
      refine q_skip hF (wanted_f hF rfl rfl rfl hc2 rfl) rfl fun a hF => ?_
      refine q_x (v := (.bool true)) hF hS (ex_pick_t rfl rfl hc2) rfl rfl fun a hF => ?_
      refine q_end (n_jn ?_)
      obtain rfl := someI hj1
      exact ⟨hF.sub ⟨rfl, rfl, rfl, rfl, trivial⟩, hS⟩
  · rintro a w ⟨hF, hS⟩
    refine n_sq ?_
    rcases hc3 : (t_5) with _ | _
    · have hr := cond_f hc3 hr
      refine q_cond_f hF rfl hc3 ?_
      refine q_skipc (n_sq ?_)
      refine q_seq ?_
      obtain ⟨x_11, hj4, hr⟩ := bindS hr
      refine q_join (fun a w => ∃ b10, Fr a 28 [(1, (.int .i64 p_sensitivity)), (4, (.pointer (some ⟨b2, 0, none⟩))), (6, (.pointer (some ⟨b10, 0, none⟩)))] ∧ St [] w0 w m [[⟨b10, [(.int .i64 x_11.Num), (.int .i64 x_11.Den)], 24⟩], [⟨b2, [(.int .i64 0), (.int .i64 0)], 24⟩]]) ?_ ?_
      · refine e_region [7] mixed fun w' hw' => ?_
        have hS := hS.below hw'
        refine e_x (v := (.agg #[(.int .i64 p_a.Num), (.int .i64 p_a.Den)])) 1 hF hS rfl (ex_loadA (vs := [(.int .i64 p_a.Num), (.int .i64 p_a.Den)]) 1 0 Try.underlying24 rfl sz24 rfl rfl rfl rfl) rfl rfl (by kernel_rfl) (by kernel_rfl) (by kernel_rfl) (by kernel_rfl) fun a hF => ?_
        obtain ⟨t_8, ht_8, hj4⟩ := bindS hj4
        obtain ⟨t_9, ht_9, hj4⟩ := bindS hj4
        refine e_all [0, 6] (by kernel_rfl) rfl ⟨?_, ?_, trivial⟩
        · refine e_call (vs := [(.int .i64 1)]) hF hS rfl Try.func29 (by kernel_rfl) rfl rfl rfl (c_spec_fInt 1 t_8 ht_8 _ m hS.vis) ?_
          rintro a w _ rfl hF hS
          refine e_all [2, 6] (by kernel_rfl) rfl ⟨?_, ?_, trivial⟩
          · refine e_call (vs := [(.agg #[(.int .i64 t_8.Num), (.int .i64 t_8.Den)]), (.agg #[(.int .i64 p_a.Num), (.int .i64 p_a.Den)])]) hF hS rfl Try.func28 (by kernel_rfl) rfl rfl rfl (c_spec_fDiv t_8 p_a t_9 ht_9 _ m hS.vis) ?_
            rintro a w _ rfl hF hS
            refine e_p (v := (.tuple #[(.agg #[(.int .i64 t_9.1.Num), (.int .i64 t_9.1.Den)]), (.bool t_9.2)])) 3 hF rfl (ex_move rfl) rfl rfl (by kernel_rfl) (by kernel_rfl) (by kernel_rfl) fun a hF => ?_
            refine e_p (v := (.agg #[(.int .i64 t_9.1.Num), (.int .i64 t_9.1.Den)])) 4 hF rfl (ex_extract rfl rfl) rfl rfl (by kernel_rfl) (by kernel_rfl) (by kernel_rfl) fun a hF => ?_
            refine e_p (v := (.bool t_9.2)) 5 hF rfl (ex_extract rfl rfl) rfl rfl (by kernel_rfl) (by kernel_rfl) (by kernel_rfl) fun a hF => ?_
            refine e_one 6 (by kernel_rfl) ?_
            refine e_alloc (cs := [(.int .i64 0), (.int .i64 0)]) hF hS rfl rfl rfl rfl fun a w b10 hF hS => ?_
            refine e_one 7 (by kernel_rfl) ?_
            refine e_store (vs := [(.int .i64 t_9.1.Num), (.int .i64 t_9.1.Den)]) (cs' := [(.int .i64 t_9.1.Num), (.int .i64 t_9.1.Den)]) 0 0 hF hS rfl rfl sz24 rfl rfl rfl rfl rfl rfl rfl rfl fun a w hF hS => ?_
            refine e_p (v := (.bool t_9.2)) 8 hF rfl (ex_assign rfl) rfl rfl (by kernel_rfl) (by kernel_rfl) (by kernel_rfl) fun a hF => ?_
            refine e_end (by kernel_rfl) (n_jn ?_) _
            obtain rfl := someI hj4
            exact ⟨b10, hF.sub ⟨rfl, rfl, rfl, trivial⟩, hS.mask [true, true, false]⟩
          · refine e_alloc (cs := [(.int .i64 0), (.int .i64 0)]) hF hS rfl rfl rfl rfl fun a w b10 hF hS => ?_
            refine e_one 2 (by kernel_rfl) ?_
            refine e_call (vs := [(.agg #[(.int .i64 t_8.Num), (.int .i64 t_8.Den)]), (.agg #[(.int .i64 p_a.Num), (.int .i64 p_a.Den)])]) hF hS rfl Try.func28 (by kernel_rfl) rfl rfl rfl (c_spec_fDiv t_8 p_a t_9 ht_9 _ m hS.vis) ?_
            rintro a w _ rfl hF hS
            refine e_p (v := (.tuple #[(.agg #[(.int .i64 t_9.1.Num), (.int .i64 t_9.1.Den)]), (.bool t_9.2)])) 3 hF rfl (ex_move rfl) rfl rfl (by kernel_rfl) (by kernel_rfl) (by kernel_rfl) fun a hF => ?_
            refine e_p (v := (.agg #[(.int .i64 t_9.1.Num), (.int .i64 t_9.1.Den)])) 4 hF rfl (ex_extract rfl rfl) rfl rfl (by kernel_rfl) (by kernel_rfl) (by kernel_rfl) fun a hF => ?_
            refine e_p (v := (.bool t_9.2)) 5 hF rfl (ex_extract rfl rfl) rfl rfl (by kernel_rfl) (by kernel_rfl) (by kernel_rfl) fun a hF => ?_
            refine e_one 7 (by kernel_rfl) ?_
            refine e_store (vs := [(.int .i64 t_9.1.Num), (.int .i64 t_9.1.Den)]) (cs' := [(.int .i64 t_9.1.Num), (.int .i64 t_9.1.Den)]) 0 0 hF hS rfl rfl sz24 rfl rfl rfl rfl rfl rfl rfl rfl fun a w hF hS => ?_
            refine e_p (v := (.bool t_9.2)) 8 hF rfl (ex_assign rfl) rfl rfl (by kernel_rfl) (by kernel_rfl) (by kernel_rfl) fun a hF => ?_
            refine e_end (by kernel_rfl) (n_jn ?_) _
            obtain rfl := someI hj4
            exact ⟨b10, hF.sub ⟨rfl, rfl, rfl, trivial⟩, hS.mask [true, true, false]⟩
        · refine e_alloc (cs := [(.int .i64 0), (.int .i64 0)]) hF hS rfl rfl rfl rfl fun a w b10 hF hS => ?_
          refine e_one 0 (by kernel_rfl) ?_
          refine e_call (vs := [(.int .i64 1)]) hF hS rfl Try.func29 (by kernel_rfl) rfl rfl rfl (c_spec_fInt 1 t_8 ht_8 _ m hS.vis) ?_
          rintro a w _ rfl hF hS
          refine e_one 2 (by kernel_rfl) ?_
          refine e_call (vs := [(.agg #[(.int .i64 t_8.Num), (.int .i64 t_8.Den)]), (.agg #[(.int .i64 p_a.Num), (.int .i64 p_a.Den)])]) hF hS rfl Try.func28 (by kernel_rfl) rfl rfl rfl (c_spec_fDiv t_8 p_a t_9 ht_9 _ m hS.vis) ?_
          rintro a w _ rfl hF hS
          refine e_p (v := (.tuple #[(.agg #[(.int .i64 t_9.1.Num), (.int .i64 t_9.1.Den)]), (.bool t_9.2)])) 3 hF rfl (ex_move rfl) rfl rfl (by kernel_rfl) (by kernel_rfl) (by kernel_rfl) fun a hF => ?_
          refine e_p (v := (.agg #[(.int .i64 t_9.1.Num), (.int .i64 t_9.1.Den)])) 4 hF rfl (ex_extract rfl rfl) rfl rfl (by kernel_rfl) (by kernel_rfl) (by kernel_rfl) fun a hF => ?_
          refine e_p (v := (.bool t_9.2)) 5 hF rfl (ex_extract rfl rfl) rfl rfl (by kernel_rfl) (by kernel_rfl) (by kernel_rfl) fun a hF => ?_
          refine e_one 7 (by kernel_rfl) ?_
          refine e_store (vs := [(.int .i64 t_9.1.Num), (.int .i64 t_9.1.Den)]) (cs' := [(.int .i64 t_9.1.Num), (.int .i64 t_9.1.Den)]) 0 0 hF hS rfl rfl sz24 rfl rfl rfl rfl rfl rfl rfl rfl fun a w hF hS => ?_
          refine e_p (v := (.bool t_9.2)) 8 hF rfl (ex_assign rfl) rfl rfl (by kernel_rfl) (by kernel_rfl) (by kernel_rfl) fun a hF => ?_
          refine e_end (by kernel_rfl) (n_jn ?_) _
          obtain rfl := someI hj4
          exact ⟨b10, hF.sub ⟨rfl, rfl, rfl, trivial⟩, hS.mask [true, true, false]⟩
      · rintro a w ⟨b10, hF, hS⟩
        refine n_sq ?_
        refine q_seq ?_
        refine q_region ?_
        refine q_x (v := (.agg #[(.int .i64 x_11.Num), (.int .i64 x_11.Den)])) hF hS (ex_loadA (vs := [(.int .i64 x_11.Num), (.int .i64 x_11.Den)]) 0 0 Try.underlying24 rfl sz24 rfl rfl rfl rfl) rfl rfl fun a hF => ?_
        refine q_x (v := (.int .i64 p_sensitivity)) hF hS (ex_move rfl) rfl rfl fun a hF => ?_
        obtain ⟨t_12, ht_12, hr⟩ := bindS hr
        refine q_call (vs := [(.agg #[(.int .i64 x_11.Num), (.int .i64 x_11.Den)]), (.int .i64 p_sensitivity)]) hF hS Try.func30 (by kernel_rfl) rfl rfl rfl (c_spec_fPow x_11 p_sensitivity t_12 ht_12 _ m hS.vis) ?_
        rintro a w _ rfl hF hS
        refine q_x (v := (.agg #[(.int .i64 t_12.1.Num), (.int .i64 t_12.1.Den)])) hF hS (ex_extract rfl rfl) rfl rfl fun a hF => ?_
        refine q_x (v := (.bool t_12.2)) hF hS (ex_extract rfl rfl) rfl rfl fun a hF => ?_
        refine q_store (vs := [(.int .i64 t_12.1.Num), (.int .i64 t_12.1.Den)]) (cs' := [(.int .i64 t_12.1.Num), (.int .i64 t_12.1.Den)]) 1 0 hF hS sz24 rfl rfl rfl rfl rfl rfl rfl rfl fun a w hF hS => ?_
        refine q_x (v := (.bool t_12.2)) hF hS (ex_assign rfl) rfl rfl fun a hF => ?_
        refine q_end (n_sq (q_ret ?_))
        obtain rfl := someI hr
        exact ret_of hF hS rfl (.cellA (us := [(.int .i64 t_12.1.Num), (.int .i64 t_12.1.Den)]) 1 0 Try.underlying24 rfl sz24 rfl rfl rfl rfl (.tmp rfl .nil)) rfl
    · have hr := cond_t hc3 hr
      refine q_cond_t hF rfl hc3 ?_
      refine q_seq ?_
      refine q_region ?_
      refine q_x (v := (.agg #[(.int .i64 0), (.int .i64 0)])) hF hS (ex_build (cells := [(.int .i64 0), (.int .i64 0)]) rfl (by kernel_rfl)) rfl rfl fun a hF => ?_
      refine q_store (vs := [(.int .i64 0), (.int .i64 0)]) (cs' := [(.int .i64 0), (.int .i64 0)]) 0 0 hF hS sz24 rfl rfl rfl rfl rfl rfl rfl rfl fun a w hF hS => ?_
      refine q_x (v := (.bool false)) hF hS (ex_assign rfl) rfl rfl fun a hF => ?_
      refine q_end (n_sq (q_ret (r_sq ?_)))
      obtain rfl := someI hr
      exact ret_of hF hS rfl (.cellA (us := [(.int .i64 0), (.int .i64 0)]) 0 0 Try.underlying24 rfl sz24 rfl rfl rfl rfl (.tmp rfl .nil)) rfl

theorem c_impl_isRatio (p_a : impl_Frac) (r : Bool) (hr : impl_isRatio p_a = some r) (w0 : World) (m : Mem) (hv : Vis m w0) :
    Ret Try.prog 31 [(.agg #[(.int .i64 p_a.Num), (.int .i64 p_a.Den)])] w0 fun v _ => v = (.bool r) := by
  unfold impl_isRatio at hr
  refine ret_start Try.func31 rfl 17 rfl rfl m hv fun a hF hS => ?_
  refine q_seq ?_
  refine q_region ?_
  refine q_box (cs := [(.int .i64 p_a.Num), (.int .i64 p_a.Den)]) hF hS rfl rfl rfl fun a w b1 hF hS => ?_
  refine q_x (v := (.bool false)) hF hS (ex_assign rfl) rfl rfl fun a hF => ?_
  refine q_end (n_sq ?_)
  refine q_seq ?_
  obtain ⟨t_3, hj1, hr⟩ := bindS hr
  refine q_join (fun a w => Fr a 17 [(2, (.bool t_3))] ∧ St [] w0 w m []) ?_ ?_
  · refine q_region ?_
    refine q_x (v := (.agg #[(.int .i64 p_a.Num), (.int .i64 p_a.Den)])) hF hS (ex_loadA (vs := [(.int .i64 p_a.Num), (.int .i64 p_a.Den)]) 0 0 Try.underlying24 rfl sz24 rfl rfl rfl rfl) rfl rfl fun a hF => ?_
    obtain ⟨t_2, ht_2, hj1⟩ := bindS hj1
    refine q_call (vs := [(.agg #[(.int .i64 p_a.Num), (.int .i64 p_a.Den)])]) hF hS Try.func45 (by kernel_rfl) rfl rfl rfl (c_impl_IsFrac p_a t_2 ht_2 _ m hS.vis) ?_
    rintro a w _ rfl hF hS
    refine q_x (v := (.bool t_2)) hF hS (ex_move rfl) rfl rfl fun a hF => ?_
    rcases hc2 : (t_2) with _ | _
    · have hj1 := cond_f hc2 hj1
      refine q_skip hF (wanted_f hF rfl rfl rfl hc2 rfl) rfl fun a hF => ?_
      refine q_skip hF (wanted_f hF rfl rfl rfl hc2 rfl) rfl fun a hF => ?_
      refine q_skip hF (wanted_f hF rfl rfl rfl hc2 rfl) rfl fun a hF => ?_
      refine q_x (v := (.bool false)) hF hS (ex_pick_f rfl rfl hc2) rfl rfl fun a hF => ?_
      refine q_x (v := (.bool false)) hF hS (ex_move rfl) rfl rfl fun a hF => ?_
      refine q_skip hF (wanted_f hF rfl rfl rfl rfl rfl) rfl fun a hF => ?_
      refine q_skip hF (wanted_f hF rfl rfl rfl rfl rfl) rfl fun a hF => ?_
      refine q_skip hF (wanted_f hF rfl rfl rfl rfl rfl) rfl fun a hF => ?_
      refine q_skip hF (wanted_f hF rfl rfl rfl rfl rfl) rfl fun a hF => ?_
      refine q_skip hF (wanted_f hF rfl rfl rfl rfl rfl) rfl fun a hF => ?_
      refine q_x (v := (.bool false)) hF hS (ex_pick_f rfl rfl rfl) rfl rfl fun a hF => ?_
      refine q_x (v := (.bool false)) hF hS (ex_assign rfl) rfl rfl fun a hF => ?_
      refine q_end (n_jn ?_)
      obtain rfl := someI hj1
      exact ⟨hF.sub ⟨rfl, trivial⟩, hS.mask [false]⟩
    · have hj1 := cond_t hc2 hj1
      refine q_xg (v := (.pointer (some ⟨b1, 0, none⟩))) hF hS (ex_fieldAddr Try.underlying24 rfl sz3 rfl rfl) (wanted_t hF rfl rfl rfl hc2) rfl fun a hF => ?_
      refine q_xg (v := (.int .i64 p_a.Num)) hF hS (ex_load1 0 0 Try.underlying3 rfl rfl rfl rfl) (wanted_t hF rfl rfl rfl hc2) rfl fun a hF => ?_
      refine q_xg (v := (.bool (decide (0 < p_a.Num)))) hF hS (ex_ibin rfl rfl rfl) (wanted_t hF rfl rfl rfl hc2) rfl fun a hF => ?_
      refine q_x (v := (.bool (decide (0 < p_a.Num)))) hF hS (ex_pick_t rfl rfl hc2) rfl rfl fun a hF => ?_
      refine q_x (v := (.bool (decide (0 < p_a.Num)))) hF hS (ex_move rfl) rfl rfl fun a hF => ?_
      rcases hc3 : (decide (0 < p_a.Num)) with _ | _
      · have hj1 := cond_f hc3 hj1
        refine q_skip hF (wanted_f hF rfl rfl rfl hc3 rfl) rfl fun a hF => ?_
        refine q_skip hF (wanted_f hF rfl rfl rfl hc3 rfl) rfl fun a hF => ?_
        refine q_skip hF (wanted_f hF rfl rfl rfl hc3 rfl) rfl fun a hF => ?_
        refine q_skip hF (wanted_f hF rfl rfl rfl hc3 rfl) rfl fun a hF => ?_
        refine q_skip hF (wanted_f hF rfl rfl rfl hc3 rfl) rfl fun a hF => ?_
        refine q_x (v := (.bool false)) hF hS (ex_pick_f rfl rfl hc3) rfl rfl fun a hF => ?_
        refine q_x (v := (.bool false)) hF hS (ex_assign rfl) rfl rfl fun a hF => ?_
        refine q_end (n_jn ?_)
        obtain rfl := someI hj1
        exact ⟨hF.sub ⟨rfl, trivial⟩, hS.mask [false]⟩
      · have hj1 := cond_t hc3 hj1
        refine q_xg (v := (.pointer (some ⟨b1, 0, none⟩))) hF hS (ex_fieldAddr Try.underlying24 rfl sz3 rfl rfl) (wanted_t hF rfl rfl rfl hc3) rfl fun a hF => ?_
        refine q_xg (v := (.int .i64 p_a.Num)) hF hS (ex_load1 0 0 Try.underlying3 rfl rfl rfl rfl) (wanted_t hF rfl rfl rfl hc3) rfl fun a hF => ?_
        refine q_xg (v := (.pointer (some ⟨b1, 1, none⟩))) hF hS (ex_fieldAddr Try.underlying24 rfl sz3 rfl rfl) (wanted_t hF rfl rfl rfl hc3) rfl fun a hF => ?_
        refine q_xg (v := (.int .i64 p_a.Den)) hF hS (ex_load1 0 0 Try.underlying3 rfl rfl rfl rfl) (wanted_t hF rfl rfl rfl hc3) rfl fun a hF => ?_
        refine q_xg (v := (.bool (decide (p_a.Num < p_a.Den)))) hF hS (ex_ibin rfl rfl rfl) (wanted_t hF rfl rfl rfl hc3) rfl fun a hF => ?_
        refine q_x (v := (.bool (decide (p_a.Num < p_a.Den)))) hF hS (ex_pick_t rfl rfl hc3) rfl rfl fun a hF => ?_
        refine q_x (v := (.bool (decide (p_a.Num < p_a.Den)))) hF hS (ex_assign rfl) rfl rfl fun a hF => ?_
        refine q_end (n_jn ?_)
        obtain rfl := someI hj1
        exact ⟨hF.sub ⟨rfl, trivial⟩, hS.mask [false]⟩
  · rintro a w ⟨hF, hS⟩
    refine n_sq (q_ret ?_)
    obtain rfl := someI hr
    exact ret_of hF hS rfl (.tmp rfl .nil) rfl

theorem c_impl_MulFrac (p_a : impl_Frac) (p_b : impl_Frac) (r : impl_Frac × Bool) (hr : impl_MulFrac p_a p_b = some r) (w0 : World) (m : Mem) (hv : Vis m w0) :
    Ret Try.prog 35 [(.agg #[(.int .i64 p_a.Num), (.int .i64 p_a.Den)]), (.agg #[(.int .i64 p_b.Num), (.int .i64 p_b.Den)])] w0 fun v _ => v = (.tuple #[(.agg #[(.int .i64 r.1.Num), (.int .i64 r.1.Den)]), (.bool r.2)]) := by
  unfold impl_MulFrac at hr
  refine ret_start Try.func35 rfl 28 rfl rfl m hv fun a hF hS => ?_
  refine q_seq ?_
  refine q_region ?_
  refine q_box (cs := [(.int .i64 p_a.Num), (.int .i64 p_a.Den)]) hF hS rfl rfl rfl fun a w b1 hF hS => ?_
  refine q_box (cs := [(.int .i64 p_b.Num), (.int .i64 p_b.Den)]) hF hS rfl rfl rfl fun a w b2 hF hS => ?_
  refine q_alloc (cs := [(.int .i64 0), (.int .i64 0)]) hF hS rfl rfl rfl fun a w b3 hF hS => ?_
  refine q_x (v := (.bool false)) hF hS (ex_assign rfl) rfl rfl fun a hF => ?_
  refine q_end (n_sq ?_)
  refine q_seq ?_
  refine q_seq ?_
  obtain ⟨t_6, hj1, hr⟩ := bindS hr
  refine q_join (fun a w => Fr a 28 [(2, (.pointer (some ⟨b1, 0, none⟩))), (3, (.pointer (some ⟨b2, 0, none⟩))), (4, (.pointer (some ⟨b3, 0, none⟩))), (13, (.bool t_6))] ∧ St [] w0 w m [[⟨b3, [(.int .i64 0), (.int .i64 0)], 24⟩], [⟨b2, [(.int .i64 p_b.Num), (.int .i64 p_b.Den)], 24⟩], [⟨b1, [(.int .i64 p_a.Num), (.int .i64 p_a.Den)], 24⟩]]) ?_ ?_
  · refine q_region ?_
    refine q_x (v := (.agg #[(.int .i64 p_a.Num), (.int .i64 p_a.Den)])) hF hS (ex_loadA (vs := [(.int .i64 p_a.Num), (.int .i64 p_a.Den)]) 2 0 Try.underlying24 rfl sz24 rfl rfl rfl rfl) rfl rfl fun a hF => ?_
    obtain ⟨t_4, ht_4, hj1⟩ := bindS hj1
    refine q_call (vs := [(.agg #[(.int .i64 p_a.Num), (.int .i64 p_a.Den)])]) hF hS Try.func45 (by kernel_rfl) rfl rfl rfl (c_impl_IsFrac p_a t_4 ht_4 _ m hS.vis) ?_
    rintro a w _ rfl hF hS
    refine q_x (v := (.bool (!t_4))) hF hS (ex_not rfl) rfl rfl fun a hF => ?_
    refine q_x (v := (.bool (!t_4))) hF hS (ex_move rfl) rfl rfl fun a hF => ?_
    rcases hc2 : (!t_4) with _ | _
    · have hj1 := cond_f hc2 hj1
      refine q_xg (v := (.agg #[(.int .i64 p_b.Num), (.int .i64 p_b.Den)])) hF hS (ex_loadA (vs := [(.int .i64 p_b.Num), (.int .i64 p_b.Den)]) 1 0 Try.underlying24 rfl sz24 rfl rfl rfl rfl) (wanted_t hF rfl rfl rfl hc2) rfl fun a hF => ?_
      obtain ⟨t_5, ht_5, hj1⟩ := bindS hj1
      refine q_callg (vs := [(.agg #[(.int .i64 p_b.Num), (.int .i64 p_b.Den)])]) hF hS (wanted_t hF rfl rfl rfl hc2) Try.func45 (by kernel_rfl) rfl rfl rfl (c_impl_IsFrac p_b t_5 ht_5 _ m hS.vis) ?_
      rintro a w _ rfl hF hS
      refine q_xg (v := (.bool (!t_5))) hF hS (ex_not rfl) (wanted_t hF rfl rfl rfl hc2) rfl fun a hF => ?_
      refine q_x (v := (.bool (!t_5))) hF hS (ex_pick_f rfl rfl hc2) rfl rfl fun a hF => ?_
      refine q_end (n_jn ?_)
      obtain rfl := someI hj1
      exact ⟨hF.sub ⟨rfl, rfl, rfl, rfl, trivial⟩, hS⟩
    · have hj1 := cond_t hc2 hj1
      refine q_skip hF (wanted_f hF rfl rfl rfl hc2 rfl) rfl fun a hF => ?_
      refine q_skip hF (wanted_f hF rfl rfl rfl hc2 rfl) rfl fun a hF => ?_
      refine q_skip hF (wanted_f hF rfl rfl rfl hc2 rfl) rfl fun a hF => ?_
      refine q_x (v := (.bool true)) hF hS (ex_pick_t rfl rfl hc2) rfl rfl fun a hF => ?_
      refine q_end (n_jn ?_)
      obtain rfl := someI hj1
      exact ⟨hF.sub ⟨rfl, rfl, rfl, rfl, trivial⟩, hS⟩
  · rintro a w ⟨hF, hS⟩
    refine n_sq ?_
    rcases hc3 : (t_6) with _ | _
    · have hr := cond_f hc3 hr
      refine q_cond_f hF rfl hc3 ?_
      refine q_skipc (n_sq ?_)
      refine q_seq ?_
      refine q_region ?_
      refine q_x (v := (.pointer (some ⟨b1, 0, none⟩))) hF hS (ex_fieldAddr Try.underlying24 rfl sz3 rfl rfl) rfl rfl fun a hF => ?_
      refine q_x (v := (.int .i64 p_a.Num)) hF hS (ex_load1 2 0 Try.underlying3 rfl rfl rfl rfl) rfl rfl fun a hF => ?_
      refine q_x (v := (.pointer (some ⟨b2, 0, none⟩))) hF hS (ex_fieldAddr Try.underlying24 rfl sz3 rfl rfl) rfl rfl fun a hF => ?_
      refine q_x (v := (.int .i64 p_b.Num)) hF hS (ex_load1 1 0 Try.underlying3 rfl rfl rfl rfl) rfl rfl fun a hF => ?_
      refine q_x (v := (.int .i64 (w64 (p_a.Num * p_b.Num)))) hF hS (ex_ibin rfl rfl rfl) rfl rfl fun a hF => ?_
      refine q_x (v := (.pointer (some ⟨b1, 1, none⟩))) hF hS (ex_fieldAddr Try.underlying24 rfl sz3 rfl rfl) rfl rfl fun a hF => ?_
      refine q_x (v := (.int .i64 p_a.Den)) hF hS (ex_load1 2 0 Try.underlying3 rfl rfl rfl rfl) rfl rfl fun a hF => ?_
      refine q_x (v := (.pointer (some ⟨b2, 1, none⟩))) hF hS (ex_fieldAddr Try.underlying24 rfl sz3 rfl rfl) rfl rfl fun a hF => ?_
      refine q_x (v := (.int .i64 p_b.Den)) hF hS (ex_load1 1 0 Try.underlying3 rfl rfl rfl rfl) rfl rfl fun a hF => ?_
      refine q_x (v := (.int .i64 (w64 (p_a.Den * p_b.Den)))) hF hS (ex_ibin rfl rfl rfl) rfl rfl fun a hF => ?_
      obtain ⟨t_7, ht_7, hr⟩ := bindS hr
      refine q_call (vs := [(.int .i64 (w64 (p_a.Num * p_b.Num))), (.int .i64 (w64 (p_a.Den * p_b.Den)))]) hF hS Try.func47 (by kernel_rfl) rfl rfl rfl (c_impl_reduced (w64 (p_a.Num * p_b.Num)) (w64 (p_a.Den * p_b.Den)) t_7 ht_7 _ m hS.vis) ?_
      rintro a w _ rfl hF hS
      refine q_x (v := (.agg #[(.int .i64 t_7.1.Num), (.int .i64 t_7.1.Den)])) hF hS (ex_extract rfl rfl) rfl rfl fun a hF => ?_
      refine q_x (v := (.bool t_7.2)) hF hS (ex_extract rfl rfl) rfl rfl fun a hF => ?_
      refine q_store (vs := [(.int .i64 t_7.1.Num), (.int .i64 t_7.1.Den)]) (cs' := [(.int .i64 t_7.1.Num), (.int .i64 t_7.1.Den)]) 0 0 hF hS sz24 rfl rfl rfl rfl rfl rfl rfl rfl fun a w hF hS => ?_
      refine q_x (v := (.bool t_7.2)) hF hS (ex_assign rfl) rfl rfl fun a hF => ?_
      refine q_end (n_sq (q_ret ?_))
      obtain rfl := someI hr
      exact ret_of hF hS rfl (.cellA (us := [(.int .i64 t_7.1.Num), (.int .i64 t_7.1.Den)]) 0 0 Try.underlying24 rfl sz24 rfl rfl rfl rfl (.tmp rfl .nil)) rfl
    · have hr := cond_t hc3 hr
      refine q_cond_t hF rfl hc3 ?_
      refine q_seq ?_
      refine q_region ?_
      refine q_x (v := (.agg #[(.int .i64 0), (.int .i64 0)])) hF hS (ex_build (cells := [(.int .i64 0), (.int .i64 0)]) rfl (by kernel_rfl)) rfl rfl fun a hF => ?_
      refine q_store (vs := [(.int .i64 0), (.int .i64 0)]) (cs' := [(.int .i64 0), (.int .i64 0)]) 0 0 hF hS sz24 rfl rfl rfl rfl rfl rfl rfl rfl fun a w hF hS => ?_
      refine q_x (v := (.bool false)) hF hS (ex_assign rfl) rfl rfl fun a hF => ?_
      refine q_end (n_sq (q_ret (r_sq ?_)))
      obtain rfl := someI hr
      exact ret_of hF hS rfl (.cellA (us := [(.int .i64 0), (.int .i64 0)]) 0 0 Try.underlying24 rfl sz24 rfl rfl rfl rfl (.tmp rfl .nil)) rfl

theorem c_impl_PowFrac (p_f : impl_Frac) (p_k : Int) (r : impl_Frac × Bool) (hr : impl_PowFrac p_f p_k = some r) (w0 : World) (m : Mem) (hv : Vis m w0) :
    Ret Try.prog 32 [(.agg #[(.int .i64 p_f.Num), (.int .i64 p_f.Den)]), (.int .i64 p_k)] w0 fun v _ => v = (.tuple #[(.agg #[(.int .i64 r.1.Num), (.int .i64 r.1.Den)]), (.bool r.2)]) := by
  unfold impl_PowFrac at hr
  refine ret_start Try.func32 rfl 37 rfl rfl m hv fun a hF hS => ?_
  refine q_seq ?_
  refine q_region ?_
  refine q_box (cs := [(.int .i64 p_f.Num), (.int .i64 p_f.Den)]) hF hS rfl rfl rfl fun a w b1 hF hS => ?_
  refine q_alloc (cs := [(.int .i64 0), (.int .i64 0)]) hF hS rfl rfl rfl fun a w b2 hF hS => ?_
  refine q_x (v := (.bool false)) hF hS (ex_assign rfl) rfl rfl fun a hF => ?_
  refine q_end (n_sq ?_)
  refine q_seq ?_
  refine q_seq ?_
  obtain ⟨t_4, hj1, hr⟩ := bindS hr
  refine q_join (fun a w => Fr a 37 [(1, (.int .i64 p_k)), (2, (.pointer (some ⟨b1, 0, none⟩))), (4, (.pointer (some ⟨b2, 0, none⟩))), (19, (.bool t_4))] ∧ St [] w0 w m [[⟨b2, [(.int .i64 0), (.int .i64 0)], 24⟩], [⟨b1, [(.int .i64 p_f.Num), (.int .i64 p_f.Den)], 24⟩]]) ?_ ?_
  · refine q_region ?_
    refine q_x (v := (.agg #[(.int .i64 p_f.Num), (.int .i64 p_f.Den)])) hF hS (ex_loadA (vs := [(.int .i64 p_f.Num), (.int .i64 p_f.Den)]) 1 0 Try.underlying24 rfl sz24 rfl rfl rfl rfl) rfl rfl fun a hF => ?_
    obtain ⟨t_3, ht_3, hj1⟩ := bindS hj1
    refine q_call (vs := [(.agg #[(.int .i64 p_f.Num), (.int .i64 p_f.Den)])]) hF hS Try.func45 (by kernel_rfl) rfl rfl rfl (c_impl_IsFrac p_f t_3 ht_3 _ m hS.vis) ?_
    rintro a w _ rfl hF hS
    refine q_x (v := (.bool (!t_3))) hF hS (ex_not rfl) rfl rfl fun a hF => ?_
    refine q_x (v := (.bool (!t_3))) hF hS (ex_move rfl) rfl rfl fun a hF => ?_
    rcases hc2 : (!t_3) with _ | _
    · have hj1 := cond_f hc2 hj1
      refine q_xg (v := (.int .i64 p_k)) hF hS (ex_move rfl) (wanted_t hF rfl rfl rfl hc2) rfl fun a hF => ?_
      refine q_xg (v := (.bool (decide (p_k < 0)))) hF hS (ex_ibin rfl rfl rfl) (wanted_t hF rfl rfl rfl hc2) rfl fun a hF => ?_
      refine q_x (v := (.bool (decide (p_k < 0)))) hF hS (ex_pick_f rfl rfl hc2) rfl rfl fun a hF => ?_
      refine q_x (v := (.bool (decide (p_k < 0)))) hF hS (ex_move rfl) rfl rfl fun a hF => ?_
      rcases hc3 : (decide (p_k < 0)) with _ | _
      · have hj1 := cond_f hc3 hj1
        refine q_xg (v := (.int .i64 p_k)) hF hS (ex_move rfl) (wanted_t hF rfl rfl rfl hc3) rfl fun a hF => ?_
        refine q_xg (v := (.bool (decide (60 < p_k)))) hF hS (ex_ibin rfl rfl rfl) (wanted_t hF rfl rfl rfl hc3) rfl fun a hF => ?_
        refine q_x (v := (.bool (decide (60 < p_k)))) hF hS (ex_pick_f rfl rfl hc3) rfl rfl fun a hF => ?_
        refine q_end (n_jn ?_)
        obtain rfl := someI hj1
        exact ⟨hF.sub ⟨rfl, rfl, rfl, rfl, trivial⟩, hS⟩
      · have hj1 := cond_t hc3 hj1
        refine q_skip hF (wanted_f hF rfl rfl rfl hc3 rfl) rfl fun a hF => ?_
        refine q_skip hF (wanted_f hF rfl rfl rfl hc3 rfl) rfl fun a hF => ?_
        refine q_x (v := (.bool true)) hF hS (ex_pick_t rfl rfl hc3) rfl rfl fun a hF => ?_
        refine q_end (n_jn ?_)
        obtain rfl := someI hj1
        exact ⟨hF.sub ⟨rfl, rfl, rfl, rfl, trivial⟩, hS⟩
    · have hj1 := cond_t hc2 hj1
      refine q_skip hF (wanted_f hF rfl rfl rfl hc2 rfl) rfl fun a hF => ?_
      refine q_skip hF (wanted_f hF rfl rfl rfl hc2 rfl) rfl fun a hF => ?_
      refine q_x (v := (.bool true)) hF hS (ex_pick_t rfl rfl hc2) rfl rfl fun a hF => ?_
      refine q_x (v := (.bool true)) hF hS (ex_move rfl) rfl rfl fun a hF => ?_
      refine q_skip hF (wanted_f hF rfl rfl rfl rfl rfl) rfl fun a hF => ?_
      refine q_skip hF (wanted_f hF rfl rfl rfl rfl rfl) rfl fun a hF => ?_
      refine q_x (v := (.bool true)) hF hS (ex_pick_t rfl rfl rfl) rfl rfl fun a hF => ?_
      refine q_end (n_jn ?_)
      obtain rfl := someI hj1
      exact ⟨hF.sub ⟨rfl, rfl, rfl, rfl, trivial⟩, hS⟩
  · rintro a w ⟨hF, hS⟩
    refine n_sq ?_
    rcases hc4 : (t_4) with _ | _
    · have hr := cond_f hc4 hr
      refine q_cond_f hF rfl hc4 ?_
      refine q_skipc (n_sq ?_)
      refine q_seq ?_
      refine q_region ?_
      refine q_x (v := (.agg #[(.int .i64 1), (.int .i64 1)])) hF hS (ex_build (cells := [(.int .i64 1), (.int .i64 1)]) rfl (by kernel_rfl)) rfl rfl fun a hF => ?_
      refine q_alloc (cs := [(.int .i64 0), (.int .i64 0)]) hF hS rfl rfl rfl fun a w b5 hF hS => ?_
      refine q_store (vs := [(.int .i64 1), (.int .i64 1)]) (cs' := [(.int .i64 1), (.int .i64 1)]) 0 0 hF hS sz24 rfl rfl rfl rfl rfl rfl rfl rfl fun a w hF hS => ?_
      refine q_end (n_sq ?_)
      refine q_seq ?_
      refine q_seq ?_
      refine q_region ?_
      refine q_x (v := (.int .i64 p_k)) hF hS (ex_move rfl) rfl rfl fun a hF => ?_
      refine q_x (v := (.int .i64 0)) hF hS (ex_move rfl) rfl rfl fun a hF => ?_
      refine q_end (n_sq ?_)
      refine q_block ?_
      obtain ⟨o5, hl5, hr⟩ := bindS hr
      refine q_loop (fun (s : Int × impl_Frac) a w => ∃ t_6 p_7, s = (t_6, p_7) ∧ Fr a 37 [(2, (.pointer (some ⟨b1, 0, none⟩))), (4, (.pointer (some ⟨b2, 0, none⟩))), (6, (.pointer (some ⟨b5, 0, none⟩))), (22, (.int .i64 p_k)), (23, (.int .i64 t_6))] ∧ St [] w0 w m [[⟨b5, [(.int .i64 p_7.Num), (.int .i64 p_7.Den)], 24⟩], [⟨b2, [(.int .i64 0), (.int .i64 0)], 24⟩], [⟨b1, [(.int .i64 p_f.Num), (.int .i64 p_f.Den)], 24⟩]]) (fun (o : (impl_Frac) ⊕ (impl_Frac × Bool)) e a w => ∃ p_10, o = .inl p_10 ∧ e = .exit 0 ∧ Fr a 37 [(4, (.pointer (some ⟨b2, 0, none⟩))), (6, (.pointer (some ⟨b5, 0, none⟩)))] ∧ St [] w0 w m [[⟨b5, [(.int .i64 p_10.Num), (.int .i64 p_10.Den)], 24⟩], [⟨b2, [(.int .i64 0), (.int .i64 0)], 24⟩]]) hl5 ⟨_, _, rfl, hF.sub ⟨rfl, rfl, rfl, rfl, rfl, trivial⟩, hS⟩ ?_ ?_
      · clear hF hS
        rintro s a w st ⟨t_6, p_7, rfl, hF, hS⟩ hb5
        unfold impl_PowFrac_l1 at hb5
        refine q_seq ?_
        refine q_region ?_
        refine q_x (v := (.bool (decide (t_6 < p_k)))) hF hS (ex_ibin rfl rfl rfl) rfl rfl fun a hF => ?_
        refine q_end (n_sq ?_)
        refine q_seq ?_
        rcases hc6 : (decide (t_6 < p_k)) with _ | _
        · have hb5 := cond_f hc6 hb5
          refine q_cond_f hF rfl hc6 ?_
          refine q_exit (x_sq ?_)
          obtain rfl := someI hb5
          exact ⟨nofun, .inl ⟨_, rfl, rfl, hF.sub ⟨rfl, rfl, trivial⟩, hS.mask [true, true, false]⟩⟩
        · have hb5 := cond_t hc6 hb5
          refine q_cond_t hF rfl hc6 ?_
          refine q_skipc (n_sq ?_)
          refine q_seq ?_
          refine q_block ?_
          refine q_seq ?_
          refine q_region ?_
          refine q_x (v := (.agg #[(.int .i64 p_7.Num), (.int .i64 p_7.Den)])) hF hS (ex_loadA (vs := [(.int .i64 p_7.Num), (.int .i64 p_7.Den)]) 0 0 Try.underlying24 rfl sz24 rfl rfl rfl rfl) rfl rfl fun a hF => ?_
          refine q_x (v := (.agg #[(.int .i64 p_f.Num), (.int .i64 p_f.Den)])) hF hS (ex_loadA (vs := [(.int .i64 p_f.Num), (.int .i64 p_f.Den)]) 2 0 Try.underlying24 rfl sz24 rfl rfl rfl rfl) rfl rfl fun a hF => ?_
          obtain ⟨t_8, ht_8, hb5⟩ := bindS hb5
          refine q_call (vs := [(.agg #[(.int .i64 p_7.Num), (.int .i64 p_7.Den)]), (.agg #[(.int .i64 p_f.Num), (.int .i64 p_f.Den)])]) hF hS Try.func35 (by kernel_rfl) rfl rfl rfl (c_impl_MulFrac p_7 p_f t_8 ht_8 _ m hS.vis) ?_
          rintro a w _ rfl hF hS
          refine q_x (v := (.tuple #[(.agg #[(.int .i64 t_8.1.Num), (.int .i64 t_8.1.Den)]), (.bool t_8.2)])) hF hS (ex_move rfl) rfl rfl fun a hF => ?_
          refine q_x (v := (.agg #[(.int .i64 t_8.1.Num), (.int .i64 t_8.1.Den)])) hF hS (ex_extract rfl rfl) rfl rfl fun a hF => ?_
          refine q_x (v := (.bool t_8.2)) hF hS (ex_extract rfl rfl) rfl rfl fun a hF => ?_
          refine q_alloc (cs := [(.int .i64 0), (.int .i64 0)]) hF hS rfl rfl rfl fun a w b9 hF hS => ?_
          refine q_store (vs := [(.int .i64 t_8.1.Num), (.int .i64 t_8.1.Den)]) (cs' := [(.int .i64 t_8.1.Num), (.int .i64 t_8.1.Den)]) 0 0 hF hS sz24 rfl rfl rfl rfl rfl rfl rfl rfl fun a w hF hS => ?_
          refine q_x (v := (.bool t_8.2)) hF hS (ex_assign rfl) rfl rfl fun a hF => ?_
          refine q_end (n_sq ?_)
          refine q_seq ?_
          refine q_seq ?_
          refine q_region ?_
          refine q_x (v := (.bool t_8.2)) hF hS (ex_move rfl) rfl rfl fun a hF => ?_
          refine q_x (v := (.bool (!t_8.2))) hF hS (ex_not rfl) rfl rfl fun a hF => ?_
          refine q_end (n_sq ?_)
          rcases hc7 : (!t_8.2) with _ | _
          · have hb5 := cond_f hc7 hb5
            refine q_cond_f hF rfl hc7 ?_
            refine q_skipc (n_sq ?_)
            refine q_region ?_
            refine q_x (v := (.agg #[(.int .i64 t_8.1.Num), (.int .i64 t_8.1.Den)])) hF hS (ex_loadA (vs := [(.int .i64 t_8.1.Num), (.int .i64 t_8.1.Den)]) 0 0 Try.underlying24 rfl sz24 rfl rfl rfl rfl) rfl rfl fun a hF => ?_
            refine q_store (vs := [(.int .i64 t_8.1.Num), (.int .i64 t_8.1.Den)]) (cs' := [(.int .i64 t_8.1.Num), (.int .i64 t_8.1.Den)]) 1 0 hF hS sz24 rfl rfl rfl rfl rfl rfl rfl rfl fun a w hF hS => ?_
            refine q_end (n_ib (n_sq ?_))
            refine q_region ?_
            refine q_x (v := (.int .i64 (w64 (t_6 + 1)))) hF hS (ex_ibin rfl rfl rfl) rfl rfl fun a hF => ?_
            refine q_x (v := (.int .i64 (w64 (t_6 + 1)))) hF hS (ex_move rfl) rfl rfl fun a hF => ?_
            refine q_end ?_
            obtain rfl := someI hb5
            exact ⟨rfl, _, _, rfl, hF.sub ⟨rfl, rfl, rfl, rfl, rfl, trivial⟩, hS.mask [false, true, true, true]⟩
          · have hb5 := cond_t hc7 hb5
            refine q_cond_t hF rfl hc7 ?_
            refine q_seq ?_
            refine q_region ?_
            refine q_x (v := (.agg #[(.int .i64 0), (.int .i64 0)])) hF hS (ex_build (cells := [(.int .i64 0), (.int .i64 0)]) rfl (by kernel_rfl)) rfl rfl fun a hF => ?_
            refine q_store (vs := [(.int .i64 0), (.int .i64 0)]) (cs' := [(.int .i64 0), (.int .i64 0)]) 2 0 hF hS sz24 rfl rfl rfl rfl rfl rfl rfl rfl fun a w hF hS => ?_
            refine q_x (v := (.bool false)) hF hS (ex_assign rfl) rfl rfl fun a hF => ?_
            refine q_end (n_sq (q_ret (r_sq (r_ib (r_sq ?_)))))
            obtain rfl := someI hb5
            refine ⟨nofun, .inr fun ho => ?_⟩
            subst ho
            refine r_ib (r_sq ?_)
            obtain rfl := someI hr
            exact ret_of hF hS rfl (.cellA (us := [(.int .i64 0), (.int .i64 0)]) 2 0 Try.underlying24 rfl sz24 rfl rfl rfl rfl (.tmp rfl .nil)) rfl
      · rintro e a w ⟨p_10, rfl, rfl, hF, hS⟩
        refine x_ib (n_sq ?_)
        refine q_seq ?_
        refine q_region ?_
        refine q_x (v := (.agg #[(.int .i64 p_10.Num), (.int .i64 p_10.Den)])) hF hS (ex_loadA (vs := [(.int .i64 p_10.Num), (.int .i64 p_10.Den)]) 0 0 Try.underlying24 rfl sz24 rfl rfl rfl rfl) rfl rfl fun a hF => ?_
        refine q_store (vs := [(.int .i64 p_10.Num), (.int .i64 p_10.Den)]) (cs' := [(.int .i64 p_10.Num), (.int .i64 p_10.Den)]) 1 0 hF hS sz24 rfl rfl rfl rfl rfl rfl rfl rfl fun a w hF hS => ?_
        refine q_x (v := (.bool true)) hF hS (ex_assign rfl) rfl rfl fun a hF => ?_
        refine q_end (n_sq (q_ret ?_))
        obtain rfl := someI hr
        exact ret_of hF hS rfl (.cellA (us := [(.int .i64 p_10.Num), (.int .i64 p_10.Den)]) 1 0 Try.underlying24 rfl sz24 rfl rfl rfl rfl (.tmp rfl .nil)) rfl
    · have hr := cond_t hc4 hr
      refine q_cond_t hF rfl hc4 ?_
      refine q_seq ?_
      refine q_region ?_
      refine q_x (v := (.agg #[(.int .i64 0), (.int .i64 0)])) hF hS (ex_build (cells := [(.int .i64 0), (.int .i64 0)]) rfl (by kernel_rfl)) rfl rfl fun a hF => ?_
      refine q_store (vs := [(.int .i64 0), (.int .i64 0)]) (cs' := [(.int .i64 0), (.int .i64 0)]) 0 0 hF hS sz24 rfl rfl rfl rfl rfl rfl rfl rfl fun a w hF hS => ?_
      refine q_x (v := (.bool false)) hF hS (ex_assign rfl) rfl rfl fun a hF => ?_
      refine q_end (n_sq (q_ret (r_sq ?_)))
      obtain rfl := someI hr
      exact ret_of hF hS rfl (.cellA (us := [(.int .i64 0), (.int .i64 0)]) 0 0 Try.underlying24 rfl sz24 rfl rfl rfl rfl (.tmp rfl .nil)) rfl

theorem c_impl_GeoRatio (p_a : impl_Frac) (p_sensitivity : Int) (r : impl_Frac × Bool) (hr : impl_GeoRatio p_a p_sensitivity = some r) (w0 : World) (m : Mem) (hv : Vis m w0) :
    Ret Try.prog 13 [(.agg #[(.int .i64 p_a.Num), (.int .i64 p_a.Den)]), (.int .i64 p_sensitivity)] w0 fun v _ => v = (.tuple #[(.agg #[(.int .i64 r.1.Num), (.int .i64 r.1.Den)]), (.bool r.2)]) := by
  unfold impl_GeoRatio at hr
  refine ret_start Try.func13 rfl 27 rfl rfl m hv fun a hF hS => ?_
  refine q_seq ?_
  refine q_region ?_
  refine q_box (cs := [(.int .i64 p_a.Num), (.int .i64 p_a.Den)]) hF hS rfl rfl rfl fun a w b1 hF hS => ?_
  refine q_alloc (cs := [(.int .i64 0), (.int .i64 0)]) hF hS rfl rfl rfl fun a w b2 hF hS => ?_
  refine q_x (v := (.bool false)) hF hS (ex_assign rfl) rfl rfl fun a hF => ?_
  refine q_end (n_sq ?_)
  refine q_seq ?_
  refine q_seq ?_
  obtain ⟨t_4, hj1, hr⟩ := bindS hr
  refine q_join (fun a w => Fr a 27 [(1, (.int .i64 p_sensitivity)), (2, (.pointer (some ⟨b1, 0, none⟩))), (4, (.pointer (some ⟨b2, 0, none⟩))), (16, (.bool t_4))] ∧ St [] w0 w m [[⟨b2, [(.int .i64 0), (.int .i64 0)], 24⟩], [⟨b1, [(.int .i64 p_a.Num), (.int .i64 p_a.Den)], 24⟩]]) ?_ ?_
  · refine q_region ?_
    refine q_x (v := (.agg #[(.int .i64 p_a.Num), (.int .i64 p_a.Den)])) hF hS (ex_loadA (vs := [(.int .i64 p_a.Num), (.int .i64 p_a.Den)]) 1 0 Try.underlying24 rfl sz24 rfl rfl rfl rfl) rfl rfl fun a hF => ?_
    obtain ⟨t_3, ht_3, hj1⟩ := bindS hj1
    refine q_call (vs := [(.agg #[(.int .i64 p_a.Num), (.int .i64 p_a.Den)])]) hF hS Try.func31 (by kernel_rfl) rfl rfl rfl (c_impl_isRatio p_a t_3 ht_3 _ m hS.vis) ?_
    rintro a w _ rfl hF hS
    refine q_x (v := (.bool (!t_3))) hF hS (ex_not rfl) rfl rfl fun a hF => ?_
    refine q_x (v := (.bool (!t_3))) hF hS (ex_move rfl) rfl rfl fun a hF => ?_
    rcases hc2 : (!t_3) with _ | _
    · have hj1 := cond_f hc2 hj1
      refine q_xg (v := (.int .i64 p_sensitivity)) hF hS (ex_move rfl) (wanted_t hF rfl rfl rfl hc2) rfl fun a hF => ?_
      refine q_xg (v := (.bool (decide (p_sensitivity < 0)))) hF hS (ex_ibin rfl rfl rfl) (wanted_t hF rfl rfl rfl hc2) rfl fun a hF => ?_
      refine q_x (v := (.bool (decide (p_sensitivity < 0)))) hF hS (ex_pick_f rfl rfl hc2) rfl rfl fun a hF => ?_
      refine q_x (v := (.bool (decide (p_sensitivity < 0)))) hF hS (ex_move rfl) rfl rfl fun a hF => ?_
      rcases hc3 : (decide (p_sensitivity < 0)) with _ | _
      · have hj1 := cond_f hc3 hj1
        refine q_xg (v := (.int .i64 p_sensitivity)) hF hS (ex_move rfl) (wanted_t hF rfl rfl rfl hc3) rfl fun a hF => ?_
        refine q_xg (v := (.bool (decide (30 < p_sensitivity)))) hF hS (ex_ibin rfl rfl rfl) (wanted_t hF rfl rfl rfl hc3) rfl fun a hF => ?_
        refine q_x (v := (.bool (decide (30 < p_sensitivity)))) hF hS (ex_pick_f rfl rfl hc3) rfl rfl fun a hF => ?_
        refine q_end (n_jn ?_)
        obtain rfl := someI hj1
        exact ⟨hF.sub ⟨rfl, rfl, rfl, rfl, trivial⟩, hS⟩
      · have hj1 := cond_t hc3 hj1
        refine q_skip hF (wanted_f hF rfl rfl rfl hc3 rfl) rfl fun a hF => ?_
        refine q_skip hF (wanted_f hF rfl rfl rfl hc3 rfl) rfl fun a hF => ?_
        refine q_x (v := (.bool true)) hF hS (ex_pick_t rfl rfl hc3) rfl rfl fun a hF => ?_
        refine q_end (n_jn ?_)
        obtain rfl := someI hj1
        exact ⟨hF.sub ⟨rfl, rfl, rfl, rfl, trivial⟩, hS⟩
    · have hj1 := cond_t hc2 hj1
      refine q_skip hF (wanted_f hF rfl rfl rfl hc2 rfl) rfl fun a hF => ?_
      refine q_skip hF (wanted_f hF rfl rfl rfl hc2 rfl) rfl fun a hF => ?_
      refine q_x (v := (.bool true)) hF hS (ex_pick_t rfl rfl hc2) rfl rfl fun a hF => ?_
      refine q_x (v := (.bool true)) hF hS (ex_move rfl) rfl rfl fun a hF => ?_
      refine q_skip hF (wanted_f hF rfl rfl rfl rfl rfl) rfl fun a hF => ?_
      refine q_skip hF (wanted_f hF rfl rfl rfl rfl rfl) rfl fun a hF => ?_
      refine q_x (v := (.bool true)) hF hS (ex_pick_t rfl rfl rfl) rfl rfl fun a hF => ?_
      refine q_end (n_jn ?_)
      obtain rfl := someI hj1
      exact ⟨hF.sub ⟨rfl, rfl, rfl, rfl, trivial⟩, hS⟩
  · rintro a w ⟨hF, hS⟩
    refine n_sq ?_
    rcases hc4 : (t_4) with _ | _
    · have hr := cond_f hc4 hr
      refine q_cond_f hF rfl hc4 ?_
      refine q_skipc (n_sq ?_)
      refine q_seq ?_
      refine q_region ?_
      refine q_x (v := (.pointer (some ⟨b1, 1, none⟩))) hF hS (ex_fieldAddr Try.underlying24 rfl sz3 rfl rfl) rfl rfl fun a hF => ?_
      refine q_x (v := (.int .i64 p_a.Den)) hF hS (ex_load1 1 0 Try.underlying3 rfl rfl rfl rfl) rfl rfl fun a hF => ?_
      refine q_x (v := (.pointer (some ⟨b1, 0, none⟩))) hF hS (ex_fieldAddr Try.underlying24 rfl sz3 rfl rfl) rfl rfl fun a hF => ?_
      refine q_x (v := (.int .i64 p_a.Num)) hF hS (ex_load1 1 0 Try.underlying3 rfl rfl rfl rfl) rfl rfl fun a hF => ?_
      refine q_x (v := (.agg #[(.int .i64 p_a.Den), (.int .i64 p_a.Num)])) hF hS (ex_build (cells := [(.int .i64 p_a.Den), (.int .i64 p_a.Num)]) rfl (by kernel_rfl)) rfl rfl fun a hF => ?_
      refine q_x (v := (.int .i64 p_sensitivity)) hF hS (ex_move rfl) rfl rfl fun a hF => ?_
      obtain ⟨t_5, ht_5, hr⟩ := bindS hr
      refine q_call (vs := [(.agg #[(.int .i64 p_a.Den), (.int .i64 p_a.Num)]), (.int .i64 p_sensitivity)]) hF hS Try.func32 (by kernel_rfl) rfl rfl rfl (c_impl_PowFrac (impl_Frac.mk p_a.Den p_a.Num) p_sensitivity t_5 ht_5 _ m hS.vis) ?_
      rintro a w _ rfl hF hS
      refine q_x (v := (.agg #[(.int .i64 t_5.1.Num), (.int .i64 t_5.1.Den)])) hF hS (ex_extract rfl rfl) rfl rfl fun a hF => ?_
      refine q_x (v := (.bool t_5.2)) hF hS (ex_extract rfl rfl) rfl rfl fun a hF => ?_
      refine q_store (vs := [(.int .i64 t_5.1.Num), (.int .i64 t_5.1.Den)]) (cs' := [(.int .i64 t_5.1.Num), (.int .i64 t_5.1.Den)]) 0 0 hF hS sz24 rfl rfl rfl rfl rfl rfl rfl rfl fun a w hF hS => ?_
      refine q_x (v := (.bool t_5.2)) hF hS (ex_assign rfl) rfl rfl fun a hF => ?_
      refine q_end (n_sq (q_ret ?_))
      obtain rfl := someI hr
      exact ret_of hF hS rfl (.cellA (us := [(.int .i64 t_5.1.Num), (.int .i64 t_5.1.Den)]) 0 0 Try.underlying24 rfl sz24 rfl rfl rfl rfl (.tmp rfl .nil)) rfl
    · have hr := cond_t hc4 hr
      refine q_cond_t hF rfl hc4 ?_
      refine q_seq ?_
      refine q_region ?_
      refine q_x (v := (.agg #[(.int .i64 0), (.int .i64 0)])) hF hS (ex_build (cells := [(.int .i64 0), (.int .i64 0)]) rfl (by kernel_rfl)) rfl rfl fun a hF => ?_
      refine q_store (vs := [(.int .i64 0), (.int .i64 0)]) (cs' := [(.int .i64 0), (.int .i64 0)]) 0 0 hF hS sz24 rfl rfl rfl rfl rfl rfl rfl rfl fun a w hF hS => ?_
      refine q_x (v := (.bool false)) hF hS (ex_assign rfl) rfl rfl fun a hF => ?_
      refine q_end (n_sq (q_ret (r_sq ?_)))
      obtain rfl := someI hr
      exact ret_of hF hS rfl (.cellA (us := [(.int .i64 0), (.int .i64 0)]) 0 0 Try.underlying24 rfl sz24 rfl rfl rfl rfl (.tmp rfl .nil)) rfl

theorem c_laws_FnExactGeoRatio (p_aA : laws_Frac) (p_aSensitivity : Int) (r : Bool) (hr : laws_FnExactGeoRatio p_aA p_aSensitivity = some r) (w0 : World) (m : Mem) (hv : Vis m w0) :
    Ret Try.prog 4 [(.agg #[(.int .i64 p_aA.Num), (.int .i64 p_aA.Den)]), (.int .i64 p_aSensitivity)] w0 fun v _ => v = (.bool r) := by
  unfold laws_FnExactGeoRatio at hr
  refine ret_start Try.func4 rfl 32 rfl rfl m hv fun a hF hS => ?_
  refine q_seq ?_
  refine q_region ?_
  refine q_box (cs := [(.int .i64 p_aA.Num), (.int .i64 p_aA.Den)]) hF hS rfl rfl rfl fun a w b1 hF hS => ?_
  refine q_x (v := (.bool false)) hF hS (ex_assign rfl) rfl rfl fun a hF => ?_
  refine q_end (n_sq ?_)
  refine q_seq ?_
  refine q_region ?_
  refine q_x (v := (.agg #[(.int .i64 p_aA.Num), (.int .i64 p_aA.Den)])) hF hS (ex_loadA (vs := [(.int .i64 p_aA.Num), (.int .i64 p_aA.Den)]) 0 0 Try.underlying23 rfl sz23 rfl rfl rfl rfl) rfl rfl fun a hF => ?_
  obtain ⟨t_2, ht_2, hr⟩ := bindS hr
  refine q_call (vs := [(.agg #[(.int .i64 p_aA.Num), (.int .i64 p_aA.Den)])]) hF hS Try.func9 (by kernel_rfl) rfl rfl rfl (c_laws_toFrac p_aA t_2 ht_2 _ m hS.vis) ?_
  rintro a w _ rfl hF hS
  refine q_x (v := (.int .i64 p_aSensitivity)) hF hS (ex_move rfl) rfl rfl fun a hF => ?_
  obtain ⟨t_3, ht_3, hr⟩ := bindS hr
  refine q_call (vs := [(.agg #[(.int .i64 t_2.Num), (.int .i64 t_2.Den)]), (.int .i64 p_aSensitivity)]) hF hS Try.func12 (by kernel_rfl) rfl rfl rfl (c_spec_GeoRatio t_2 p_aSensitivity t_3 ht_3 _ m hS.vis) ?_
  rintro a w _ rfl hF hS
  refine q_x (v := (.tuple #[(.agg #[(.int .i64 t_3.1.Num), (.int .i64 t_3.1.Den)]), (.bool t_3.2)])) hF hS (ex_move rfl) rfl rfl fun a hF => ?_
  refine q_x (v := (.agg #[(.int .i64 t_3.1.Num), (.int .i64 t_3.1.Den)])) hF hS (ex_extract rfl rfl) rfl rfl fun a hF => ?_
  refine q_x (v := (.bool t_3.2)) hF hS (ex_extract rfl rfl) rfl rfl fun a hF => ?_
  refine q_alloc (cs := [(.int .i64 0), (.int .i64 0)]) hF hS rfl rfl rfl fun a w b4 hF hS => ?_
  refine q_store (vs := [(.int .i64 t_3.1.Num), (.int .i64 t_3.1.Den)]) (cs' := [(.int .i64 t_3.1.Num), (.int .i64 t_3.1.Den)]) 0 0 hF hS sz24 rfl rfl rfl rfl rfl rfl rfl rfl fun a w hF hS => ?_
  refine q_x (v := (.bool t_3.2)) hF hS (ex_assign rfl) rfl rfl fun a hF => ?_
  refine q_end (n_sq ?_)
  refine q_seq ?_
  refine q_region ?_
  refine q_x (v := (.agg #[(.int .i64 p_aA.Num), (.int .i64 p_aA.Den)])) hF hS (ex_loadA (vs := [(.int .i64 p_aA.Num), (.int .i64 p_aA.Den)]) 1 0 Try.underlying23 rfl sz23 rfl rfl rfl rfl) rfl rfl fun a hF => ?_
  obtain ⟨t_5, ht_5, hr⟩ := bindS hr
  refine q_call (vs := [(.agg #[(.int .i64 p_aA.Num), (.int .i64 p_aA.Den)])]) hF hS Try.func9 (by kernel_rfl) rfl rfl rfl (c_laws_toFrac p_aA t_5 ht_5 _ m hS.vis) ?_
  rintro a w _ rfl hF hS
  refine q_x (v := (.int .i64 p_aSensitivity)) hF hS (ex_move rfl) rfl rfl fun a hF => ?_
  obtain ⟨t_6, ht_6, hr⟩ := bindS hr
  refine q_call (vs := [(.agg #[(.int .i64 t_5.Num), (.int .i64 t_5.Den)]), (.int .i64 p_aSensitivity)]) hF hS Try.func13 (by kernel_rfl) rfl rfl rfl (c_impl_GeoRatio t_5 p_aSensitivity t_6 ht_6 _ m hS.vis) ?_
  rintro a w _ rfl hF hS
  refine q_x (v := (.tuple #[(.agg #[(.int .i64 t_6.1.Num), (.int .i64 t_6.1.Den)]), (.bool t_6.2)])) hF hS (ex_move rfl) rfl rfl fun a hF => ?_
  refine q_x (v := (.agg #[(.int .i64 t_6.1.Num), (.int .i64 t_6.1.Den)])) hF hS (ex_extract rfl rfl) rfl rfl fun a hF => ?_
  refine q_x (v := (.bool t_6.2)) hF hS (ex_extract rfl rfl) rfl rfl fun a hF => ?_
  refine q_alloc (cs := [(.int .i64 0), (.int .i64 0)]) hF hS rfl rfl rfl fun a w b7 hF hS => ?_
  refine q_store (vs := [(.int .i64 t_6.1.Num), (.int .i64 t_6.1.Den)]) (cs' := [(.int .i64 t_6.1.Num), (.int .i64 t_6.1.Den)]) 0 0 hF hS sz24 rfl rfl rfl rfl rfl rfl rfl rfl fun a w hF hS => ?_
  refine q_x (v := (.bool t_6.2)) hF hS (ex_assign rfl) rfl rfl fun a hF => ?_
  refine q_end (n_sq ?_)
  refine q_seq ?_
  refine q_seq ?_
  obtain ⟨t_9, hj1, hr⟩ := bindS hr
  refine q_join (fun a w => Fr a 32 [(31, (.bool t_9))] ∧ St [] w0 w m []) ?_ ?_
  · refine q_region ?_
    refine q_x (v := (.agg #[(.int .i64 t_6.1.Num), (.int .i64 t_6.1.Den)])) hF hS (ex_loadA (vs := [(.int .i64 t_6.1.Num), (.int .i64 t_6.1.Den)]) 0 0 Try.underlying24 rfl sz24 rfl rfl rfl rfl) rfl rfl fun a hF => ?_
    refine q_x (v := (.agg #[(.int .i64 t_3.1.Num), (.int .i64 t_3.1.Den)])) hF hS (ex_loadA (vs := [(.int .i64 t_3.1.Num), (.int .i64 t_3.1.Den)]) 1 0 Try.underlying24 rfl sz24 rfl rfl rfl rfl) rfl rfl fun a hF => ?_
    obtain ⟨t_8, ht_8, hj1⟩ := bindS hj1
    refine q_call (vs := [(.agg #[(.int .i64 t_6.1.Num), (.int .i64 t_6.1.Den)]), (.agg #[(.int .i64 t_3.1.Num), (.int .i64 t_3.1.Den)])]) hF hS Try.func11 (by kernel_rfl) rfl rfl rfl (c_laws_eqFrac t_6.1 t_3.1 t_8 ht_8 _ m hS.vis) ?_
    rintro a w _ rfl hF hS
    refine q_x (v := (.bool (!t_8))) hF hS (ex_not rfl) rfl rfl fun a hF => ?_
    refine q_x (v := (.bool (!t_8))) hF hS (ex_move rfl) rfl rfl fun a hF => ?_
    rcases hc2 : (!t_8) with _ | _
    · have hj1 := cond_f hc2 hj1
      refine q_xg (v := (.bool t_6.2)) hF hS (ex_move rfl) (wanted_t hF rfl rfl rfl hc2) rfl fun a hF => ?_
      refine q_xg (v := (.bool t_3.2)) hF hS (ex_move rfl) (wanted_t hF rfl rfl rfl hc2) rfl fun a hF => ?_
      refine q_xg (v := (.bool (t_6.2 != t_3.2))) hF hS (ex_bne Try.underlying4 rfl rfl) (wanted_t hF rfl rfl rfl hc2) rfl fun a hF => ?_
      refine q_x (v := (.bool (t_6.2 != t_3.2))) hF hS (ex_pick_f rfl rfl hc2) rfl rfl fun a hF => ?_
      refine q_end (n_jn ?_)
      obtain rfl := someI hj1
      exact ⟨hF.sub ⟨rfl, trivial⟩, hS.mask [false, false, false]⟩
    · have hj1 := cond_t hc2 hj1
      refine q_skip hF (wanted_f hF rfl rfl rfl hc2 rfl) rfl fun a hF => ?_
      refine q_skip hF (wanted_f hF rfl rfl rfl hc2 rfl) rfl fun a hF => ?_
      refine q_skip hF (wanted_f hF rfl rfl rfl hc2 rfl) rfl fun a hF => ?_
      refine q_x (v := (.bool true)) hF hS (ex_pick_t rfl rfl hc2) rfl rfl fun a hF => ?_
      refine q_end (n_jn ?_)
      obtain rfl := someI hj1
      exact ⟨hF.sub ⟨rfl, trivial⟩, hS.mask [false, false, false]⟩
  · rintro a w ⟨hF, hS⟩
    refine n_sq ?_
    rcases hc3 : (t_9) with _ | _
    · have hr := cond_f hc3 hr
      refine q_cond_f hF rfl hc3 ?_
      refine q_skipc (n_sq ?_)
      refine q_seq ?_
      refine q_region ?_
      refine q_x (v := (.bool true)) hF hS (ex_assign rfl) rfl rfl fun a hF => ?_
      refine q_end (n_sq (q_ret ?_))
      obtain rfl := someI hr
      exact ret_of hF hS rfl (.tmp rfl .nil) rfl
    · have hr := cond_t hc3 hr
      refine q_cond_t hF rfl hc3 ?_
      refine q_seq ?_
      refine q_region ?_
      refine q_x (v := (.bool false)) hF hS (ex_assign rfl) rfl rfl fun a hF => ?_
      refine q_end (n_sq (q_ret (r_sq ?_)))
      obtain rfl := someI hr
      exact ret_of hF hS rfl (.tmp rfl .nil) rfl

theorem c_spec_fSub (p_a : impl_Frac) (p_b : impl_Frac) (r : impl_Frac × Bool) (hr : spec_fSub p_a p_b = some r) (w0 : World) (m : Mem) (hv : Vis m w0) :
    Ret Try.prog 34 [(.agg #[(.int .i64 p_a.Num), (.int .i64 p_a.Den)]), (.agg #[(.int .i64 p_b.Num), (.int .i64 p_b.Den)])] w0 fun v _ => v = (.tuple #[(.agg #[(.int .i64 r.1.Num), (.int .i64 r.1.Den)]), (.bool r.2)]) := by
  unfold spec_fSub at hr
  refine ret_start Try.func34 rfl 25 rfl rfl m hv fun a hF hS => ?_
  refine q_seq ?_
  refine q_region ?_
  refine q_box (cs := [(.int .i64 p_a.Num), (.int .i64 p_a.Den)]) hF hS rfl rfl rfl fun a w b1 hF hS => ?_
  refine q_box (cs := [(.int .i64 p_b.Num), (.int .i64 p_b.Den)]) hF hS rfl rfl rfl fun a w b2 hF hS => ?_
  refine q_alloc (cs := [(.int .i64 0), (.int .i64 0)]) hF hS rfl rfl rfl fun a w b3 hF hS => ?_
  refine q_x (v := (.bool false)) hF hS (ex_assign rfl) rfl rfl fun a hF => ?_
  refine q_end (n_sq ?_)
  refine q_seq ?_
  refine q_region ?_
  refine q_x (v := (.pointer (some ⟨b1, 0, none⟩))) hF hS (ex_fieldAddr Try.underlying24 rfl sz3 rfl rfl) rfl rfl fun a hF => ?_
  refine q_x (v := (.int .i64 p_a.Num)) hF hS (ex_load1 2 0 Try.underlying3 rfl rfl rfl rfl) rfl rfl fun a hF => ?_
  refine q_x (v := (.pointer (some ⟨b2, 1, none⟩))) hF hS (ex_fieldAddr Try.underlying24 rfl sz3 rfl rfl) rfl rfl fun a hF => ?_
  refine q_x (v := (.int .i64 p_b.Den)) hF hS (ex_load1 1 0 Try.underlying3 rfl rfl rfl rfl) rfl rfl fun a hF => ?_
  refine q_x (v := (.int .i64 (w64 (p_a.Num * p_b.Den)))) hF hS (ex_ibin rfl rfl rfl) rfl rfl fun a hF => ?_
  refine q_x (v := (.pointer (some ⟨b2, 0, none⟩))) hF hS (ex_fieldAddr Try.underlying24 rfl sz3 rfl rfl) rfl rfl fun a hF => ?_
  refine q_x (v := (.int .i64 p_b.Num)) hF hS (ex_load1 1 0 Try.underlying3 rfl rfl rfl rfl) rfl rfl fun a hF => ?_
  refine q_x (v := (.pointer (some ⟨b1, 1, none⟩))) hF hS (ex_fieldAddr Try.underlying24 rfl sz3 rfl rfl) rfl rfl fun a hF => ?_
  refine q_x (v := (.int .i64 p_a.Den)) hF hS (ex_load1 2 0 Try.underlying3 rfl rfl rfl rfl) rfl rfl fun a hF => ?_
  refine q_x (v := (.int .i64 (w64 (p_b.Num * p_a.Den)))) hF hS (ex_ibin rfl rfl rfl) rfl rfl fun a hF => ?_
  refine q_x (v := (.int .i64 (w64 ((w64 (p_a.Num * p_b.Den)) - (w64 (p_b.Num * p_a.Den)))))) hF hS (ex_ibin rfl rfl rfl) rfl rfl fun a hF => ?_
  refine q_x (v := (.pointer (some ⟨b1, 1, none⟩))) hF hS (ex_fieldAddr Try.underlying24 rfl sz3 rfl rfl) rfl rfl fun a hF => ?_
  refine q_x (v := (.int .i64 p_a.Den)) hF hS (ex_load1 2 0 Try.underlying3 rfl rfl rfl rfl) rfl rfl fun a hF => ?_
  refine q_x (v := (.pointer (some ⟨b2, 1, none⟩))) hF hS (ex_fieldAddr Try.underlying24 rfl sz3 rfl rfl) rfl rfl fun a hF => ?_
  refine q_x (v := (.int .i64 p_b.Den)) hF hS (ex_load1 1 0 Try.underlying3 rfl rfl rfl rfl) rfl rfl fun a hF => ?_
  refine q_x (v := (.int .i64 (w64 (p_a.Den * p_b.Den)))) hF hS (ex_ibin rfl rfl rfl) rfl rfl fun a hF => ?_
  obtain ⟨t_4, ht_4, hr⟩ := bindS hr
  refine q_call (vs := [(.int .i64 (w64 ((w64 (p_a.Num * p_b.Den)) - (w64 (p_b.Num * p_a.Den))))), (.int .i64 (w64 (p_a.Den * p_b.Den)))]) hF hS Try.func24 (by kernel_rfl) rfl rfl rfl (c_spec_fMake (w64 ((w64 (p_a.Num * p_b.Den)) - (w64 (p_b.Num * p_a.Den)))) (w64 (p_a.Den * p_b.Den)) t_4 ht_4 _ m hS.vis) ?_
  rintro a w _ rfl hF hS
  refine q_x (v := (.agg #[(.int .i64 t_4.1.Num), (.int .i64 t_4.1.Den)])) hF hS (ex_extract rfl rfl) rfl rfl fun a hF => ?_
  refine q_x (v := (.bool t_4.2)) hF hS (ex_extract rfl rfl) rfl rfl fun a hF => ?_
  refine q_store (vs := [(.int .i64 t_4.1.Num), (.int .i64 t_4.1.Den)]) (cs' := [(.int .i64 t_4.1.Num), (.int .i64 t_4.1.Den)]) 0 0 hF hS sz24 rfl rfl rfl rfl rfl rfl rfl rfl fun a w hF hS => ?_
  refine q_x (v := (.bool t_4.2)) hF hS (ex_assign rfl) rfl rfl fun a hF => ?_
  refine q_end (n_sq (q_ret ?_))
  obtain rfl := someI hr
  exact ret_of hF hS rfl (.cellA (us := [(.int .i64 t_4.1.Num), (.int .i64 t_4.1.Den)]) 0 0 Try.underlying24 rfl sz24 rfl rfl rfl rfl (.tmp rfl .nil)) rfl

theorem c_spec_VarianceOf (p_a : impl_Frac) (r : impl_Frac × Bool) (hr : spec_VarianceOf p_a = some r) (w0 : World) (m : Mem) (hv : Vis m w0) :
    Ret Try.prog 14 [(.agg #[(.int .i64 p_a.Num), (.int .i64 p_a.Den)])] w0 fun v _ => v = (.tuple #[(.agg #[(.int .i64 r.1.Num), (.int .i64 r.1.Den)]), (.bool r.2)]) := by
  unfold spec_VarianceOf at hr
  refine ret_start Try.func14 rfl 43 rfl rfl m hv fun a hF hS => ?_
  refine q_seq ?_
  refine q_region ?_
  refine q_box (cs := [(.int .i64 p_a.Num), (.int .i64 p_a.Den)]) hF hS rfl rfl rfl fun a w b1 hF hS => ?_
  refine q_alloc (cs := [(.int .i64 0), (.int .i64 0)]) hF hS rfl rfl rfl fun a w b2 hF hS => ?_
  refine q_x (v := (.bool false)) hF hS (ex_assign rfl) rfl rfl fun a hF => ?_
  refine q_end (n_sq ?_)
  refine q_seq ?_
  refine q_seq ?_
  refine q_region ?_
  refine q_x (v := (.agg #[(.int .i64 p_a.Num), (.int .i64 p_a.Den)])) hF hS (ex_loadA (vs := [(.int .i64 p_a.Num), (.int .i64 p_a.Den)]) 1 0 Try.underlying24 rfl sz24 rfl rfl rfl rfl) rfl rfl fun a hF => ?_
  obtain ⟨t_3, ht_3, hr⟩ := bindS hr
  refine q_call (vs := [(.agg #[(.int .i64 p_a.Num), (.int .i64 p_a.Den)])]) hF hS Try.func27 (by kernel_rfl) rfl rfl rfl (c_spec_zRatio p_a t_3 ht_3 _ m hS.vis) ?_
  rintro a w _ rfl hF hS
  refine q_x (v := (.bool (!t_3))) hF hS (ex_not rfl) rfl rfl fun a hF => ?_
  refine q_end (n_sq ?_)
  rcases hc1 : (!t_3) with _ | _
  · have hr := cond_f hc1 hr
    refine q_cond_f hF rfl hc1 ?_
    refine q_skipc (n_sq ?_)
    refine q_seq ?_
    obtain ⟨j2, hj2, hr⟩ := bindS hr
    refine q_join (fun a w => ∃ b7 one_8 x_9, j2 = (one_8, x_9) ∧ Fr a 43 [(1, (.pointer (some ⟨b1, 0, none⟩))), (2, (.pointer (some ⟨b2, 0, none⟩))), (4, (.pointer (some ⟨b7, 0, none⟩))), (5, (.bool one_8))] ∧ St [] w0 w m [[⟨b7, [(.int .i64 x_9.Num), (.int .i64 x_9.Den)], 24⟩], [⟨b2, [(.int .i64 0), (.int .i64 0)], 24⟩], [⟨b1, [(.int .i64 p_a.Num), (.int .i64 p_a.Den)], 24⟩]]) ?_ ?_
    · refine e_region [7] mixed fun w' hw' => ?_
      have hS := hS.below hw'
      refine e_x (v := (.agg #[(.int .i64 p_a.Num), (.int .i64 p_a.Den)])) 0 hF hS rfl (ex_loadA (vs := [(.int .i64 p_a.Num), (.int .i64 p_a.Den)]) 1 0 Try.underlying24 rfl sz24 rfl rfl rfl rfl) rfl rfl (by kernel_rfl) (by kernel_rfl) (by kernel_rfl) (by kernel_rfl) fun a hF => ?_
      obtain ⟨t_5, ht_5, hj2⟩ := bindS hj2
      obtain ⟨t_6, ht_6, hj2⟩ := bindS hj2
      refine e_all [1, 6] (by kernel_rfl) rfl ⟨?_, ?_, trivial⟩
      · refine e_call (vs := [(.int .i64 2)]) hF hS rfl Try.func29 (by kernel_rfl) rfl rfl rfl (c_spec_fInt 2 t_5 ht_5 _ m hS.vis) ?_
        rintro a w _ rfl hF hS
        refine e_all [2, 6] (by kernel_rfl) rfl ⟨?_, ?_, trivial⟩
        · refine e_call (vs := [(.agg #[(.int .i64 p_a.Num), (.int .i64 p_a.Den)]), (.agg #[(.int .i64 t_5.Num), (.int .i64 t_5.Den)])]) hF hS rfl Try.func33 (by kernel_rfl) rfl rfl rfl (c_spec_fMul p_a t_5 t_6 ht_6 _ m hS.vis) ?_
          rintro a w _ rfl hF hS
          refine e_p (v := (.tuple #[(.agg #[(.int .i64 t_6.1.Num), (.int .i64 t_6.1.Den)]), (.bool t_6.2)])) 3 hF rfl (ex_move rfl) rfl rfl (by kernel_rfl) (by kernel_rfl) (by kernel_rfl) fun a hF => ?_
          refine e_p (v := (.agg #[(.int .i64 t_6.1.Num), (.int .i64 t_6.1.Den)])) 4 hF rfl (ex_extract rfl rfl) rfl rfl (by kernel_rfl) (by kernel_rfl) (by kernel_rfl) fun a hF => ?_
          refine e_p (v := (.bool t_6.2)) 5 hF rfl (ex_extract rfl rfl) rfl rfl (by kernel_rfl) (by kernel_rfl) (by kernel_rfl) fun a hF => ?_
          refine e_one 6 (by kernel_rfl) ?_
          refine e_alloc (cs := [(.int .i64 0), (.int .i64 0)]) hF hS rfl rfl rfl rfl fun a w b7 hF hS => ?_
          refine e_one 7 (by kernel_rfl) ?_
          refine e_store (vs := [(.int .i64 t_6.1.Num), (.int .i64 t_6.1.Den)]) (cs' := [(.int .i64 t_6.1.Num), (.int .i64 t_6.1.Den)]) 0 0 hF hS rfl rfl sz24 rfl rfl rfl rfl rfl rfl rfl rfl fun a w hF hS => ?_
          refine e_p (v := (.bool t_6.2)) 8 hF rfl (ex_assign rfl) rfl rfl (by kernel_rfl) (by kernel_rfl) (by kernel_rfl) fun a hF => ?_
          refine e_end (by kernel_rfl) (n_jn ?_) _
          obtain rfl := someI hj2
          exact ⟨b7, _, _, rfl, hF.sub ⟨rfl, rfl, rfl, rfl, trivial⟩, hS⟩
        · refine e_alloc (cs := [(.int .i64 0), (.int .i64 0)]) hF hS rfl rfl rfl rfl fun a w b7 hF hS => ?_
          refine e_one 2 (by kernel_rfl) ?_
          refine e_call (vs := [(.agg #[(.int .i64 p_a.Num), (.int .i64 p_a.Den)]), (.agg #[(.int .i64 t_5.Num), (.int .i64 t_5.Den)])]) hF hS rfl Try.func33 (by kernel_rfl) rfl rfl rfl (c_spec_fMul p_a t_5 t_6 ht_6 _ m hS.vis) ?_
          rintro a w _ rfl hF hS
          refine e_p (v := (.tuple #[(.agg #[(.int .i64 t_6.1.Num), (.int .i64 t_6.1.Den)]), (.bool t_6.2)])) 3 hF rfl (ex_move rfl) rfl rfl (by kernel_rfl) (by kernel_rfl) (by kernel_rfl) fun a hF => ?_
          refine e_p (v := (.agg #[(.int .i64 t_6.1.Num), (.int .i64 t_6.1.Den)])) 4 hF rfl (ex_extract rfl rfl) rfl rfl (by kernel_rfl) (by kernel_rfl) (by kernel_rfl) fun a hF => ?_
          refine e_p (v := (.bool t_6.2)) 5 hF rfl (ex_extract rfl rfl) rfl rfl (by kernel_rfl) (by kernel_rfl) (by kernel_rfl) fun a hF => ?_
          refine e_one 7 (by kernel_rfl) ?_
          refine e_store (vs := [(.int .i64 t_6.1.Num), (.int .i64 t_6.1.Den)]) (cs' := [(.int .i64 t_6.1.Num), (.int .i64 t_6.1.Den)]) 0 0 hF hS rfl rfl sz24 rfl rfl rfl rfl rfl rfl rfl rfl fun a w hF hS => ?_
          refine e_p (v := (.bool t_6.2)) 8 hF rfl (ex_assign rfl) rfl rfl (by kernel_rfl) (by kernel_rfl) (by kernel_rfl) fun a hF => ?_
          refine e_end (by kernel_rfl) (n_jn ?_) _
          obtain rfl := someI hj2
          exact ⟨b7, _, _, rfl, hF.sub ⟨rfl, rfl, rfl, rfl, trivial⟩, hS⟩
      · refine e_alloc (cs := [(.int .i64 0), (.int .i64 0)]) hF hS rfl rfl rfl rfl fun a w b7 hF hS => ?_
        refine e_one 1 (by kernel_rfl) ?_
        refine e_call (vs := [(.int .i64 2)]) hF hS rfl Try.func29 (by kernel_rfl) rfl rfl rfl (c_spec_fInt 2 t_5 ht_5 _ m hS.vis) ?_
        rintro a w _ rfl hF hS
        refine e_one 2 (by kernel_rfl) ?_
        refine e_call (vs := [(.agg #[(.int .i64 p_a.Num), (.int .i64 p_a.Den)]), (.agg #[(.int .i64 t_5.Num), (.int .i64 t_5.Den)])]) hF hS rfl Try.func33 (by kernel_rfl) rfl rfl rfl (c_spec_fMul p_a t_5 t_6 ht_6 _ m hS.vis) ?_
        rintro a w _ rfl hF hS
        refine e_p (v := (.tuple #[(.agg #[(.int .i64 t_6.1.Num), (.int .i64 t_6.1.Den)]), (.bool t_6.2)])) 3 hF rfl (ex_move rfl) rfl rfl (by kernel_rfl) (by kernel_rfl) (by kernel_rfl) fun a hF => ?_
        refine e_p (v := (.agg #[(.int .i64 t_6.1.Num), (.int .i64 t_6.1.Den)])) 4 hF rfl (ex_extract rfl rfl) rfl rfl (by kernel_rfl) (by kernel_rfl) (by kernel_rfl) fun a hF => ?_
        refine e_p (v := (.bool t_6.2)) 5 hF rfl (ex_extract rfl rfl) rfl rfl (by kernel_rfl) (by kernel_rfl) (by kernel_rfl) fun a hF => ?_
        refine e_one 7 (by kernel_rfl) ?_
        refine e_store (vs := [(.int .i64 t_6.1.Num), (.int .i64 t_6.1.Den)]) (cs' := [(.int .i64 t_6.1.Num), (.int .i64 t_6.1.Den)]) 0 0 hF hS rfl rfl sz24 rfl rfl rfl rfl rfl rfl rfl rfl fun a w hF hS => ?_
        refine e_p (v := (.bool t_6.2)) 8 hF rfl (ex_assign rfl) rfl rfl (by kernel_rfl) (by kernel_rfl) (by kernel_rfl) fun a hF => ?_
        refine e_end (by kernel_rfl) (n_jn ?_) _
        obtain rfl := someI hj2
        exact ⟨b7, _, _, rfl, hF.sub ⟨rfl, rfl, rfl, rfl, trivial⟩, hS⟩
    · rintro a w ⟨b7, one_8, x_9, rfl, hF, hS⟩
      refine n_sq ?_
      refine q_seq ?_
      obtain ⟨d_15, hj3, hr⟩ := bindS hr
      refine q_join (fun a w => ∃ b14, Fr a 43 [(2, (.pointer (some ⟨b2, 0, none⟩))), (4, (.pointer (some ⟨b7, 0, none⟩))), (5, (.bool one_8)), (6, (.pointer (some ⟨b14, 0, none⟩)))] ∧ St [] w0 w m [[⟨b14, [(.int .i64 d_15.Num), (.int .i64 d_15.Den)], 24⟩], [⟨b7, [(.int .i64 x_9.Num), (.int .i64 x_9.Den)], 24⟩], [⟨b2, [(.int .i64 0), (.int .i64 0)], 24⟩]]) ?_ ?_
      · refine e_region [7] mixed fun w' hw' => ?_
        have hS := hS.below hw'
        refine e_x (v := (.agg #[(.int .i64 p_a.Num), (.int .i64 p_a.Den)])) 1 hF hS rfl (ex_loadA (vs := [(.int .i64 p_a.Num), (.int .i64 p_a.Den)]) 2 0 Try.underlying24 rfl sz24 rfl rfl rfl rfl) rfl rfl (by kernel_rfl) (by kernel_rfl) (by kernel_rfl) (by kernel_rfl) fun a hF => ?_
        obtain ⟨t_12, ht_12, hj3⟩ := bindS hj3
        obtain ⟨t_13, ht_13, hj3⟩ := bindS hj3
        refine e_all [0, 6] (by kernel_rfl) rfl ⟨?_, ?_, trivial⟩
        · refine e_call (vs := [(.int .i64 1)]) hF hS rfl Try.func29 (by kernel_rfl) rfl rfl rfl (c_spec_fInt 1 t_12 ht_12 _ m hS.vis) ?_
          rintro a w _ rfl hF hS
          refine e_all [2, 6] (by kernel_rfl) rfl ⟨?_, ?_, trivial⟩
          · refine e_call (vs := [(.agg #[(.int .i64 t_12.Num), (.int .i64 t_12.Den)]), (.agg #[(.int .i64 p_a.Num), (.int .i64 p_a.Den)])]) hF hS rfl Try.func34 (by kernel_rfl) rfl rfl rfl (c_spec_fSub t_12 p_a t_13 ht_13 _ m hS.vis) ?_
            rintro a w _ rfl hF hS
            refine e_p (v := (.tuple #[(.agg #[(.int .i64 t_13.1.Num), (.int .i64 t_13.1.Den)]), (.bool t_13.2)])) 3 hF rfl (ex_move rfl) rfl rfl (by kernel_rfl) (by kernel_rfl) (by kernel_rfl) fun a hF => ?_
            refine e_p (v := (.agg #[(.int .i64 t_13.1.Num), (.int .i64 t_13.1.Den)])) 4 hF rfl (ex_extract rfl rfl) rfl rfl (by kernel_rfl) (by kernel_rfl) (by kernel_rfl) fun a hF => ?_
            refine e_p (v := (.bool t_13.2)) 5 hF rfl (ex_extract rfl rfl) rfl rfl (by kernel_rfl) (by kernel_rfl) (by kernel_rfl) fun a hF => ?_
            refine e_one 6 (by kernel_rfl) ?_
            refine e_alloc (cs := [(.int .i64 0), (.int .i64 0)]) hF hS rfl rfl rfl rfl fun a w b14 hF hS => ?_
            refine e_one 7 (by kernel_rfl) ?_
            refine e_store (vs := [(.int .i64 t_13.1.Num), (.int .i64 t_13.1.Den)]) (cs' := [(.int .i64 t_13.1.Num), (.int .i64 t_13.1.Den)]) 0 0 hF hS rfl rfl sz24 rfl rfl rfl rfl rfl rfl rfl rfl fun a w hF hS => ?_
            refine e_p (v := (.bool t_13.2)) 8 hF rfl (ex_assign rfl) rfl rfl (by kernel_rfl) (by kernel_rfl) (by kernel_rfl) fun a hF => ?_
            refine e_end (by kernel_rfl) (n_jn ?_) _
            obtain rfl := someI hj3
            exact ⟨b14, hF.sub ⟨rfl, rfl, rfl, rfl, trivial⟩, hS.mask [true, true, true, false]⟩
          · refine e_alloc (cs := [(.int .i64 0), (.int .i64 0)]) hF hS rfl rfl rfl rfl fun a w b14 hF hS => ?_
            refine e_one 2 (by kernel_rfl) ?_
            refine e_call (vs := [(.agg #[(.int .i64 t_12.Num), (.int .i64 t_12.Den)]), (.agg #[(.int .i64 p_a.Num), (.int .i64 p_a.Den)])]) hF hS rfl Try.func34 (by kernel_rfl) rfl rfl rfl (c_spec_fSub t_12 p_a t_13 ht_13 _ m hS.vis) ?_
            rintro a w _ rfl hF hS
            refine e_p (v := (.tuple #[(.agg #[(.int .i64 t_13.1.Num), (.int .i64 t_13.1.Den)]), (.bool t_13.2)])) 3 hF rfl (ex_move rfl) rfl rfl (by kernel_rfl) (by kernel_rfl) (by kernel_rfl) fun a hF => ?_
            refine e_p (v := (.agg #[(.int .i64 t_13.1.Num), (.int .i64 t_13.1.Den)])) 4 hF rfl (ex_extract rfl rfl) rfl rfl (by kernel_rfl) (by kernel_rfl) (by kernel_rfl) fun a hF => ?_
            refine e_p (v := (.bool t_13.2)) 5 hF rfl (ex_extract rfl rfl) rfl rfl (by kernel_rfl) (by kernel_rfl) (by kernel_rfl) fun a hF => ?_
            refine e_one 7 (by kernel_rfl) ?_
            refine e_store (vs := [(.int .i64 t_13.1.Num), (.int .i64 t_13.1.Den)]) (cs' := [(.int .i64 t_13.1.Num), (.int .i64 t_13.1.Den)]) 0 0 hF hS rfl rfl sz24 rfl rfl rfl rfl rfl rfl rfl rfl fun a w hF hS => ?_
            refine e_p (v := (.bool t_13.2)) 8 hF rfl (ex_assign rfl) rfl rfl (by kernel_rfl) (by kernel_rfl) (by kernel_rfl) fun a hF => ?_
            refine e_end (by kernel_rfl) (n_jn ?_) _
            obtain rfl := someI hj3
            exact ⟨b14, hF.sub ⟨rfl, rfl, rfl, rfl, trivial⟩, hS.mask [true, true, true, false]⟩
        · refine e_alloc (cs := [(.int .i64 0), (.int .i64 0)]) hF hS rfl rfl rfl rfl fun a w b14 hF hS => ?_
          refine e_one 0 (by kernel_rfl) ?_
          refine e_call (vs := [(.int .i64 1)]) hF hS rfl Try.func29 (by kernel_rfl) rfl rfl rfl (c_spec_fInt 1 t_12 ht_12 _ m hS.vis) ?_
          rintro a w _ rfl hF hS
          refine e_one 2 (by kernel_rfl) ?_
          refine e_call (vs := [(.agg #[(.int .i64 t_12.Num), (.int .i64 t_12.Den)]), (.agg #[(.int .i64 p_a.Num), (.int .i64 p_a.Den)])]) hF hS rfl Try.func34 (by kernel_rfl) rfl rfl rfl (c_spec_fSub t_12 p_a t_13 ht_13 _ m hS.vis) ?_
          rintro a w _ rfl hF hS
          refine e_p (v := (.tuple #[(.agg #[(.int .i64 t_13.1.Num), (.int .i64 t_13.1.Den)]), (.bool t_13.2)])) 3 hF rfl (ex_move rfl) rfl rfl (by kernel_rfl) (by kernel_rfl) (by kernel_rfl) fun a hF => ?_
          refine e_p (v := (.agg #[(.int .i64 t_13.1.Num), (.int .i64 t_13.1.Den)])) 4 hF rfl (ex_extract rfl rfl) rfl rfl (by kernel_rfl) (by kernel_rfl) (by kernel_rfl) fun a hF => ?_
          refine e_p (v := (.bool t_13.2)) 5 hF rfl (ex_extract rfl rfl) rfl rfl (by kernel_rfl) (by kernel_rfl) (by kernel_rfl) fun a hF => ?_
          refine e_one 7 (by kernel_rfl) ?_
          refine e_store (vs := [(.int .i64 t_13.1.Num), (.int .i64 t_13.1.Den)]) (cs' := [(.int .i64 t_13.1.Num), (.int .i64 t_13.1.Den)]) 0 0 hF hS rfl rfl sz24 rfl rfl rfl rfl rfl rfl rfl rfl fun a w hF hS => ?_
          refine e_p (v := (.bool t_13.2)) 8 hF rfl (ex_assign rfl) rfl rfl (by kernel_rfl) (by kernel_rfl) (by kernel_rfl) fun a hF => ?_
          refine e_end (by kernel_rfl) (n_jn ?_) _
          obtain rfl := someI hj3
          exact ⟨b14, hF.sub ⟨rfl, rfl, rfl, rfl, trivial⟩, hS.mask [true, true, true, false]⟩
      · rintro a w ⟨b14, hF, hS⟩
        refine n_sq ?_
        refine q_seq ?_
        refine q_region ?_
        refine q_x (v := (.agg #[(.int .i64 d_15.Num), (.int .i64 d_15.Den)])) hF hS (ex_loadA (vs := [(.int .i64 d_15.Num), (.int .i64 d_15.Den)]) 0 0 Try.underlying24 rfl sz24 rfl rfl rfl rfl) rfl rfl fun a hF => ?_
        obtain ⟨t_16, ht_16, hr⟩ := bindS hr
        refine q_call (vs := [(.agg #[(.int .i64 d_15.Num), (.int .i64 d_15.Den)]), (.int .i64 2)]) hF hS Try.func30 (by kernel_rfl) rfl rfl rfl (c_spec_fPow d_15 2 t_16 ht_16 _ m hS.vis) ?_
        rintro a w _ rfl hF hS
        refine q_x (v := (.tuple #[(.agg #[(.int .i64 t_16.1.Num), (.int .i64 t_16.1.Den)]), (.bool t_16.2)])) hF hS (ex_move rfl) rfl rfl fun a hF => ?_
        refine q_x (v := (.agg #[(.int .i64 t_16.1.Num), (.int .i64 t_16.1.Den)])) hF hS (ex_extract rfl rfl) rfl rfl fun a hF => ?_
        refine q_x (v := (.bool t_16.2)) hF hS (ex_extract rfl rfl) rfl rfl fun a hF => ?_
        refine q_alloc (cs := [(.int .i64 0), (.int .i64 0)]) hF hS rfl rfl rfl fun a w b17 hF hS => ?_
        refine q_store (vs := [(.int .i64 t_16.1.Num), (.int .i64 t_16.1.Den)]) (cs' := [(.int .i64 t_16.1.Num), (.int .i64 t_16.1.Den)]) 0 0 hF hS sz24 rfl rfl rfl rfl rfl rfl rfl rfl fun a w hF hS => ?_
        refine q_x (v := (.bool t_16.2)) hF hS (ex_assign rfl) rfl rfl fun a hF => ?_
        refine q_end (n_sq ?_)
        refine q_seq ?_
        refine q_seq ?_
        obtain ⟨t_18, hj4, hr⟩ := bindS hr
        refine q_join (fun a w => Fr a 43 [(2, (.pointer (some ⟨b2, 0, none⟩))), (4, (.pointer (some ⟨b7, 0, none⟩))), (8, (.pointer (some ⟨b17, 0, none⟩))), (36, (.bool t_18))] ∧ St [] w0 w m [[⟨b17, [(.int .i64 t_16.1.Num), (.int .i64 t_16.1.Den)], 24⟩], [⟨b7, [(.int .i64 x_9.Num), (.int .i64 x_9.Den)], 24⟩], [⟨b2, [(.int .i64 0), (.int .i64 0)], 24⟩]]) ?_ ?_
        · refine q_region ?_
          refine q_x (v := (.bool one_8)) hF hS (ex_move rfl) rfl rfl fun a hF => ?_
          refine q_x (v := (.bool (!one_8))) hF hS (ex_not rfl) rfl rfl fun a hF => ?_
          refine q_x (v := (.bool (!one_8))) hF hS (ex_move rfl) rfl rfl fun a hF => ?_
          rcases hc5 : (!one_8) with _ | _
          · have hj4 := cond_f hc5 hj4
            refine q_xg (v := (.bool t_16.2)) hF hS (ex_move rfl) (wanted_t hF rfl rfl rfl hc5) rfl fun a hF => ?_
            refine q_xg (v := (.bool (!t_16.2))) hF hS (ex_not rfl) (wanted_t hF rfl rfl rfl hc5) rfl fun a hF => ?_
            refine q_x (v := (.bool (!t_16.2))) hF hS (ex_pick_f rfl rfl hc5) rfl rfl fun a hF => ?_
            refine q_end (n_jn ?_)
            obtain rfl := someI hj4
            exact ⟨hF.sub ⟨rfl, rfl, rfl, rfl, trivial⟩, hS.mask [true, false, true, true]⟩
          · have hj4 := cond_t hc5 hj4
            refine q_skip hF (wanted_f hF rfl rfl rfl hc5 rfl) rfl fun a hF => ?_
            refine q_skip hF (wanted_f hF rfl rfl rfl hc5 rfl) rfl fun a hF => ?_
            refine q_x (v := (.bool true)) hF hS (ex_pick_t rfl rfl hc5) rfl rfl fun a hF => ?_
            refine q_end (n_jn ?_)
            obtain rfl := someI hj4
            exact ⟨hF.sub ⟨rfl, rfl, rfl, rfl, trivial⟩, hS.mask [true, false, true, true]⟩
        · rintro a w ⟨hF, hS⟩
          refine n_sq ?_
          rcases hc6 : (t_18) with _ | _
          · have hr := cond_f hc6 hr
            refine q_cond_f hF rfl hc6 ?_
            refine q_skipc (n_sq ?_)
            refine q_seq ?_
            refine q_region ?_
            refine q_x (v := (.agg #[(.int .i64 x_9.Num), (.int .i64 x_9.Den)])) hF hS (ex_loadA (vs := [(.int .i64 x_9.Num), (.int .i64 x_9.Den)]) 1 0 Try.underlying24 rfl sz24 rfl rfl rfl rfl) rfl rfl fun a hF => ?_
            refine q_x (v := (.agg #[(.int .i64 t_16.1.Num), (.int .i64 t_16.1.Den)])) hF hS (ex_loadA (vs := [(.int .i64 t_16.1.Num), (.int .i64 t_16.1.Den)]) 0 0 Try.underlying24 rfl sz24 rfl rfl rfl rfl) rfl rfl fun a hF => ?_
            obtain ⟨t_19, ht_19, hr⟩ := bindS hr
            refine q_call (vs := [(.agg #[(.int .i64 x_9.Num), (.int .i64 x_9.Den)]), (.agg #[(.int .i64 t_16.1.Num), (.int .i64 t_16.1.Den)])]) hF hS Try.func28 (by kernel_rfl) rfl rfl rfl (c_spec_fDiv x_9 t_16.1 t_19 ht_19 _ m hS.vis) ?_
            rintro a w _ rfl hF hS
            refine q_x (v := (.agg #[(.int .i64 t_19.1.Num), (.int .i64 t_19.1.Den)])) hF hS (ex_extract rfl rfl) rfl rfl fun a hF => ?_
            refine q_x (v := (.bool t_19.2)) hF hS (ex_extract rfl rfl) rfl rfl fun a hF => ?_
            refine q_store (vs := [(.int .i64 t_19.1.Num), (.int .i64 t_19.1.Den)]) (cs' := [(.int .i64 t_19.1.Num), (.int .i64 t_19.1.Den)]) 2 0 hF hS sz24 rfl rfl rfl rfl rfl rfl rfl rfl fun a w hF hS => ?_
            refine q_x (v := (.bool t_19.2)) hF hS (ex_assign rfl) rfl rfl fun a hF => ?_
            refine q_end (n_sq (q_ret ?_))
            obtain rfl := someI hr
            exact ret_of hF hS rfl (.cellA (us := [(.int .i64 t_19.1.Num), (.int .i64 t_19.1.Den)]) 2 0 Try.underlying24 rfl sz24 rfl rfl rfl rfl (.tmp rfl .nil)) rfl
          · have hr := cond_t hc6 hr
            refine q_cond_t hF rfl hc6 ?_
            refine q_seq ?_
            refine q_region ?_
            refine q_x (v := (.agg #[(.int .i64 0), (.int .i64 0)])) hF hS (ex_build (cells := [(.int .i64 0), (.int .i64 0)]) rfl (by kernel_rfl)) rfl rfl fun a hF => ?_
            refine q_store (vs := [(.int .i64 0), (.int .i64 0)]) (cs' := [(.int .i64 0), (.int .i64 0)]) 2 0 hF hS sz24 rfl rfl rfl rfl rfl rfl rfl rfl fun a w hF hS => ?_
            refine q_x (v := (.bool false)) hF hS (ex_assign rfl) rfl rfl fun a hF => ?_
            refine q_end (n_sq (q_ret (r_sq ?_)))
            obtain rfl := someI hr
            exact ret_of hF hS rfl (.cellA (us := [(.int .i64 0), (.int .i64 0)]) 2 0 Try.underlying24 rfl sz24 rfl rfl rfl rfl (.tmp rfl .nil)) rfl
  · have hr := cond_t hc1 hr
    refine q_cond_t hF rfl hc1 ?_
    refine q_seq ?_
    refine q_region ?_
    refine q_x (v := (.agg #[(.int .i64 0), (.int .i64 0)])) hF hS (ex_build (cells := [(.int .i64 0), (.int .i64 0)]) rfl (by kernel_rfl)) rfl rfl fun a hF => ?_
    refine q_store (vs := [(.int .i64 0), (.int .i64 0)]) (cs' := [(.int .i64 0), (.int .i64 0)]) 0 0 hF hS sz24 rfl rfl rfl rfl rfl rfl rfl rfl fun a w hF hS => ?_
    refine q_x (v := (.bool false)) hF hS (ex_assign rfl) rfl rfl fun a hF => ?_
    refine q_end (n_sq (q_ret (r_sq ?_)))
    obtain rfl := someI hr
    exact ret_of hF hS rfl (.cellA (us := [(.int .i64 0), (.int .i64 0)]) 0 0 Try.underlying24 rfl sz24 rfl rfl rfl rfl (.tmp rfl .nil)) rfl

theorem c_impl_lessOne (p_a : impl_Frac) (r : impl_Frac) (hr : impl_lessOne p_a = some r) (w0 : World) (m : Mem) (hv : Vis m w0) :
    Ret Try.prog 36 [(.agg #[(.int .i64 p_a.Num), (.int .i64 p_a.Den)])] w0 fun v _ => v = (.agg #[(.int .i64 r.Num), (.int .i64 r.Den)]) := by
  unfold impl_lessOne at hr
  refine ret_start Try.func36 rfl 11 rfl rfl m hv fun a hF hS => ?_
  refine q_seq ?_
  refine q_region ?_
  refine q_box (cs := [(.int .i64 p_a.Num), (.int .i64 p_a.Den)]) hF hS rfl rfl rfl fun a w b1 hF hS => ?_
  refine q_alloc (cs := [(.int .i64 0), (.int .i64 0)]) hF hS rfl rfl rfl fun a w b2 hF hS => ?_
  refine q_end (n_sq ?_)
  refine q_seq ?_
  refine q_region ?_
  refine q_x (v := (.pointer (some ⟨b1, 1, none⟩))) hF hS (ex_fieldAddr Try.underlying24 rfl sz3 rfl rfl) rfl rfl fun a hF => ?_
  refine q_x (v := (.int .i64 p_a.Den)) hF hS (ex_load1 1 0 Try.underlying3 rfl rfl rfl rfl) rfl rfl fun a hF => ?_
  refine q_x (v := (.pointer (some ⟨b1, 0, none⟩))) hF hS (ex_fieldAddr Try.underlying24 rfl sz3 rfl rfl) rfl rfl fun a hF => ?_
  refine q_x (v := (.int .i64 p_a.Num)) hF hS (ex_load1 1 0 Try.underlying3 rfl rfl rfl rfl) rfl rfl fun a hF => ?_
  refine q_x (v := (.int .i64 (w64 (p_a.Den - p_a.Num)))) hF hS (ex_ibin rfl rfl rfl) rfl rfl fun a hF => ?_
  refine q_x (v := (.pointer (some ⟨b1, 1, none⟩))) hF hS (ex_fieldAddr Try.underlying24 rfl sz3 rfl rfl) rfl rfl fun a hF => ?_
  refine q_x (v := (.int .i64 p_a.Den)) hF hS (ex_load1 1 0 Try.underlying3 rfl rfl rfl rfl) rfl rfl fun a hF => ?_
  refine q_x (v := (.agg #[(.int .i64 (w64 (p_a.Den - p_a.Num))), (.int .i64 p_a.Den)])) hF hS (ex_build (cells := [(.int .i64 (w64 (p_a.Den - p_a.Num))), (.int .i64 p_a.Den)]) rfl (by kernel_rfl)) rfl rfl fun a hF => ?_
  refine q_store (vs := [(.int .i64 (w64 (p_a.Den - p_a.Num))), (.int .i64 p_a.Den)]) (cs' := [(.int .i64 (w64 (p_a.Den - p_a.Num))), (.int .i64 p_a.Den)]) 0 0 hF hS sz24 rfl rfl rfl rfl rfl rfl rfl rfl fun a w hF hS => ?_
  refine q_end (n_sq (q_ret ?_))
  obtain rfl := someI hr
  exact ret_of hF hS rfl (.cellA (us := [(.int .i64 (w64 (p_a.Den - p_a.Num))), (.int .i64 p_a.Den)]) 0 0 Try.underlying24 rfl sz24 rfl rfl rfl rfl .nil) rfl

theorem c_impl_DivFrac (p_a : impl_Frac) (p_b : impl_Frac) (r : impl_Frac × Bool) (hr : impl_DivFrac p_a p_b = some r) (w0 : World) (m : Mem) (hv : Vis m w0) :
    Ret Try.prog 37 [(.agg #[(.int .i64 p_a.Num), (.int .i64 p_a.Den)]), (.agg #[(.int .i64 p_b.Num), (.int .i64 p_b.Den)])] w0 fun v _ => v = (.tuple #[(.agg #[(.int .i64 r.1.Num), (.int .i64 r.1.Den)]), (.bool r.2)]) := by
  unfold impl_DivFrac at hr
  refine ret_start Try.func37 rfl 33 rfl rfl m hv fun a hF hS => ?_
  refine q_seq ?_
  refine q_region ?_
  refine q_box (cs := [(.int .i64 p_a.Num), (.int .i64 p_a.Den)]) hF hS rfl rfl rfl fun a w b1 hF hS => ?_
  refine q_box (cs := [(.int .i64 p_b.Num), (.int .i64 p_b.Den)]) hF hS rfl rfl rfl fun a w b2 hF hS => ?_
  refine q_alloc (cs := [(.int .i64 0), (.int .i64 0)]) hF hS rfl rfl rfl fun a w b3 hF hS => ?_
  refine q_x (v := (.bool false)) hF hS (ex_assign rfl) rfl rfl fun a hF => ?_
  refine q_end (n_sq ?_)
  refine q_seq ?_
  refine q_seq ?_
  obtain ⟨t_6, hj1, hr⟩ := bindS hr
  refine q_join (fun a w => Fr a 33 [(2, (.pointer (some ⟨b1, 0, none⟩))), (3, (.pointer (some ⟨b2, 0, none⟩))), (4, (.pointer (some ⟨b3, 0, none⟩))), (18, (.bool t_6))] ∧ St [] w0 w m [[⟨b3, [(.int .i64 0), (.int .i64 0)], 24⟩], [⟨b2, [(.int .i64 p_b.Num), (.int .i64 p_b.Den)], 24⟩], [⟨b1, [(.int .i64 p_a.Num), (.int .i64 p_a.Den)], 24⟩]]) ?_ ?_
  · refine q_region ?_
    refine q_x (v := (.agg #[(.int .i64 p_a.Num), (.int .i64 p_a.Den)])) hF hS (ex_loadA (vs := [(.int .i64 p_a.Num), (.int .i64 p_a.Den)]) 2 0 Try.underlying24 rfl sz24 rfl rfl rfl rfl) rfl rfl fun a hF => ?_
    obtain ⟨t_4, ht_4, hj1⟩ := bindS hj1
    refine q_call (vs := [(.agg #[(.int .i64 p_a.Num), (.int .i64 p_a.Den)])]) hF hS Try.func45 (by kernel_rfl) rfl rfl rfl (c_impl_IsFrac p_a t_4 ht_4 _ m hS.vis) ?_
    rintro a w _ rfl hF hS
    refine q_x (v := (.bool (!t_4))) hF hS (ex_not rfl) rfl rfl fun a hF => ?_
    refine q_x (v := (.bool (!t_4))) hF hS (ex_move rfl) rfl rfl fun a hF => ?_
    rcases hc2 : (!t_4) with _ | _
    · have hj1 := cond_f hc2 hj1
      refine q_xg (v := (.agg #[(.int .i64 p_b.Num), (.int .i64 p_b.Den)])) hF hS (ex_loadA (vs := [(.int .i64 p_b.Num), (.int .i64 p_b.Den)]) 1 0 Try.underlying24 rfl sz24 rfl rfl rfl rfl) (wanted_t hF rfl rfl rfl hc2) rfl fun a hF => ?_
      obtain ⟨t_5, ht_5, hj1⟩ := bindS hj1
      refine q_callg (vs := [(.agg #[(.int .i64 p_b.Num), (.int .i64 p_b.Den)])]) hF hS (wanted_t hF rfl rfl rfl hc2) Try.func45 (by kernel_rfl) rfl rfl rfl (c_impl_IsFrac p_b t_5 ht_5 _ m hS.vis) ?_
      rintro a w _ rfl hF hS
      refine q_xg (v := (.bool (!t_5))) hF hS (ex_not rfl) (wanted_t hF rfl rfl rfl hc2) rfl fun a hF => ?_
      refine q_x (v := (.bool (!t_5))) hF hS (ex_pick_f rfl rfl hc2) rfl rfl fun a hF => ?_
      refine q_x (v := (.bool (!t_5))) hF hS (ex_move rfl) rfl rfl fun a hF => ?_
      rcases hc3 : (!t_5) with _ | _
      · have hj1 := cond_f hc3 hj1
        refine q_xg (v := (.pointer (some ⟨b2, 0, none⟩))) hF hS (ex_fieldAddr Try.underlying24 rfl sz3 rfl rfl) (wanted_t hF rfl rfl rfl hc3) rfl fun a hF => ?_
        refine q_xg (v := (.int .i64 p_b.Num)) hF hS (ex_load1 1 0 Try.underlying3 rfl rfl rfl rfl) (wanted_t hF rfl rfl rfl hc3) rfl fun a hF => ?_
        refine q_xg (v := (.bool (p_b.Num == 0))) hF hS (ex_ibin rfl rfl rfl) (wanted_t hF rfl rfl rfl hc3) rfl fun a hF => ?_
        refine q_x (v := (.bool (p_b.Num == 0))) hF hS (ex_pick_f rfl rfl hc3) rfl rfl fun a hF => ?_
        refine q_end (n_jn ?_)
        obtain rfl := someI hj1
        exact ⟨hF.sub ⟨rfl, rfl, rfl, rfl, trivial⟩, hS⟩
      · have hj1 := cond_t hc3 hj1
        refine q_skip hF (wanted_f hF rfl rfl rfl hc3 rfl) rfl fun a hF => ?_
        refine q_skip hF (wanted_f hF rfl rfl rfl hc3 rfl) rfl fun a hF => ?_
        refine q_skip hF (wanted_f hF rfl rfl rfl hc3 rfl) rfl fun a hF => ?_
        refine q_x (v := (.bool true)) hF hS (ex_pick_t rfl rfl hc3) rfl rfl fun a hF => ?_
        refine q_end (n_jn ?_)
        obtain rfl := someI hj1
        exact ⟨hF.sub ⟨rfl, rfl, rfl, rfl, trivial⟩, hS⟩
    · have hj1 := cond_t hc2 hj1
      refine q_skip hF (wanted_f hF rfl rfl rfl hc2 rfl) rfl fun a hF => ?_
      refine q_skip hF (wanted_f hF rfl rfl rfl hc2 rfl) rfl fun a hF => ?_
      refine q_skip hF (wanted_f hF rfl rfl rfl hc2 rfl) rfl fun a hF => ?_
      refine q_x (v := (.bool true)) hF hS (ex_pick_t rfl rfl hc2) rfl rfl fun a hF => ?_
      refine q_x (v := (.bool true)) hF hS (ex_move rfl) rfl rfl fun a hF => ?_
      refine q_skip hF (wanted_f hF rfl rfl rfl rfl rfl) rfl fun a hF => ?_
      refine q_skip hF (wanted_f hF rfl rfl rfl rfl rfl) rfl fun a hF => ?_
      refine q_skip hF (wanted_f hF rfl rfl rfl rfl rfl) rfl fun a hF => ?_
      refine q_x (v := (.bool true)) hF hS (ex_pick_t rfl rfl rfl) rfl rfl fun a hF => ?_
      refine q_end (n_jn ?_)
      obtain rfl := someI hj1
      exact ⟨hF.sub ⟨rfl, rfl, rfl, rfl, trivial⟩, hS⟩
  · rintro a w ⟨hF, hS⟩
    refine n_sq ?_
    rcases hc4 : (t_6) with _ | _
    · have hr := cond_f hc4 hr
      refine q_cond_f hF rfl hc4 ?_
      refine q_skipc (n_sq ?_)
      refine q_seq ?_
      refine q_region ?_
      refine q_x (v := (.pointer (some ⟨b1, 0, none⟩))) hF hS (ex_fieldAddr Try.underlying24 rfl sz3 rfl rfl) rfl rfl fun a hF => ?_
      refine q_x (v := (.int .i64 p_a.Num)) hF hS (ex_load1 2 0 Try.underlying3 rfl rfl rfl rfl) rfl rfl fun a hF => ?_
      refine q_x (v := (.pointer (some ⟨b2, 1, none⟩))) hF hS (ex_fieldAddr Try.underlying24 rfl sz3 rfl rfl) rfl rfl fun a hF => ?_
      refine q_x (v := (.int .i64 p_b.Den)) hF hS (ex_load1 1 0 Try.underlying3 rfl rfl rfl rfl) rfl rfl fun a hF => ?_
      refine q_x (v := (.int .i64 (w64 (p_a.Num * p_b.Den)))) hF hS (ex_ibin rfl rfl rfl) rfl rfl fun a hF => ?_
      refine q_x (v := (.pointer (some ⟨b1, 1, none⟩))) hF hS (ex_fieldAddr Try.underlying24 rfl sz3 rfl rfl) rfl rfl fun a hF => ?_
      refine q_x (v := (.int .i64 p_a.Den)) hF hS (ex_load1 2 0 Try.underlying3 rfl rfl rfl rfl) rfl rfl fun a hF => ?_
      refine q_x (v := (.pointer (some ⟨b2, 0, none⟩))) hF hS (ex_fieldAddr Try.underlying24 rfl sz3 rfl rfl) rfl rfl fun a hF => ?_
      refine q_x (v := (.int .i64 p_b.Num)) hF hS (ex_load1 1 0 Try.underlying3 rfl rfl rfl rfl) rfl rfl fun a hF => ?_
      refine q_x (v := (.int .i64 (w64 (p_a.Den * p_b.Num)))) hF hS (ex_ibin rfl rfl rfl) rfl rfl fun a hF => ?_
      obtain ⟨t_7, ht_7, hr⟩ := bindS hr
      refine q_call (vs := [(.int .i64 (w64 (p_a.Num * p_b.Den))), (.int .i64 (w64 (p_a.Den * p_b.Num)))]) hF hS Try.func47 (by kernel_rfl) rfl rfl rfl (c_impl_reduced (w64 (p_a.Num * p_b.Den)) (w64 (p_a.Den * p_b.Num)) t_7 ht_7 _ m hS.vis) ?_
      rintro a w _ rfl hF hS
      refine q_x (v := (.agg #[(.int .i64 t_7.1.Num), (.int .i64 t_7.1.Den)])) hF hS (ex_extract rfl rfl) rfl rfl fun a hF => ?_
      refine q_x (v := (.bool t_7.2)) hF hS (ex_extract rfl rfl) rfl rfl fun a hF => ?_
      refine q_store (vs := [(.int .i64 t_7.1.Num), (.int .i64 t_7.1.Den)]) (cs' := [(.int .i64 t_7.1.Num), (.int .i64 t_7.1.Den)]) 0 0 hF hS sz24 rfl rfl rfl rfl rfl rfl rfl rfl fun a w hF hS => ?_
      refine q_x (v := (.bool t_7.2)) hF hS (ex_assign rfl) rfl rfl fun a hF => ?_
      refine q_end (n_sq (q_ret ?_))
      obtain rfl := someI hr
      exact ret_of hF hS rfl (.cellA (us := [(.int .i64 t_7.1.Num), (.int .i64 t_7.1.Den)]) 0 0 Try.underlying24 rfl sz24 rfl rfl rfl rfl (.tmp rfl .nil)) rfl
    · have hr := cond_t hc4 hr
      refine q_cond_t hF rfl hc4 ?_
      refine q_seq ?_
      refine q_region ?_
      refine q_x (v := (.agg #[(.int .i64 0), (.int .i64 0)])) hF hS (ex_build (cells := [(.int .i64 0), (.int .i64 0)]) rfl (by kernel_rfl)) rfl rfl fun a hF => ?_
      refine q_store (vs := [(.int .i64 0), (.int .i64 0)]) (cs' := [(.int .i64 0), (.int .i64 0)]) 0 0 hF hS sz24 rfl rfl rfl rfl rfl rfl rfl rfl fun a w hF hS => ?_
      refine q_x (v := (.bool false)) hF hS (ex_assign rfl) rfl rfl fun a hF => ?_
      refine q_end (n_sq (q_ret (r_sq ?_)))
      obtain rfl := someI hr
      exact ret_of hF hS rfl (.cellA (us := [(.int .i64 0), (.int .i64 0)]) 0 0 Try.underlying24 rfl sz24 rfl rfl rfl rfl (.tmp rfl .nil)) rfl

theorem c_impl_VarianceOf (p_a : impl_Frac) (r : impl_Frac × Bool) (hr : impl_VarianceOf p_a = some r) (w0 : World) (m : Mem) (hv : Vis m w0) :
    Ret Try.prog 15 [(.agg #[(.int .i64 p_a.Num), (.int .i64 p_a.Den)])] w0 fun v _ => v = (.tuple #[(.agg #[(.int .i64 r.1.Num), (.int .i64 r.1.Den)]), (.bool r.2)]) := by
  unfold impl_VarianceOf at hr
  refine ret_start Try.func15 rfl 34 rfl rfl m hv fun a hF hS => ?_
  refine q_seq ?_
  refine q_region ?_
  refine q_box (cs := [(.int .i64 p_a.Num), (.int .i64 p_a.Den)]) hF hS rfl rfl rfl fun a w b1 hF hS => ?_
  refine q_alloc (cs := [(.int .i64 0), (.int .i64 0)]) hF hS rfl rfl rfl fun a w b2 hF hS => ?_
  refine q_x (v := (.bool false)) hF hS (ex_assign rfl) rfl rfl fun a hF => ?_
  refine q_end (n_sq ?_)
  refine q_seq ?_
  refine q_seq ?_
  refine q_region ?_
  refine q_x (v := (.agg #[(.int .i64 p_a.Num), (.int .i64 p_a.Den)])) hF hS (ex_loadA (vs := [(.int .i64 p_a.Num), (.int .i64 p_a.Den)]) 1 0 Try.underlying24 rfl sz24 rfl rfl rfl rfl) rfl rfl fun a hF => ?_
  obtain ⟨t_3, ht_3, hr⟩ := bindS hr
  refine q_call (vs := [(.agg #[(.int .i64 p_a.Num), (.int .i64 p_a.Den)])]) hF hS Try.func31 (by kernel_rfl) rfl rfl rfl (c_impl_isRatio p_a t_3 ht_3 _ m hS.vis) ?_
  rintro a w _ rfl hF hS
  refine q_x (v := (.bool (!t_3))) hF hS (ex_not rfl) rfl rfl fun a hF => ?_
  refine q_end (n_sq ?_)
  rcases hc1 : (!t_3) with _ | _
  · have hr := cond_f hc1 hr
    refine q_cond_f hF rfl hc1 ?_
    refine q_skipc (n_sq ?_)
    refine q_seq ?_
    refine q_region ?_
    refine q_x (v := (.agg #[(.int .i64 2), (.int .i64 1)])) hF hS (ex_build (cells := [(.int .i64 2), (.int .i64 1)]) rfl (by kernel_rfl)) rfl rfl fun a hF => ?_
    refine q_x (v := (.agg #[(.int .i64 p_a.Num), (.int .i64 p_a.Den)])) hF hS (ex_loadA (vs := [(.int .i64 p_a.Num), (.int .i64 p_a.Den)]) 1 0 Try.underlying24 rfl sz24 rfl rfl rfl rfl) rfl rfl fun a hF => ?_
    obtain ⟨t_4, ht_4, hr⟩ := bindS hr
    refine q_call (vs := [(.agg #[(.int .i64 2), (.int .i64 1)]), (.agg #[(.int .i64 p_a.Num), (.int .i64 p_a.Den)])]) hF hS Try.func35 (by kernel_rfl) rfl rfl rfl (c_impl_MulFrac (impl_Frac.mk 2 1) p_a t_4 ht_4 _ m hS.vis) ?_
    rintro a w _ rfl hF hS
    refine q_x (v := (.tuple #[(.agg #[(.int .i64 t_4.1.Num), (.int .i64 t_4.1.Den)]), (.bool t_4.2)])) hF hS (ex_move rfl) rfl rfl fun a hF => ?_
    refine q_x (v := (.agg #[(.int .i64 t_4.1.Num), (.int .i64 t_4.1.Den)])) hF hS (ex_extract rfl rfl) rfl rfl fun a hF => ?_
    refine q_x (v := (.bool t_4.2)) hF hS (ex_extract rfl rfl) rfl rfl fun a hF => ?_
    refine q_alloc (cs := [(.int .i64 0), (.int .i64 0)]) hF hS rfl rfl rfl fun a w b5 hF hS => ?_
    refine q_store (vs := [(.int .i64 t_4.1.Num), (.int .i64 t_4.1.Den)]) (cs' := [(.int .i64 t_4.1.Num), (.int .i64 t_4.1.Den)]) 0 0 hF hS sz24 rfl rfl rfl rfl rfl rfl rfl rfl fun a w hF hS => ?_
    refine q_x (v := (.bool t_4.2)) hF hS (ex_assign rfl) rfl rfl fun a hF => ?_
    refine q_end (n_sq ?_)
    refine q_seq ?_
    refine q_seq ?_
    refine q_region ?_
    refine q_x (v := (.bool t_4.2)) hF hS (ex_move rfl) rfl rfl fun a hF => ?_
    refine q_x (v := (.bool (!t_4.2))) hF hS (ex_not rfl) rfl rfl fun a hF => ?_
    refine q_end (n_sq ?_)
    rcases hc2 : (!t_4.2) with _ | _
    · have hr := cond_f hc2 hr
      refine q_cond_f hF rfl hc2 ?_
      refine q_skipc (n_sq ?_)
      refine q_seq ?_
      refine q_region ?_
      refine q_x (v := (.agg #[(.int .i64 p_a.Num), (.int .i64 p_a.Den)])) hF hS (ex_loadA (vs := [(.int .i64 p_a.Num), (.int .i64 p_a.Den)]) 2 0 Try.underlying24 rfl sz24 rfl rfl rfl rfl) rfl rfl fun a hF => ?_
      obtain ⟨t_6, ht_6, hr⟩ := bindS hr
      refine q_call (vs := [(.agg #[(.int .i64 p_a.Num), (.int .i64 p_a.Den)])]) hF hS Try.func36 (by kernel_rfl) rfl rfl rfl (c_impl_lessOne p_a t_6 ht_6 _ m hS.vis) ?_
      rintro a w _ rfl hF hS
      obtain ⟨t_7, ht_7, hr⟩ := bindS hr
      refine q_call (vs := [(.agg #[(.int .i64 t_6.Num), (.int .i64 t_6.Den)]), (.int .i64 2)]) hF hS Try.func32 (by kernel_rfl) rfl rfl rfl (c_impl_PowFrac t_6 2 t_7 ht_7 _ m hS.vis) ?_
      rintro a w _ rfl hF hS
      refine q_x (v := (.tuple #[(.agg #[(.int .i64 t_7.1.Num), (.int .i64 t_7.1.Den)]), (.bool t_7.2)])) hF hS (ex_move rfl) rfl rfl fun a hF => ?_
      refine q_x (v := (.agg #[(.int .i64 t_7.1.Num), (.int .i64 t_7.1.Den)])) hF hS (ex_extract rfl rfl) rfl rfl fun a hF => ?_
      refine q_x (v := (.bool t_7.2)) hF hS (ex_extract rfl rfl) rfl rfl fun a hF => ?_
      refine q_alloc (cs := [(.int .i64 0), (.int .i64 0)]) hF hS rfl rfl rfl fun a w b8 hF hS => ?_
      refine q_store (vs := [(.int .i64 t_7.1.Num), (.int .i64 t_7.1.Den)]) (cs' := [(.int .i64 t_7.1.Num), (.int .i64 t_7.1.Den)]) 0 0 hF hS sz24 rfl rfl rfl rfl rfl rfl rfl rfl fun a w hF hS => ?_
      refine q_x (v := (.bool t_7.2)) hF hS (ex_assign rfl) rfl rfl fun a hF => ?_
      refine q_end (n_sq ?_)
      refine q_seq ?_
      refine q_seq ?_
      refine q_region ?_
      refine q_x (v := (.bool t_7.2)) hF hS (ex_move rfl) rfl rfl fun a hF => ?_
      refine q_x (v := (.bool (!t_7.2))) hF hS (ex_not rfl) rfl rfl fun a hF => ?_
      refine q_end (n_sq ?_)
      rcases hc3 : (!t_7.2) with _ | _
      · have hr := cond_f hc3 hr
        refine q_cond_f hF rfl hc3 ?_
        refine q_skipc (n_sq ?_)
        refine q_seq ?_
        refine q_region ?_
        refine q_x (v := (.agg #[(.int .i64 t_4.1.Num), (.int .i64 t_4.1.Den)])) hF hS (ex_loadA (vs := [(.int .i64 t_4.1.Num), (.int .i64 t_4.1.Den)]) 1 0 Try.underlying24 rfl sz24 rfl rfl rfl rfl) rfl rfl fun a hF => ?_
        refine q_x (v := (.agg #[(.int .i64 t_7.1.Num), (.int .i64 t_7.1.Den)])) hF hS (ex_loadA (vs := [(.int .i64 t_7.1.Num), (.int .i64 t_7.1.Den)]) 0 0 Try.underlying24 rfl sz24 rfl rfl rfl rfl) rfl rfl fun a hF => ?_
        obtain ⟨t_9, ht_9, hr⟩ := bindS hr
        refine q_call (vs := [(.agg #[(.int .i64 t_4.1.Num), (.int .i64 t_4.1.Den)]), (.agg #[(.int .i64 t_7.1.Num), (.int .i64 t_7.1.Den)])]) hF hS Try.func37 (by kernel_rfl) rfl rfl rfl (c_impl_DivFrac t_4.1 t_7.1 t_9 ht_9 _ m hS.vis) ?_
        rintro a w _ rfl hF hS
        refine q_x (v := (.agg #[(.int .i64 t_9.1.Num), (.int .i64 t_9.1.Den)])) hF hS (ex_extract rfl rfl) rfl rfl fun a hF => ?_
        refine q_x (v := (.bool t_9.2)) hF hS (ex_extract rfl rfl) rfl rfl fun a hF => ?_
        refine q_store (vs := [(.int .i64 t_9.1.Num), (.int .i64 t_9.1.Den)]) (cs' := [(.int .i64 t_9.1.Num), (.int .i64 t_9.1.Den)]) 2 0 hF hS sz24 rfl rfl rfl rfl rfl rfl rfl rfl fun a w hF hS => ?_
        refine q_x (v := (.bool t_9.2)) hF hS (ex_assign rfl) rfl rfl fun a hF => ?_
        refine q_end (n_sq (q_ret ?_))
        obtain rfl := someI hr
        exact ret_of hF hS rfl (.cellA (us := [(.int .i64 t_9.1.Num), (.int .i64 t_9.1.Den)]) 2 0 Try.underlying24 rfl sz24 rfl rfl rfl rfl (.tmp rfl .nil)) rfl
      · have hr := cond_t hc3 hr
        refine q_cond_t hF rfl hc3 ?_
        refine q_seq ?_
        refine q_region ?_
        refine q_x (v := (.agg #[(.int .i64 0), (.int .i64 0)])) hF hS (ex_build (cells := [(.int .i64 0), (.int .i64 0)]) rfl (by kernel_rfl)) rfl rfl fun a hF => ?_
        refine q_store (vs := [(.int .i64 0), (.int .i64 0)]) (cs' := [(.int .i64 0), (.int .i64 0)]) 2 0 hF hS sz24 rfl rfl rfl rfl rfl rfl rfl rfl fun a w hF hS => ?_
        refine q_x (v := (.bool false)) hF hS (ex_assign rfl) rfl rfl fun a hF => ?_
        refine q_end (n_sq (q_ret (r_sq ?_)))
        obtain rfl := someI hr
        exact ret_of hF hS rfl (.cellA (us := [(.int .i64 0), (.int .i64 0)]) 2 0 Try.underlying24 rfl sz24 rfl rfl rfl rfl (.tmp rfl .nil)) rfl
    · have hr := cond_t hc2 hr
      refine q_cond_t hF rfl hc2 ?_
      refine q_seq ?_
      refine q_region ?_
      refine q_x (v := (.agg #[(.int .i64 0), (.int .i64 0)])) hF hS (ex_build (cells := [(.int .i64 0), (.int .i64 0)]) rfl (by kernel_rfl)) rfl rfl fun a hF => ?_
      refine q_store (vs := [(.int .i64 0), (.int .i64 0)]) (cs' := [(.int .i64 0), (.int .i64 0)]) 1 0 hF hS sz24 rfl rfl rfl rfl rfl rfl rfl rfl fun a w hF hS => ?_
      refine q_x (v := (.bool false)) hF hS (ex_assign rfl) rfl rfl fun a hF => ?_
      refine q_end (n_sq (q_ret (r_sq ?_)))
      obtain rfl := someI hr
      exact ret_of hF hS rfl (.cellA (us := [(.int .i64 0), (.int .i64 0)]) 1 0 Try.underlying24 rfl sz24 rfl rfl rfl rfl (.tmp rfl .nil)) rfl
  · have hr := cond_t hc1 hr
    refine q_cond_t hF rfl hc1 ?_
    refine q_seq ?_
    refine q_region ?_
    refine q_x (v := (.agg #[(.int .i64 0), (.int .i64 0)])) hF hS (ex_build (cells := [(.int .i64 0), (.int .i64 0)]) rfl (by kernel_rfl)) rfl rfl fun a hF => ?_
    refine q_store (vs := [(.int .i64 0), (.int .i64 0)]) (cs' := [(.int .i64 0), (.int .i64 0)]) 0 0 hF hS sz24 rfl rfl rfl rfl rfl rfl rfl rfl fun a w hF hS => ?_
    refine q_x (v := (.bool false)) hF hS (ex_assign rfl) rfl rfl fun a hF => ?_
    refine q_end (n_sq (q_ret (r_sq ?_)))
    obtain rfl := someI hr
    exact ret_of hF hS rfl (.cellA (us := [(.int .i64 0), (.int .i64 0)]) 0 0 Try.underlying24 rfl sz24 rfl rfl rfl rfl (.tmp rfl .nil)) rfl

theorem c_laws_FnExactVarianceOf (p_aA : laws_Frac) (r : Bool) (hr : laws_FnExactVarianceOf p_aA = some r) (w0 : World) (m : Mem) (hv : Vis m w0) :
    Ret Try.prog 5 [(.agg #[(.int .i64 p_aA.Num), (.int .i64 p_aA.Den)])] w0 fun v _ => v = (.bool r) := by
  unfold laws_FnExactVarianceOf at hr
  refine ret_start Try.func5 rfl 28 rfl rfl m hv fun a hF hS => ?_
  refine q_seq ?_
  refine q_region ?_
  refine q_box (cs := [(.int .i64 p_aA.Num), (.int .i64 p_aA.Den)]) hF hS rfl rfl rfl fun a w b1 hF hS => ?_
  refine q_x (v := (.bool false)) hF hS (ex_assign rfl) rfl rfl fun a hF => ?_
  refine q_end (n_sq ?_)
  refine q_seq ?_
  refine q_region ?_
  refine q_x (v := (.agg #[(.int .i64 p_aA.Num), (.int .i64 p_aA.Den)])) hF hS (ex_loadA (vs := [(.int .i64 p_aA.Num), (.int .i64 p_aA.Den)]) 0 0 Try.underlying23 rfl sz23 rfl rfl rfl rfl) rfl rfl fun a hF => ?_
  obtain ⟨t_2, ht_2, hr⟩ := bindS hr
  refine q_call (vs := [(.agg #[(.int .i64 p_aA.Num), (.int .i64 p_aA.Den)])]) hF hS Try.func9 (by kernel_rfl) rfl rfl rfl (c_laws_toFrac p_aA t_2 ht_2 _ m hS.vis) ?_
  rintro a w _ rfl hF hS
  obtain ⟨t_3, ht_3, hr⟩ := bindS hr
  refine q_call (vs := [(.agg #[(.int .i64 t_2.Num), (.int .i64 t_2.Den)])]) hF hS Try.func14 (by kernel_rfl) rfl rfl rfl (c_spec_VarianceOf t_2 t_3 ht_3 _ m hS.vis) ?_
  rintro a w _ rfl hF hS
  refine q_x (v := (.tuple #[(.agg #[(.int .i64 t_3.1.Num), (.int .i64 t_3.1.Den)]), (.bool t_3.2)])) hF hS (ex_move rfl) rfl rfl fun a hF => ?_
  refine q_x (v := (.agg #[(.int .i64 t_3.1.Num), (.int .i64 t_3.1.Den)])) hF hS (ex_extract rfl rfl) rfl rfl fun a hF => ?_
  refine q_x (v := (.bool t_3.2)) hF hS (ex_extract rfl rfl) rfl rfl fun a hF => ?_
  refine q_alloc (cs := [(.int .i64 0), (.int .i64 0)]) hF hS rfl rfl rfl fun a w b4 hF hS => ?_
  refine q_store (vs := [(.int .i64 t_3.1.Num), (.int .i64 t_3.1.Den)]) (cs' := [(.int .i64 t_3.1.Num), (.int .i64 t_3.1.Den)]) 0 0 hF hS sz24 rfl rfl rfl rfl rfl rfl rfl rfl fun a w hF hS => ?_
  refine q_x (v := (.bool t_3.2)) hF hS (ex_assign rfl) rfl rfl fun a hF => ?_
  refine q_end (n_sq ?_)
  refine q_seq ?_
  refine q_region ?_
  refine q_x (v := (.agg #[(.int .i64 p_aA.Num), (.int .i64 p_aA.Den)])) hF hS (ex_loadA (vs := [(.int .i64 p_aA.Num), (.int .i64 p_aA.Den)]) 1 0 Try.underlying23 rfl sz23 rfl rfl rfl rfl) rfl rfl fun a hF => ?_
  obtain ⟨t_5, ht_5, hr⟩ := bindS hr
  refine q_call (vs := [(.agg #[(.int .i64 p_aA.Num), (.int .i64 p_aA.Den)])]) hF hS Try.func9 (by kernel_rfl) rfl rfl rfl (c_laws_toFrac p_aA t_5 ht_5 _ m hS.vis) ?_
  rintro a w _ rfl hF hS
  obtain ⟨t_6, ht_6, hr⟩ := bindS hr
  refine q_call (vs := [(.agg #[(.int .i64 t_5.Num), (.int .i64 t_5.Den)])]) hF hS Try.func15 (by kernel_rfl) rfl rfl rfl (c_impl_VarianceOf t_5 t_6 ht_6 _ m hS.vis) ?_
  rintro a w _ rfl hF hS
  refine q_x (v := (.tuple #[(.agg #[(.int .i64 t_6.1.Num), (.int .i64 t_6.1.Den)]), (.bool t_6.2)])) hF hS (ex_move rfl) rfl rfl fun a hF => ?_
  refine q_x (v := (.agg #[(.int .i64 t_6.1.Num), (.int .i64 t_6.1.Den)])) hF hS (ex_extract rfl rfl) rfl rfl fun a hF => ?_
  refine q_x (v := (.bool t_6.2)) hF hS (ex_extract rfl rfl) rfl rfl fun a hF => ?_
  refine q_alloc (cs := [(.int .i64 0), (.int .i64 0)]) hF hS rfl rfl rfl fun a w b7 hF hS => ?_
  refine q_store (vs := [(.int .i64 t_6.1.Num), (.int .i64 t_6.1.Den)]) (cs' := [(.int .i64 t_6.1.Num), (.int .i64 t_6.1.Den)]) 0 0 hF hS sz24 rfl rfl rfl rfl rfl rfl rfl rfl fun a w hF hS => ?_
  refine q_x (v := (.bool t_6.2)) hF hS (ex_assign rfl) rfl rfl fun a hF => ?_
  refine q_end (n_sq ?_)
  refine q_seq ?_
  refine q_seq ?_
  obtain ⟨t_9, hj1, hr⟩ := bindS hr
  refine q_join (fun a w => Fr a 28 [(27, (.bool t_9))] ∧ St [] w0 w m []) ?_ ?_
  · refine q_region ?_
    refine q_x (v := (.agg #[(.int .i64 t_6.1.Num), (.int .i64 t_6.1.Den)])) hF hS (ex_loadA (vs := [(.int .i64 t_6.1.Num), (.int .i64 t_6.1.Den)]) 0 0 Try.underlying24 rfl sz24 rfl rfl rfl rfl) rfl rfl fun a hF => ?_
    refine q_x (v := (.agg #[(.int .i64 t_3.1.Num), (.int .i64 t_3.1.Den)])) hF hS (ex_loadA (vs := [(.int .i64 t_3.1.Num), (.int .i64 t_3.1.Den)]) 1 0 Try.underlying24 rfl sz24 rfl rfl rfl rfl) rfl rfl fun a hF => ?_
    obtain ⟨t_8, ht_8, hj1⟩ := bindS hj1
    refine q_call (vs := [(.agg #[(.int .i64 t_6.1.Num), (.int .i64 t_6.1.Den)]), (.agg #[(.int .i64 t_3.1.Num), (.int .i64 t_3.1.Den)])]) hF hS Try.func11 (by kernel_rfl) rfl rfl rfl (c_laws_eqFrac t_6.1 t_3.1 t_8 ht_8 _ m hS.vis) ?_
    rintro a w _ rfl hF hS
    refine q_x (v := (.bool (!t_8))) hF hS (ex_not rfl) rfl rfl fun a hF => ?_
    refine q_x (v := (.bool (!t_8))) hF hS (ex_move rfl) rfl rfl fun a hF => ?_
    rcases hc2 : (!t_8) with _ | _
    · have hj1 := cond_f hc2 hj1
      refine q_xg (v := (.bool t_6.2)) hF hS (ex_move rfl) (wanted_t hF rfl rfl rfl hc2) rfl fun a hF => ?_
      refine q_xg (v := (.bool t_3.2)) hF hS (ex_move rfl) (wanted_t hF rfl rfl rfl hc2) rfl fun a hF => ?_
      refine q_xg (v := (.bool (t_6.2 != t_3.2))) hF hS (ex_bne Try.underlying4 rfl rfl) (wanted_t hF rfl rfl rfl hc2) rfl fun a hF => ?_
      refine q_x (v := (.bool (t_6.2 != t_3.2))) hF hS (ex_pick_f rfl rfl hc2) rfl rfl fun a hF => ?_
      refine q_end (n_jn ?_)
      obtain rfl := someI hj1
      exact ⟨hF.sub ⟨rfl, trivial⟩, hS.mask [false, false, false]⟩
    · have hj1 := cond_t hc2 hj1
      refine q_skip hF (wanted_f hF rfl rfl rfl hc2 rfl) rfl fun a hF => ?_
      refine q_skip hF (wanted_f hF rfl rfl rfl hc2 rfl) rfl fun a hF => ?_
      refine q_skip hF (wanted_f hF rfl rfl rfl hc2 rfl) rfl fun a hF => ?_
      refine q_x (v := (.bool true)) hF hS (ex_pick_t rfl rfl hc2) rfl rfl fun a hF => ?_
      refine q_end (n_jn ?_)
      obtain rfl := someI hj1
      exact ⟨hF.sub ⟨rfl, trivial⟩, hS.mask [false, false, false]⟩
  · rintro a w ⟨hF, hS⟩
    refine n_sq ?_
    rcases hc3 : (t_9) with _ | _
    · have hr := cond_f hc3 hr
      refine q_cond_f hF rfl hc3 ?_
      refine q_skipc (n_sq ?_)
      refine q_seq ?_
      refine q_region ?_
      refine q_x (v := (.bool true)) hF hS (ex_assign rfl) rfl rfl fun a hF => ?_
      refine q_end (n_sq (q_ret ?_))
      obtain rfl := someI hr
      exact ret_of hF hS rfl (.tmp rfl .nil) rfl
    · have hr := cond_t hc3 hr
      refine q_cond_t hF rfl hc3 ?_
      refine q_seq ?_
      refine q_region ?_
      refine q_x (v := (.bool false)) hF hS (ex_assign rfl) rfl rfl fun a hF => ?_
      refine q_end (n_sq (q_ret (r_sq ?_)))
      obtain rfl := someI hr
      exact ret_of hF hS rfl (.tmp rfl .nil) rfl

theorem c_laws_toLoss (p_a : laws_Loss) (r : impl_Loss) (hr : laws_toLoss p_a = some r) (w0 : World) (m : Mem) (hv : Vis m w0) :
    Ret Try.prog 17 [(.agg #[(.int .i64 p_a.Ratio.Num), (.int .i64 p_a.Ratio.Den), (.int .i64 p_a.Rho.Num), (.int .i64 p_a.Rho.Den)])] w0 fun v _ => v = (.agg #[(.int .i64 r.Ratio.Num), (.int .i64 r.Ratio.Den), (.int .i64 r.Rho.Num), (.int .i64 r.Rho.Den)]) := by
  unfold laws_toLoss at hr
  refine ret_start Try.func17 rfl 13 rfl rfl m hv fun a hF hS => ?_
  refine q_seq ?_
  refine q_region ?_
  refine q_box (cs := [(.int .i64 p_a.Ratio.Num), (.int .i64 p_a.Ratio.Den), (.int .i64 p_a.Rho.Num), (.int .i64 p_a.Rho.Den)]) hF hS rfl rfl rfl fun a w b1 hF hS => ?_
  refine q_alloc (cs := [(.int .i64 0), (.int .i64 0), (.int .i64 0), (.int .i64 0)]) hF hS rfl rfl rfl fun a w b2 hF hS => ?_
  refine q_end (n_sq ?_)
  refine q_seq ?_
  refine q_region ?_
  refine q_alloc (cs := [(.int .i64 0), (.int .i64 0), (.int .i64 0), (.int .i64 0)]) hF hS rfl rfl rfl fun a w b3 hF hS => ?_
  refine q_end (n_sq ?_)
  refine q_seq ?_
  refine q_region ?_
  refine q_x (v := (.pointer (some ⟨b1, 0, none⟩))) hF hS (ex_fieldAddr Try.underlying33 rfl sz23 rfl rfl) rfl rfl fun a hF => ?_
  refine q_x (v := (.agg #[(.int .i64 p_a.Ratio.Num), (.int .i64 p_a.Ratio.Den)])) hF hS (ex_loadA (vs := [(.int .i64 p_a.Ratio.Num), (.int .i64 p_a.Ratio.Den)]) 2 0 Try.underlying23 rfl sz23 rfl rfl rfl rfl) rfl rfl fun a hF => ?_
  obtain ⟨t_4, ht_4, hr⟩ := bindS hr
  refine q_call (vs := [(.agg #[(.int .i64 p_a.Ratio.Num), (.int .i64 p_a.Ratio.Den)])]) hF hS Try.func9 (by kernel_rfl) rfl rfl rfl (c_laws_toFrac p_a.Ratio t_4 ht_4 _ m hS.vis) ?_
  rintro a w _ rfl hF hS
  refine q_x (v := (.pointer (some ⟨b3, 0, none⟩))) hF hS (ex_fieldAddr Try.underlying35 rfl sz24 rfl rfl) rfl rfl fun a hF => ?_
  refine q_store (vs := [(.int .i64 t_4.Num), (.int .i64 t_4.Den)]) (cs' := [(.int .i64 t_4.Num), (.int .i64 t_4.Den), (.int .i64 0), (.int .i64 0)]) 0 0 hF hS sz24 rfl rfl rfl rfl rfl rfl rfl rfl fun a w hF hS => ?_
  refine q_end (n_sq ?_)
  refine q_seq ?_
  refine q_region ?_
  refine q_x (v := (.pointer (some ⟨b1, 2, none⟩))) hF hS (ex_fieldAddr Try.underlying33 rfl sz23 rfl rfl) rfl rfl fun a hF => ?_
  refine q_x (v := (.agg #[(.int .i64 p_a.Rho.Num), (.int .i64 p_a.Rho.Den)])) hF hS (ex_loadA (vs := [(.int .i64 p_a.Rho.Num), (.int .i64 p_a.Rho.Den)]) 2 0 Try.underlying23 rfl sz23 rfl rfl rfl rfl) rfl rfl fun a hF => ?_
  obtain ⟨t_5, ht_5, hr⟩ := bindS hr
  refine q_call (vs := [(.agg #[(.int .i64 p_a.Rho.Num), (.int .i64 p_a.Rho.Den)])]) hF hS Try.func9 (by kernel_rfl) rfl rfl rfl (c_laws_toFrac p_a.Rho t_5 ht_5 _ m hS.vis) ?_
  rintro a w _ rfl hF hS
  refine q_x (v := (.pointer (some ⟨b3, 2, none⟩))) hF hS (ex_fieldAddr Try.underlying35 rfl sz24 rfl rfl) rfl rfl fun a hF => ?_
  refine q_store (vs := [(.int .i64 t_5.Num), (.int .i64 t_5.Den)]) (cs' := [(.int .i64 t_4.Num), (.int .i64 t_4.Den), (.int .i64 t_5.Num), (.int .i64 t_5.Den)]) 0 0 hF hS sz24 rfl rfl rfl rfl rfl rfl rfl rfl fun a w hF hS => ?_
  refine q_end (n_sq ?_)
  refine q_seq ?_
  refine q_region ?_
  refine q_x (v := (.agg #[(.int .i64 t_4.Num), (.int .i64 t_4.Den), (.int .i64 t_5.Num), (.int .i64 t_5.Den)])) hF hS (ex_loadA (vs := [(.int .i64 t_4.Num), (.int .i64 t_4.Den), (.int .i64 t_5.Num), (.int .i64 t_5.Den)]) 0 0 Try.underlying35 rfl sz35 rfl rfl rfl rfl) rfl rfl fun a hF => ?_
  refine q_store (vs := [(.int .i64 t_4.Num), (.int .i64 t_4.Den), (.int .i64 t_5.Num), (.int .i64 t_5.Den)]) (cs' := [(.int .i64 t_4.Num), (.int .i64 t_4.Den), (.int .i64 t_5.Num), (.int .i64 t_5.Den)]) 1 0 hF hS sz35 rfl rfl rfl rfl rfl rfl rfl rfl fun a w hF hS => ?_
  refine q_end (n_sq (q_ret ?_))
  obtain rfl := someI hr
  exact ret_of hF hS rfl (.cellA (us := [(.int .i64 t_4.Num), (.int .i64 t_4.Den), (.int .i64 t_5.Num), (.int .i64 t_5.Den)]) 1 0 Try.underlying35 rfl sz35 rfl rfl rfl rfl .nil) rfl

end Go.Proofs.Ytbmeacngcdekbab
