/- The walks of the functions: each returns what its plain function says. -/
import Derived.Test.YtkgmphgbmjbfhaaGDefs
import Derived.Test.YtkgmphgbmjbfhaaRows
namespace Go.Proofs.Ytkgmphgbmjbfhaa
open Go.Gx Go.Gx.F Go.RowKit
set_option linter.all false
set_option maxRecDepth 10000

theorem mixed : Try.prog.follows .mixedOrders = true := by kernel_rfl
theorem inf26 : inf Try.prog 26 = some (2, 16, [(.int .i64 0), (.int .i64 0)]) := by kernel_rfl
theorem sz3 : szOf Try.prog 3 = some 1 := by kernel_rfl
theorem sz23 : szOf Try.prog 23 = some 2 := by kernel_rfl
theorem sz26 : szOf Try.prog 26 = some 2 := by kernel_rfl
theorem sz112 : szOf Try.prog 112 = some 4 := by kernel_rfl

theorem c_laws_toFrac (p_a : laws_Frac) (r : impl_Frac) (hr : laws_toFrac p_a = some r) (w0 : World) (m : Mem) (hv : Vis m w0) :
    Ret Try.prog 30 [(.agg #[(.int .i64 p_a.Num), (.int .i64 p_a.Den)])] w0 (fun v _ => v = (.agg #[(.int .i64 r.Num), (.int .i64 r.Den)])) := by
  unfold laws_toFrac at hr
  refine ret_start Try.func30 rfl 11 rfl rfl m hv fun a hF hS => ?_
  refine q_seq ?_
  refine q_region ?_
  refine q_box (cs := [(.int .i64 p_a.Num), (.int .i64 p_a.Den)]) hF hS rfl rfl rfl fun a w b1 hF hS => ?_
  refine q_alloc (cs := [(.int .i64 0), (.int .i64 0)]) hF hS rfl rfl rfl fun a w b2 hF hS => ?_
  refine q_end (n_sq ?_)
  refine q_seq ?_
  refine q_region ?_
  refine q_alloc (cs := [(.int .i64 0), (.int .i64 0)]) hF hS rfl rfl rfl fun a w b3 hF hS => ?_
  refine q_end (n_sq ?_)
  refine q_seq ?_
  refine q_region ?_
  refine q_x (v := (.pointer (some ⟨b1, 0, none⟩))) hF hS (ex_fieldAddr Try.underlying23 rfl sz3 rfl rfl) rfl rfl fun a hF => ?_
  refine q_x (v := (.int .i64 p_a.Num)) hF hS (ex_load1 2 0 Try.underlying3 rfl rfl rfl rfl) rfl rfl fun a hF => ?_
  refine q_x (v := (.pointer (some ⟨b3, 0, none⟩))) hF hS (ex_fieldAddr Try.underlying26 rfl sz3 rfl rfl) rfl rfl fun a hF => ?_
  refine q_store (vs := [(.int .i64 p_a.Num)]) (cs' := [(.int .i64 p_a.Num), (.int .i64 0)]) 0 0 hF hS sz3 rfl rfl rfl rfl rfl rfl rfl rfl fun a w hF hS => ?_
  refine q_end (n_sq ?_)
  refine q_seq ?_
  refine q_region ?_
  refine q_x (v := (.pointer (some ⟨b1, 1, none⟩))) hF hS (ex_fieldAddr Try.underlying23 rfl sz3 rfl rfl) rfl rfl fun a hF => ?_
  refine q_x (v := (.int .i64 p_a.Den)) hF hS (ex_load1 2 0 Try.underlying3 rfl rfl rfl rfl) rfl rfl fun a hF => ?_
  refine q_x (v := (.pointer (some ⟨b3, 1, none⟩))) hF hS (ex_fieldAddr Try.underlying26 rfl sz3 rfl rfl) rfl rfl fun a hF => ?_
  refine q_store (vs := [(.int .i64 p_a.Den)]) (cs' := [(.int .i64 p_a.Num), (.int .i64 p_a.Den)]) 0 0 hF hS sz3 rfl rfl rfl rfl rfl rfl rfl rfl fun a w hF hS => ?_
  refine q_end (n_sq ?_)
  refine q_seq ?_
  refine q_region ?_
  refine q_x (v := (.agg #[(.int .i64 p_a.Num), (.int .i64 p_a.Den)])) hF hS (ex_loadA (vs := [(.int .i64 p_a.Num), (.int .i64 p_a.Den)]) 0 0 Try.underlying26 rfl sz26 rfl rfl rfl rfl) rfl rfl fun a hF => ?_
  refine q_store (vs := [(.int .i64 p_a.Num), (.int .i64 p_a.Den)]) (cs' := [(.int .i64 p_a.Num), (.int .i64 p_a.Den)]) 1 0 hF hS sz26 rfl rfl rfl rfl rfl rfl rfl rfl fun a w hF hS => ?_
  refine q_end (n_sq (q_ret ?_))
  obtain rfl := someI hr
  exact ret_of hF hS rfl (.cellA (us := [(.int .i64 p_a.Num), (.int .i64 p_a.Den)]) 1 0 Try.underlying26 rfl sz26 rfl rfl rfl rfl .nil) rfl

theorem c_spec_l1In (p_n : Int) (p_lo : Int) (p_hi : Int) (r : Bool) (hr : spec_l1In p_n p_lo p_hi = some r) (w0 : World) (m : Mem) (hv : Vis m w0) :
    Ret Try.prog 86 [(.int .i64 p_n), (.int .i64 p_lo), (.int .i64 p_hi)] w0 (fun v _ => v = (.bool r)) := by
  unfold spec_l1In at hr
  refine ret_start Try.func86 rfl 15 rfl rfl m hv fun a hF hS => ?_
  refine q_seq ?_
  refine q_region ?_
  refine q_x (v := (.bool false)) hF hS (ex_assign rfl) rfl rfl fun a hF => ?_
  refine q_end (n_sq ?_)
  refine q_seq ?_
  obtain ⟨t_1, hj1, hr⟩ := bindS hr
  refine q_join (fun a w => Fr a 15 [(6, (.bool t_1))] ∧ St [] w0 w m []) ?_ ?_
  · refine q_region ?_
    refine q_x (v := (.int .i64 p_n)) hF hS (ex_move rfl) rfl rfl fun a hF => ?_
    refine q_x (v := (.int .i64 p_lo)) hF hS (ex_move rfl) rfl rfl fun a hF => ?_
    refine q_x (v := (.bool (decide (p_lo ≤ p_n)))) hF hS (ex_ibin rfl rfl rfl) rfl rfl fun a hF => ?_
    refine q_x (v := (.bool (decide (p_lo ≤ p_n)))) hF hS (ex_move rfl) rfl rfl fun a hF => ?_
    rcases hc2 : (decide (p_lo ≤ p_n)) with _ | _
    · have hj1 := cond_f hc2 hj1
      refine q_skip hF (wanted_f hF rfl rfl rfl hc2 rfl) rfl fun a hF => ?_
      refine q_skip hF (wanted_f hF rfl rfl rfl hc2 rfl) rfl fun a hF => ?_
      refine q_skip hF (wanted_f hF rfl rfl rfl hc2 rfl) rfl fun a hF => ?_
      refine q_x (v := (.bool false)) hF hS (ex_pick_f rfl rfl hc2) rfl rfl fun a hF => ?_
      refine q_x (v := (.bool false)) hF hS (ex_assign rfl) rfl rfl fun a hF => ?_
      refine q_end (n_jn ?_)
      obtain rfl := someI hj1
      exact ⟨hF.sub ⟨rfl, trivial⟩, hS⟩
    · have hj1 := cond_t hc2 hj1
      refine q_xg (v := (.int .i64 p_n)) hF hS (ex_move rfl) (wanted_t hF rfl rfl rfl hc2) rfl fun a hF => ?_
      refine q_xg (v := (.int .i64 p_hi)) hF hS (ex_move rfl) (wanted_t hF rfl rfl rfl hc2) rfl fun a hF => ?_
      refine q_xg (v := (.bool (decide (p_n ≤ p_hi)))) hF hS (ex_ibin rfl rfl rfl) (wanted_t hF rfl rfl rfl hc2) rfl fun a hF => ?_
      refine q_x (v := (.bool (decide (p_n ≤ p_hi)))) hF hS (ex_pick_t rfl rfl hc2) rfl rfl fun a hF => ?_
      refine q_x (v := (.bool (decide (p_n ≤ p_hi)))) hF hS (ex_assign rfl) rfl rfl fun a hF => ?_
      refine q_end (n_jn ?_)
      obtain rfl := someI hj1
      exact ⟨hF.sub ⟨rfl, trivial⟩, hS⟩
  · rintro a w ⟨hF, hS⟩
    refine n_sq (q_ret ?_)
    obtain rfl := someI hr
    exact ret_of hF hS rfl (.tmp rfl .nil) rfl

theorem c_spec_l1Most (p_a : Int) (p_b : Int) (r : Int) (hr : spec_l1Most p_a p_b = some r) (w0 : World) (m : Mem) (hv : Vis m w0) :
    Ret Try.prog 149 [(.int .i64 p_a), (.int .i64 p_b)] w0 (fun v _ => v = (.int .i64 r)) := by
  unfold spec_l1Most at hr
  refine ret_start Try.func149 rfl 10 rfl rfl m hv fun a hF hS => ?_
  refine q_seq ?_
  refine q_region ?_
  refine q_x (v := (.int .i64 0)) hF hS (ex_assign rfl) rfl rfl fun a hF => ?_
  refine q_end (n_sq ?_)
  refine q_seq ?_
  refine q_seq ?_
  refine q_region ?_
  refine q_x (v := (.int .i64 p_a)) hF hS (ex_move rfl) rfl rfl fun a hF => ?_
  refine q_x (v := (.int .i64 p_b)) hF hS (ex_move rfl) rfl rfl fun a hF => ?_
  refine q_x (v := (.bool (decide (p_b < p_a)))) hF hS (ex_ibin rfl rfl rfl) rfl rfl fun a hF => ?_
  refine q_end (n_sq ?_)
  rcases hc1 : (decide (p_b < p_a)) with _ | _
  · have hr := cond_f hc1 hr
    refine q_cond_f hF rfl hc1 ?_
    refine q_skipc (n_sq ?_)
    refine q_seq ?_
    refine q_region ?_
    refine q_x (v := (.int .i64 p_b)) hF hS (ex_move rfl) rfl rfl fun a hF => ?_
    refine q_x (v := (.int .i64 p_b)) hF hS (ex_assign rfl) rfl rfl fun a hF => ?_
    refine q_end (n_sq (q_ret ?_))
    obtain rfl := someI hr
    exact ret_of hF hS rfl (.tmp rfl .nil) rfl
  · have hr := cond_t hc1 hr
    refine q_cond_t hF rfl hc1 ?_
    refine q_seq ?_
    refine q_region ?_
    refine q_x (v := (.int .i64 p_a)) hF hS (ex_move rfl) rfl rfl fun a hF => ?_
    refine q_x (v := (.int .i64 p_a)) hF hS (ex_assign rfl) rfl rfl fun a hF => ?_
    refine q_end (n_sq (q_ret (r_sq ?_)))
    obtain rfl := someI hr
    exact ret_of hF hS rfl (.tmp rfl .nil) rfl

theorem c_spec_l1Abs (p_n : Int) (r : Int) (hr : spec_l1Abs p_n = some r) (w0 : World) (m : Mem) (hv : Vis m w0) :
    Ret Try.prog 135 [(.int .i64 p_n)] w0 (fun v _ => v = (.int .i64 r)) := by
  unfold spec_l1Abs at hr
  refine ret_start Try.func135 rfl 7 rfl rfl m hv fun a hF hS => ?_
  refine q_seq ?_
  refine q_region ?_
  refine q_x (v := (.int .i64 0)) hF hS (ex_assign rfl) rfl rfl fun a hF => ?_
  refine q_end (n_sq ?_)
  refine q_seq ?_
  refine q_region ?_
  refine q_x (v := (.int .i64 p_n)) hF hS (ex_move rfl) rfl rfl fun a hF => ?_
  refine q_x (v := (.int .i64 p_n)) hF hS (ex_move rfl) rfl rfl fun a hF => ?_
  refine q_x (v := (.int .i64 (w64 (-p_n)))) hF hS (ex_neg rfl) rfl rfl fun a hF => ?_
  obtain ⟨t_1, ht_1, hr⟩ := bindS hr
  refine q_call (vs := [(.int .i64 p_n), (.int .i64 (w64 (-p_n)))]) hF hS Try.func149 (by kernel_rfl) rfl rfl rfl (c_spec_l1Most p_n (w64 (-p_n)) t_1 ht_1 _ m hS.vis) ?_
  rintro a w _ rfl hF hS
  refine q_x (v := (.int .i64 t_1)) hF hS (ex_assign rfl) rfl rfl fun a hF => ?_
  refine q_end (n_sq (q_ret ?_))
  obtain rfl := someI hr
  exact ret_of hF hS rfl (.tmp rfl .nil) rfl

theorem c_spec_fGcd (p_a : Int) (p_b : Int) (r : Int) (hr : spec_fGcd p_a p_b = some r) (w0 : World) (m : Mem) (hv : Vis m w0) :
    Ret Try.prog 141 [(.int .i64 p_a), (.int .i64 p_b)] w0 (fun v _ => v = (.int .i64 r)) := by
  unfold spec_fGcd at hr
  refine ret_start Try.func141 rfl 15 rfl rfl m hv fun a hF hS => ?_
  refine q_seq ?_
  refine q_region ?_
  refine q_x (v := (.int .i64 0)) hF hS (ex_assign rfl) rfl rfl fun a hF => ?_
  refine q_end (n_sq ?_)
  refine q_seq ?_
  refine q_block ?_
  obtain ⟨a_4, hl1, hr⟩ := bindS hr
  refine q_loop (fun (s : Int × Int) a w => ∃ a_1, ∃ b_2, s = (a_1, b_2) ∧ Fr a 15 [(0, (.int .i64 a_1)), (1, (.int .i64 b_2))] ∧ St [] w0 w m []) (fun (a_4 : Int) e a w => e = .exit 0 ∧ Fr a 15 [(0, (.int .i64 a_4))] ∧ St [] w0 w m []) hl1 ⟨_, _, rfl, hF.sub ⟨rfl, rfl, trivial⟩, hS⟩ ?_ ?_
  · clear hF hS
    rintro s a w st ⟨a_1, b_2, rfl, hF, hS⟩ hb1
    unfold spec_fGcd_l1 at hb1
    refine q_seq ?_
    refine q_seq ?_
    refine q_region ?_
    refine q_x (v := (.int .i64 b_2)) hF hS (ex_move rfl) rfl rfl fun a hF => ?_
    refine q_x (v := (.bool (b_2 != 0))) hF hS (ex_ibin rfl rfl rfl) rfl rfl fun a hF => ?_
    refine q_end (n_sq ?_)
    rcases hc2 : (b_2 != 0) with _ | _
    · have hb1 := cond_f hc2 hb1
      refine q_cond_f hF rfl hc2 ?_
      refine q_exit (x_sq ?_)
      obtain rfl := someI hb1
      exact ⟨nofun, .inl ⟨rfl, hF.sub ⟨rfl, trivial⟩, hS⟩⟩
    · have hb1 := cond_t hc2 hb1
      refine q_cond_t hF rfl hc2 ?_
      refine q_skipc (n_sq ?_)
      refine q_block ?_
      refine q_seq ?_
      refine q_region ?_
      refine q_x (v := (.int .i64 a_1)) hF hS (ex_move rfl) rfl rfl fun a hF => ?_
      refine q_x (v := (.int .i64 b_2)) hF hS (ex_move rfl) rfl rfl fun a hF => ?_
      obtain ⟨t_3, ht_3, hb1⟩ := bindS hb1
      refine q_x (v := (.int .i64 t_3)) hF hS (ex_rem rfl rfl ht_3) rfl rfl fun a hF => ?_
      refine q_x (v := (.int .i64 t_3)) hF hS (ex_assign rfl) rfl rfl fun a hF => ?_
      refine q_end (n_sq ?_)
      refine q_seq ?_
      refine q_region ?_
      refine q_x (v := (.int .i64 b_2)) hF hS (ex_move rfl) rfl rfl fun a hF => ?_
      refine q_x (v := (.int .i64 b_2)) hF hS (ex_assign rfl) rfl rfl fun a hF => ?_
      refine q_end (n_sq ?_)
      refine q_region ?_
      refine q_x (v := (.int .i64 t_3)) hF hS (ex_move rfl) rfl rfl fun a hF => ?_
      refine q_x (v := (.int .i64 t_3)) hF hS (ex_assign rfl) rfl rfl fun a hF => ?_
      refine q_end (n_ib ?_)
      obtain rfl := someI hb1
      exact ⟨rfl, _, _, rfl, hF.sub ⟨rfl, rfl, trivial⟩, hS⟩
  · rintro e a w ⟨rfl, hF, hS⟩
    refine x_ib (n_sq ?_)
    refine q_seq ?_
    refine q_region ?_
    refine q_x (v := (.int .i64 a_4)) hF hS (ex_move rfl) rfl rfl fun a hF => ?_
    obtain ⟨t_5, ht_5, hr⟩ := bindS hr
    refine q_call (vs := [(.int .i64 a_4)]) hF hS Try.func135 (by kernel_rfl) rfl rfl rfl (c_spec_l1Abs a_4 t_5 ht_5 _ m hS.vis) ?_
    rintro a w _ rfl hF hS
    refine q_x (v := (.int .i64 t_5)) hF hS (ex_assign rfl) rfl rfl fun a hF => ?_
    refine q_end (n_sq (q_ret ?_))
    obtain rfl := someI hr
    exact ret_of hF hS rfl (.tmp rfl .nil) rfl

theorem c_spec_fGood (p_f : impl_Frac) (r : Bool) (hr : spec_fGood p_f = some r) (w0 : World) (m : Mem) (hv : Vis m w0) :
    Ret Try.prog 94 [(.agg #[(.int .i64 p_f.Num), (.int .i64 p_f.Den)])] w0 (fun v _ => v = (.bool r)) := by
  unfold spec_fGood at hr
  refine ret_start Try.func94 rfl 19 rfl rfl m hv fun a hF hS => ?_
  refine q_seq ?_
  refine q_region ?_
  refine q_box (cs := [(.int .i64 p_f.Num), (.int .i64 p_f.Den)]) hF hS rfl rfl rfl fun a w b1 hF hS => ?_
  refine q_x (v := (.bool false)) hF hS (ex_assign rfl) rfl rfl fun a hF => ?_
  refine q_end (n_sq ?_)
  refine q_seq ?_
  obtain ⟨t_5, hj1, hr⟩ := bindS hr
  refine q_join (fun a w => Fr a 19 [(2, (.bool t_5))] ∧ St [] w0 w m []) ?_ ?_
  · refine q_region ?_
    refine q_x (v := (.pointer (some ⟨b1, 1, none⟩))) hF hS (ex_fieldAddr Try.underlying26 rfl sz3 rfl rfl) rfl rfl fun a hF => ?_
    refine q_x (v := (.int .i64 p_f.Den)) hF hS (ex_load1 0 0 Try.underlying3 rfl rfl rfl rfl) rfl rfl fun a hF => ?_
    obtain ⟨t_2, ht_2, hj1⟩ := bindS hj1
    refine q_call (vs := [(.int .i64 p_f.Den), (.int .i64 1), (.int .i64 1000000000)]) hF hS Try.func86 (by kernel_rfl) rfl rfl rfl (c_spec_l1In p_f.Den 1 1000000000 t_2 ht_2 _ m hS.vis) ?_
    rintro a w _ rfl hF hS
    refine q_x (v := (.bool t_2)) hF hS (ex_move rfl) rfl rfl fun a hF => ?_
    rcases hc2 : (t_2) with _ | _
    · have hj1 := cond_f hc2 hj1
      refine q_skip hF (wanted_f hF rfl rfl rfl hc2 rfl) rfl fun a hF => ?_
      refine q_skip hF (wanted_f hF rfl rfl rfl hc2 rfl) rfl fun a hF => ?_
      refine q_skip hF (wanted_f hF rfl rfl rfl hc2 rfl) rfl fun a hF => ?_
      refine q_x (v := (.bool false)) hF hS (ex_pick_f rfl rfl hc2) rfl rfl fun a hF => ?_
      refine q_x (v := (.bool false)) hF hS (ex_move rfl) rfl rfl fun a hF => ?_
      refine q_skip hF (wanted_f hF rfl rfl rfl rfl rfl) rfl fun a hF => ?_
      refine q_skip hF (wanted_f hF rfl rfl rfl rfl rfl) rfl fun a hF => ?_
      refine q_skip hF (wanted_f hF rfl rfl rfl rfl rfl) rfl fun a hF => ?_
      refine q_skip hF (wanted_f hF rfl rfl rfl rfl rfl) rfl fun a hF => ?_
      refine q_skip hF (wanted_f hF rfl rfl rfl rfl rfl) rfl fun a hF => ?_
      refine q_skip hF (wanted_f hF rfl rfl rfl rfl rfl) rfl fun a hF => ?_
      refine q_x (v := (.bool false)) hF hS (ex_pick_f rfl rfl rfl) rfl rfl fun a hF => ?_
      refine q_x (v := (.bool false)) hF hS (ex_assign rfl) rfl rfl fun a hF => ?_
      refine q_end (n_jn ?_)
      obtain rfl := someI hj1
      exact ⟨hF.sub ⟨rfl, trivial⟩, hS.mask [false]⟩
    · have hj1 := cond_t hc2 hj1
      refine q_xg (v := (.pointer (some ⟨b1, 0, none⟩))) hF hS (ex_fieldAddr Try.underlying26 rfl sz3 rfl rfl) (wanted_t hF rfl rfl rfl hc2) rfl fun a hF => ?_
      refine q_xg (v := (.int .i64 p_f.Num)) hF hS (ex_load1 0 0 Try.underlying3 rfl rfl rfl rfl) (wanted_t hF rfl rfl rfl hc2) rfl fun a hF => ?_
      obtain ⟨t_3, ht_3, hj1⟩ := bindS hj1
      refine q_callg (vs := [(.int .i64 p_f.Num), (.int .i64 (-1000000000)), (.int .i64 1000000000)]) hF hS (wanted_t hF rfl rfl rfl hc2) Try.func86 (by kernel_rfl) rfl rfl rfl (c_spec_l1In p_f.Num (-1000000000) 1000000000 t_3 ht_3 _ m hS.vis) ?_
      rintro a w _ rfl hF hS
      refine q_x (v := (.bool t_3)) hF hS (ex_pick_t rfl rfl hc2) rfl rfl fun a hF => ?_
      refine q_x (v := (.bool t_3)) hF hS (ex_move rfl) rfl rfl fun a hF => ?_
      rcases hc3 : (t_3) with _ | _
      · have hj1 := cond_f hc3 hj1
        refine q_skip hF (wanted_f hF rfl rfl rfl hc3 rfl) rfl fun a hF => ?_
        refine q_skip hF (wanted_f hF rfl rfl rfl hc3 rfl) rfl fun a hF => ?_
        refine q_skip hF (wanted_f hF rfl rfl rfl hc3 rfl) rfl fun a hF => ?_
        refine q_skip hF (wanted_f hF rfl rfl rfl hc3 rfl) rfl fun a hF => ?_
        refine q_skip hF (wanted_f hF rfl rfl rfl hc3 rfl) rfl fun a hF => ?_
        refine q_skip hF (wanted_f hF rfl rfl rfl hc3 rfl) rfl fun a hF => ?_
        refine q_x (v := (.bool false)) hF hS (ex_pick_f rfl rfl hc3) rfl rfl fun a hF => ?_
        refine q_x (v := (.bool false)) hF hS (ex_assign rfl) rfl rfl fun a hF => ?_
        refine q_end (n_jn ?_)
        obtain rfl := someI hj1
        exact ⟨hF.sub ⟨rfl, trivial⟩, hS.mask [false]⟩
      · have hj1 := cond_t hc3 hj1
        refine q_xg (v := (.pointer (some ⟨b1, 0, none⟩))) hF hS (ex_fieldAddr Try.underlying26 rfl sz3 rfl rfl) (wanted_t hF rfl rfl rfl hc3) rfl fun a hF => ?_
        refine q_xg (v := (.int .i64 p_f.Num)) hF hS (ex_load1 0 0 Try.underlying3 rfl rfl rfl rfl) (wanted_t hF rfl rfl rfl hc3) rfl fun a hF => ?_
        refine q_xg (v := (.pointer (some ⟨b1, 1, none⟩))) hF hS (ex_fieldAddr Try.underlying26 rfl sz3 rfl rfl) (wanted_t hF rfl rfl rfl hc3) rfl fun a hF => ?_
        refine q_xg (v := (.int .i64 p_f.Den)) hF hS (ex_load1 0 0 Try.underlying3 rfl rfl rfl rfl) (wanted_t hF rfl rfl rfl hc3) rfl fun a hF => ?_
        obtain ⟨t_4, ht_4, hj1⟩ := bindS hj1
        refine q_callg (vs := [(.int .i64 p_f.Num), (.int .i64 p_f.Den)]) hF hS (wanted_t hF rfl rfl rfl hc3) Try.func141 (by kernel_rfl) rfl rfl rfl (c_spec_fGcd p_f.Num p_f.Den t_4 ht_4 _ m hS.vis) ?_
        rintro a w _ rfl hF hS
        refine q_xg (v := (.bool (t_4 == 1))) hF hS (ex_ibin rfl rfl rfl) (wanted_t hF rfl rfl rfl hc3) rfl fun a hF => ?_
        refine q_x (v := (.bool (t_4 == 1))) hF hS (ex_pick_t rfl rfl hc3) rfl rfl fun a hF => ?_
        refine q_x (v := (.bool (t_4 == 1))) hF hS (ex_assign rfl) rfl rfl fun a hF => ?_
        refine q_end (n_jn ?_)
        obtain rfl := someI hj1
        exact ⟨hF.sub ⟨rfl, trivial⟩, hS.mask [false]⟩
  · rintro a w ⟨hF, hS⟩
    refine n_sq (q_ret ?_)
    obtain rfl := someI hr
    exact ret_of hF hS rfl (.tmp rfl .nil) rfl

theorem c_spec_zRatio (p_a : impl_Frac) (r : Bool) (hr : spec_zRatio p_a = some r) (w0 : World) (m : Mem) (hv : Vis m w0) :
    Ret Try.prog 85 [(.agg #[(.int .i64 p_a.Num), (.int .i64 p_a.Den)])] w0 (fun v _ => v = (.bool r)) := by
  unfold spec_zRatio at hr
  refine ret_start Try.func85 rfl 17 rfl rfl m hv fun a hF hS => ?_
  refine q_seq ?_
  refine q_region ?_
  refine q_box (cs := [(.int .i64 p_a.Num), (.int .i64 p_a.Den)]) hF hS rfl rfl rfl fun a w b1 hF hS => ?_
  refine q_x (v := (.bool false)) hF hS (ex_assign rfl) rfl rfl fun a hF => ?_
  refine q_end (n_sq ?_)
  refine q_seq ?_
  obtain ⟨t_3, hj1, hr⟩ := bindS hr
  refine q_join (fun a w => Fr a 17 [(2, (.bool t_3))] ∧ St [] w0 w m []) ?_ ?_
  · refine q_region ?_
    refine q_x (v := (.agg #[(.int .i64 p_a.Num), (.int .i64 p_a.Den)])) hF hS (ex_loadA (vs := [(.int .i64 p_a.Num), (.int .i64 p_a.Den)]) 0 0 Try.underlying26 rfl sz26 rfl rfl rfl rfl) rfl rfl fun a hF => ?_
    obtain ⟨t_2, ht_2, hj1⟩ := bindS hj1
    refine q_call (vs := [(.agg #[(.int .i64 p_a.Num), (.int .i64 p_a.Den)])]) hF hS Try.func94 (by kernel_rfl) rfl rfl rfl (c_spec_fGood p_a t_2 ht_2 _ m hS.vis) ?_
    rintro a w _ rfl hF hS
    refine q_x (v := (.bool t_2)) hF hS (ex_move rfl) rfl rfl fun a hF => ?_
    rcases hc2 : (t_2) with _ | _
    · have hj1 := cond_f hc2 hj1
      refine q_skip hF (wanted_f hF rfl rfl rfl hc2 rfl) rfl fun a hF => ?_
      refine q_skip hF (wanted_f hF rfl rfl rfl hc2 rfl) rfl fun a hF => ?_
      refine q_skip hF (wanted_f hF rfl rfl rfl hc2 rfl) rfl fun a hF => ?_
      refine q_x (v := (.bool false)) hF hS (ex_pick_f rfl rfl hc2) rfl rfl fun a hF => ?_
      refine q_x (v := (.bool false)) hF hS (ex_move rfl) rfl rfl fun a hF => ?_
      refine q_skip hF (wanted_f hF rfl rfl rfl rfl rfl) rfl fun a hF => ?_
      refine q_skip hF (wanted_f hF rfl rfl rfl rfl rfl) rfl fun a hF => ?_
      refine q_skip hF (wanted_f hF rfl rfl rfl rfl rfl) rfl fun a hF => ?_
      refine q_skip hF (wanted_f hF rfl rfl rfl rfl rfl) rfl fun a hF => ?_
      refine q_skip hF (wanted_f hF rfl rfl rfl rfl rfl) rfl fun a hF => ?_
      refine q_x (v := (.bool false)) hF hS (ex_pick_f rfl rfl rfl) rfl rfl fun a hF => ?_
      refine q_x (v := (.bool false)) hF hS (ex_assign rfl) rfl rfl fun a hF => ?_
      refine q_end (n_jn ?_)
      obtain rfl := someI hj1
      exact ⟨hF.sub ⟨rfl, trivial⟩, hS.mask [false]⟩
    · have hj1 := cond_t hc2 hj1
      refine q_xg (v := (.pointer (some ⟨b1, 0, none⟩))) hF hS (ex_fieldAddr Try.underlying26 rfl sz3 rfl rfl) (wanted_t hF rfl rfl rfl hc2) rfl fun a hF => ?_
      refine q_xg (v := (.int .i64 p_a.Num)) hF hS (ex_load1 0 0 Try.underlying3 rfl rfl rfl rfl) (wanted_t hF rfl rfl rfl hc2) rfl fun a hF => ?_
      refine q_xg (v := (.bool (decide (0 < p_a.Num)))) hF hS (ex_ibin rfl rfl rfl) (wanted_t hF rfl rfl rfl hc2) rfl fun a hF => ?_
      refine q_x (v := (.bool (decide (0 < p_a.Num)))) hF hS (ex_pick_t rfl rfl hc2) rfl rfl fun a hF => ?_
      refine q_x (v := (.bool (decide (0 < p_a.Num)))) hF hS (ex_move rfl) rfl rfl fun a hF => ?_
      rcases hc3 : (decide (0 < p_a.Num)) with _ | _
      · have hj1 := cond_f hc3 hj1
        refine q_skip hF (wanted_f hF rfl rfl rfl hc3 rfl) rfl fun a hF => ?_
        refine q_skip hF (wanted_f hF rfl rfl rfl hc3 rfl) rfl fun a hF => ?_
        refine q_skip hF (wanted_f hF rfl rfl rfl hc3 rfl) rfl fun a hF => ?_
        refine q_skip hF (wanted_f hF rfl rfl rfl hc3 rfl) rfl fun a hF => ?_
        refine q_skip hF (wanted_f hF rfl rfl rfl hc3 rfl) rfl fun a hF => ?_
        refine q_x (v := (.bool false)) hF hS (ex_pick_f rfl rfl hc3) rfl rfl fun a hF => ?_
        refine q_x (v := (.bool false)) hF hS (ex_assign rfl) rfl rfl fun a hF => ?_
        refine q_end (n_jn ?_)
        obtain rfl := someI hj1
        exact ⟨hF.sub ⟨rfl, trivial⟩, hS.mask [false]⟩
      · have hj1 := cond_t hc3 hj1
        refine q_xg (v := (.pointer (some ⟨b1, 0, none⟩))) hF hS (ex_fieldAddr Try.underlying26 rfl sz3 rfl rfl) (wanted_t hF rfl rfl rfl hc3) rfl fun a hF => ?_
        refine q_xg (v := (.int .i64 p_a.Num)) hF hS (ex_load1 0 0 Try.underlying3 rfl rfl rfl rfl) (wanted_t hF rfl rfl rfl hc3) rfl fun a hF => ?_
        refine q_xg (v := (.pointer (some ⟨b1, 1, none⟩))) hF hS (ex_fieldAddr Try.underlying26 rfl sz3 rfl rfl) (wanted_t hF rfl rfl rfl hc3) rfl fun a hF => ?_
        refine q_xg (v := (.int .i64 p_a.Den)) hF hS (ex_load1 0 0 Try.underlying3 rfl rfl rfl rfl) (wanted_t hF rfl rfl rfl hc3) rfl fun a hF => ?_
        refine q_xg (v := (.bool (decide (p_a.Num < p_a.Den)))) hF hS (ex_ibin rfl rfl rfl) (wanted_t hF rfl rfl rfl hc3) rfl fun a hF => ?_
        refine q_x (v := (.bool (decide (p_a.Num < p_a.Den)))) hF hS (ex_pick_t rfl rfl hc3) rfl rfl fun a hF => ?_
        refine q_x (v := (.bool (decide (p_a.Num < p_a.Den)))) hF hS (ex_assign rfl) rfl rfl fun a hF => ?_
        refine q_end (n_jn ?_)
        obtain rfl := someI hj1
        exact ⟨hF.sub ⟨rfl, trivial⟩, hS.mask [false]⟩
  · rintro a w ⟨hF, hS⟩
    refine n_sq (q_ret ?_)
    obtain rfl := someI hr
    exact ret_of hF hS rfl (.tmp rfl .nil) rfl

theorem c_spec_zBounds (p_lo : Int) (p_hi : Int) (r : Bool) (hr : spec_zBounds p_lo p_hi = some r) (w0 : World) (m : Mem) (hv : Vis m w0) :
    Ret Try.prog 123 [(.int .i64 p_lo), (.int .i64 p_hi)] w0 (fun v _ => v = (.bool r)) := by
  unfold spec_zBounds at hr
  refine ret_start Try.func123 rfl 18 rfl rfl m hv fun a hF hS => ?_
  refine q_seq ?_
  refine q_region ?_
  refine q_x (v := (.bool false)) hF hS (ex_assign rfl) rfl rfl fun a hF => ?_
  refine q_end (n_sq ?_)
  refine q_seq ?_
  obtain ⟨t_3, hj1, hr⟩ := bindS hr
  refine q_join (fun a w => Fr a 18 [(4, (.bool t_3))] ∧ St [] w0 w m []) ?_ ?_
  · refine q_region ?_
    refine q_x (v := (.int .i64 p_lo)) hF hS (ex_move rfl) rfl rfl fun a hF => ?_
    obtain ⟨t_1, ht_1, hj1⟩ := bindS hj1
    refine q_call (vs := [(.int .i64 p_lo), (.int .i64 (-1000000000)), (.int .i64 1000000000)]) hF hS Try.func86 (by kernel_rfl) rfl rfl rfl (c_spec_l1In p_lo (-1000000000) 1000000000 t_1 ht_1 _ m hS.vis) ?_
    rintro a w _ rfl hF hS
    refine q_x (v := (.bool t_1)) hF hS (ex_move rfl) rfl rfl fun a hF => ?_
    rcases hc2 : (t_1) with _ | _
    · have hj1 := cond_f hc2 hj1
      refine q_skip hF (wanted_f hF rfl rfl rfl hc2 rfl) rfl fun a hF => ?_
      refine q_skip hF (wanted_f hF rfl rfl rfl hc2 rfl) rfl fun a hF => ?_
      refine q_skip hF (wanted_f hF rfl rfl rfl hc2 rfl) rfl fun a hF => ?_
      refine q_x (v := (.bool false)) hF hS (ex_pick_f rfl rfl hc2) rfl rfl fun a hF => ?_
      refine q_x (v := (.bool false)) hF hS (ex_move rfl) rfl rfl fun a hF => ?_
      refine q_skip hF (wanted_f hF rfl rfl rfl rfl rfl) rfl fun a hF => ?_
      refine q_skip hF (wanted_f hF rfl rfl rfl rfl rfl) rfl fun a hF => ?_
      refine q_skip hF (wanted_f hF rfl rfl rfl rfl rfl) rfl fun a hF => ?_
      refine q_skip hF (wanted_f hF rfl rfl rfl rfl rfl) rfl fun a hF => ?_
      refine q_x (v := (.bool false)) hF hS (ex_pick_f rfl rfl rfl) rfl rfl fun a hF => ?_
      refine q_x (v := (.bool false)) hF hS (ex_assign rfl) rfl rfl fun a hF => ?_
      refine q_end (n_jn ?_)
      obtain rfl := someI hj1
      exact ⟨hF.sub ⟨rfl, trivial⟩, hS⟩
    · have hj1 := cond_t hc2 hj1
      refine q_xg (v := (.int .i64 p_hi)) hF hS (ex_move rfl) (wanted_t hF rfl rfl rfl hc2) rfl fun a hF => ?_
      refine q_xg (v := (.int .i64 p_lo)) hF hS (ex_move rfl) (wanted_t hF rfl rfl rfl hc2) rfl fun a hF => ?_
      obtain ⟨t_2, ht_2, hj1⟩ := bindS hj1
      refine q_callg (vs := [(.int .i64 p_hi), (.int .i64 p_lo), (.int .i64 1000000000)]) hF hS (wanted_t hF rfl rfl rfl hc2) Try.func86 (by kernel_rfl) rfl rfl rfl (c_spec_l1In p_hi p_lo 1000000000 t_2 ht_2 _ m hS.vis) ?_
      rintro a w _ rfl hF hS
      refine q_x (v := (.bool t_2)) hF hS (ex_pick_t rfl rfl hc2) rfl rfl fun a hF => ?_
      refine q_x (v := (.bool t_2)) hF hS (ex_move rfl) rfl rfl fun a hF => ?_
      rcases hc3 : (t_2) with _ | _
      · have hj1 := cond_f hc3 hj1
        refine q_skip hF (wanted_f hF rfl rfl rfl hc3 rfl) rfl fun a hF => ?_
        refine q_skip hF (wanted_f hF rfl rfl rfl hc3 rfl) rfl fun a hF => ?_
        refine q_skip hF (wanted_f hF rfl rfl rfl hc3 rfl) rfl fun a hF => ?_
        refine q_skip hF (wanted_f hF rfl rfl rfl hc3 rfl) rfl fun a hF => ?_
        refine q_x (v := (.bool false)) hF hS (ex_pick_f rfl rfl hc3) rfl rfl fun a hF => ?_
        refine q_x (v := (.bool false)) hF hS (ex_assign rfl) rfl rfl fun a hF => ?_
        refine q_end (n_jn ?_)
        obtain rfl := someI hj1
        exact ⟨hF.sub ⟨rfl, trivial⟩, hS⟩
      · have hj1 := cond_t hc3 hj1
        refine q_xg (v := (.int .i64 p_hi)) hF hS (ex_move rfl) (wanted_t hF rfl rfl rfl hc3) rfl fun a hF => ?_
        refine q_xg (v := (.int .i64 p_lo)) hF hS (ex_move rfl) (wanted_t hF rfl rfl rfl hc3) rfl fun a hF => ?_
        refine q_xg (v := (.int .i64 (w64 (p_hi - p_lo)))) hF hS (ex_ibin rfl rfl rfl) (wanted_t hF rfl rfl rfl hc3) rfl fun a hF => ?_
        refine q_xg (v := (.bool (decide ((w64 (p_hi - p_lo)) ≤ 12)))) hF hS (ex_ibin rfl rfl rfl) (wanted_t hF rfl rfl rfl hc3) rfl fun a hF => ?_
        refine q_x (v := (.bool (decide ((w64 (p_hi - p_lo)) ≤ 12)))) hF hS (ex_pick_t rfl rfl hc3) rfl rfl fun a hF => ?_
        refine q_x (v := (.bool (decide ((w64 (p_hi - p_lo)) ≤ 12)))) hF hS (ex_assign rfl) rfl rfl fun a hF => ?_
        refine q_end (n_jn ?_)
        obtain rfl := someI hj1
        exact ⟨hF.sub ⟨rfl, trivial⟩, hS⟩
  · rintro a w ⟨hF, hS⟩
    refine n_sq (q_ret ?_)
    obtain rfl := someI hr
    exact ret_of hF hS rfl (.tmp rfl .nil) rfl

theorem c_spec_fInt (p_n : Int) (r : impl_Frac) (hr : spec_fInt p_n = some r) (w0 : World) (m : Mem) (hv : Vis m w0) :
    Ret Try.prog 97 [(.int .i64 p_n)] w0 (fun v _ => v = (.agg #[(.int .i64 r.Num), (.int .i64 r.Den)])) := by
  unfold spec_fInt at hr
  refine ret_start Try.func97 rfl 5 rfl rfl m hv fun a hF hS => ?_
  refine q_seq ?_
  refine q_region ?_
  refine q_alloc (cs := [(.int .i64 0), (.int .i64 0)]) hF hS rfl rfl rfl fun a w b1 hF hS => ?_
  refine q_end (n_sq ?_)
  refine q_seq ?_
  refine q_region ?_
  refine q_x (v := (.int .i64 p_n)) hF hS (ex_move rfl) rfl rfl fun a hF => ?_
  refine q_x (v := (.agg #[(.int .i64 p_n), (.int .i64 1)])) hF hS (ex_build (cells := [(.int .i64 p_n), (.int .i64 1)]) rfl (by kernel_rfl)) rfl rfl fun a hF => ?_
  refine q_store (vs := [(.int .i64 p_n), (.int .i64 1)]) (cs' := [(.int .i64 p_n), (.int .i64 1)]) 0 0 hF hS sz26 rfl rfl rfl rfl rfl rfl rfl rfl fun a w hF hS => ?_
  refine q_end (n_sq (q_ret ?_))
  obtain rfl := someI hr
  exact ret_of hF hS rfl (.cellA (us := [(.int .i64 p_n), (.int .i64 1)]) 0 0 Try.underlying26 rfl sz26 rfl rfl rfl rfl .nil) rfl

theorem c_spec_fMake (p_n : Int) (p_d : Int) (r : impl_Frac × Bool) (hr : spec_fMake p_n p_d = some r) (w0 : World) (m : Mem) (hv : Vis m w0) :
    Ret Try.prog 104 [(.int .i64 p_n), (.int .i64 p_d)] w0 (fun v _ => v = (.tuple #[(.agg #[(.int .i64 r.1.Num), (.int .i64 r.1.Den)]), (.bool r.2)])) := by
  unfold spec_fMake at hr
  refine ret_start Try.func104 rfl 30 rfl rfl m hv fun a hF hS => ?_
  refine q_seq ?_
  refine q_region ?_
  refine q_alloc (cs := [(.int .i64 0), (.int .i64 0)]) hF hS rfl rfl rfl fun a w b1 hF hS => ?_
  refine q_x (v := (.bool false)) hF hS (ex_assign rfl) rfl rfl fun a hF => ?_
  refine q_end (n_sq ?_)
  refine q_seq ?_
  refine q_seq ?_
  refine q_region ?_
  refine q_x (v := (.int .i64 p_d)) hF hS (ex_move rfl) rfl rfl fun a hF => ?_
  refine q_x (v := (.bool (p_d == 0))) hF hS (ex_ibin rfl rfl rfl) rfl rfl fun a hF => ?_
  refine q_end (n_sq ?_)
  rcases hc1 : (p_d == 0) with _ | _
  · have hr := cond_f hc1 hr
    refine q_cond_f hF rfl hc1 ?_
    refine q_skipc (n_sq ?_)
    refine q_seq ?_
    refine q_region ?_
    refine q_x (v := (.int .i64 p_n)) hF hS (ex_move rfl) rfl rfl fun a hF => ?_
    refine q_x (v := (.int .i64 p_d)) hF hS (ex_move rfl) rfl rfl fun a hF => ?_
    obtain ⟨t_2, ht_2, hr⟩ := bindS hr
    refine q_call (vs := [(.int .i64 p_n), (.int .i64 p_d)]) hF hS Try.func141 (by kernel_rfl) rfl rfl rfl (c_spec_fGcd p_n p_d t_2 ht_2 _ m hS.vis) ?_
    rintro a w _ rfl hF hS
    refine q_x (v := (.int .i64 t_2)) hF hS (ex_assign rfl) rfl rfl fun a hF => ?_
    refine q_end (n_sq ?_)
    refine q_seq ?_
    refine q_seq ?_
    refine q_region ?_
    refine q_x (v := (.int .i64 p_d)) hF hS (ex_move rfl) rfl rfl fun a hF => ?_
    refine q_x (v := (.bool (decide (p_d < 0)))) hF hS (ex_ibin rfl rfl rfl) rfl rfl fun a hF => ?_
    refine q_end (n_sq ?_)
    obtain ⟨g_3, hj2, hr⟩ := bindS hr
    refine q_join (fun a w => Fr a 30 [(0, (.int .i64 p_n)), (1, (.int .i64 p_d)), (4, (.pointer (some ⟨b1, 0, none⟩))), (6, (.int .i64 g_3))] ∧ St [] w0 w m [[⟨b1, [(.int .i64 0), (.int .i64 0)], 26⟩]]) ?_ ?_
    · rcases hc3 : (decide (p_d < 0)) with _ | _
      · have hj2 := cond_f hc3 hj2
        refine q_cond_f hF rfl hc3 ?_
        refine q_skipc (n_jn ?_)
        obtain rfl := someI hj2
        exact ⟨hF.sub ⟨rfl, rfl, rfl, rfl, trivial⟩, hS⟩
      · have hj2 := cond_t hc3 hj2
        refine q_cond_t hF rfl hc3 ?_
        refine q_region ?_
        refine q_x (v := (.int .i64 t_2)) hF hS (ex_move rfl) rfl rfl fun a hF => ?_
        refine q_x (v := (.int .i64 (w64 (-t_2)))) hF hS (ex_neg rfl) rfl rfl fun a hF => ?_
        refine q_x (v := (.int .i64 (w64 (-t_2)))) hF hS (ex_assign rfl) rfl rfl fun a hF => ?_
        refine q_end (n_jn ?_)
        obtain rfl := someI hj2
        exact ⟨hF.sub ⟨rfl, rfl, rfl, rfl, trivial⟩, hS⟩
    · rintro a w ⟨hF, hS⟩
      refine n_sq ?_
      refine q_seq ?_
      refine e_region [8] mixed fun w' hw' => ?_
      have hS := hS.below hw'
      refine e_p (v := (.int .i64 p_n)) 0 hF rfl (ex_move rfl) rfl rfl (by kernel_rfl) (by kernel_rfl) (by kernel_rfl) fun a hF => ?_
      refine e_p (v := (.int .i64 g_3)) 1 hF rfl (ex_move rfl) rfl rfl (by kernel_rfl) (by kernel_rfl) (by kernel_rfl) fun a hF => ?_
      obtain ⟨t_4, ht_4, hr⟩ := bindS hr
      refine e_p (v := (.int .i64 t_4)) 2 hF rfl (ex_quo rfl rfl ht_4) rfl rfl (by kernel_rfl) (by kernel_rfl) (by kernel_rfl) fun a hF => ?_
      refine e_p (v := (.int .i64 p_d)) 3 hF rfl (ex_move rfl) rfl rfl (by kernel_rfl) (by kernel_rfl) (by kernel_rfl) fun a hF => ?_
      refine e_p (v := (.int .i64 g_3)) 4 hF rfl (ex_move rfl) rfl rfl (by kernel_rfl) (by kernel_rfl) (by kernel_rfl) fun a hF => ?_
      obtain ⟨t_5, ht_5, hr⟩ := bindS hr
      refine e_p (v := (.int .i64 t_5)) 5 hF rfl (ex_quo rfl rfl ht_5) rfl rfl (by kernel_rfl) (by kernel_rfl) (by kernel_rfl) fun a hF => ?_
      refine e_p (v := (.agg #[(.int .i64 t_4), (.int .i64 t_5)])) 6 hF rfl (ex_build (cells := [(.int .i64 t_4), (.int .i64 t_5)]) rfl (by kernel_rfl)) rfl rfl (by kernel_rfl) (by kernel_rfl) (by kernel_rfl) fun a hF => ?_
      refine e_one 7 (by kernel_rfl) ?_
      refine e_alloc (cs := [(.int .i64 0), (.int .i64 0)]) hF hS rfl rfl rfl rfl fun a w b6 hF hS => ?_
      refine e_one 8 (by kernel_rfl) ?_
      refine e_store (vs := [(.int .i64 t_4), (.int .i64 t_5)]) (cs' := [(.int .i64 t_4), (.int .i64 t_5)]) 0 0 hF hS rfl rfl sz26 rfl rfl rfl rfl rfl rfl rfl rfl fun a w hF hS => ?_
      refine e_end (by kernel_rfl) (n_sq ?_) _
      refine q_seq ?_
      refine q_seq ?_
      refine q_region ?_
      refine q_x (v := (.agg #[(.int .i64 t_4), (.int .i64 t_5)])) hF hS (ex_loadA (vs := [(.int .i64 t_4), (.int .i64 t_5)]) 0 0 Try.underlying26 rfl sz26 rfl rfl rfl rfl) rfl rfl fun a hF => ?_
      obtain ⟨t_7, ht_7, hr⟩ := bindS hr
      refine q_call (vs := [(.agg #[(.int .i64 t_4), (.int .i64 t_5)])]) hF hS Try.func94 (by kernel_rfl) rfl rfl rfl (c_spec_fGood (impl_Frac.mk t_4 t_5) t_7 ht_7 _ m hS.vis) ?_
      rintro a w _ rfl hF hS
      refine q_x (v := (.bool (!t_7))) hF hS (ex_not rfl) rfl rfl fun a hF => ?_
      refine q_end (n_sq ?_)
      rcases hc4 : (!t_7) with _ | _
      · have hr := cond_f hc4 hr
        refine q_cond_f hF rfl hc4 ?_
        refine q_skipc (n_sq ?_)
        refine q_seq ?_
        refine q_region ?_
        refine q_x (v := (.agg #[(.int .i64 t_4), (.int .i64 t_5)])) hF hS (ex_loadA (vs := [(.int .i64 t_4), (.int .i64 t_5)]) 0 0 Try.underlying26 rfl sz26 rfl rfl rfl rfl) rfl rfl fun a hF => ?_
        refine q_store (vs := [(.int .i64 t_4), (.int .i64 t_5)]) (cs' := [(.int .i64 t_4), (.int .i64 t_5)]) 1 0 hF hS sz26 rfl rfl rfl rfl rfl rfl rfl rfl fun a w hF hS => ?_
        refine q_x (v := (.bool true)) hF hS (ex_assign rfl) rfl rfl fun a hF => ?_
        refine q_end (n_sq (q_ret ?_))
        obtain rfl := someI hr
        exact ret_of hF hS rfl (.cellA (us := [(.int .i64 t_4), (.int .i64 t_5)]) 1 0 Try.underlying26 rfl sz26 rfl rfl rfl rfl (.tmp rfl .nil)) rfl
      · have hr := cond_t hc4 hr
        refine q_cond_t hF rfl hc4 ?_
        refine q_seq ?_
        refine q_region ?_
        refine q_x (v := (.agg #[(.int .i64 0), (.int .i64 0)])) hF hS (ex_build (cells := [(.int .i64 0), (.int .i64 0)]) rfl (by kernel_rfl)) rfl rfl fun a hF => ?_
        refine q_store (vs := [(.int .i64 0), (.int .i64 0)]) (cs' := [(.int .i64 0), (.int .i64 0)]) 1 0 hF hS sz26 rfl rfl rfl rfl rfl rfl rfl rfl fun a w hF hS => ?_
        refine q_x (v := (.bool false)) hF hS (ex_assign rfl) rfl rfl fun a hF => ?_
        refine q_end (n_sq (q_ret (r_sq ?_)))
        obtain rfl := someI hr
        exact ret_of hF hS rfl (.cellA (us := [(.int .i64 0), (.int .i64 0)]) 1 0 Try.underlying26 rfl sz26 rfl rfl rfl rfl (.tmp rfl .nil)) rfl
  · have hr := cond_t hc1 hr
    refine q_cond_t hF rfl hc1 ?_
    refine q_seq ?_
    refine q_region ?_
    refine q_x (v := (.agg #[(.int .i64 0), (.int .i64 0)])) hF hS (ex_build (cells := [(.int .i64 0), (.int .i64 0)]) rfl (by kernel_rfl)) rfl rfl fun a hF => ?_
    refine q_store (vs := [(.int .i64 0), (.int .i64 0)]) (cs' := [(.int .i64 0), (.int .i64 0)]) 0 0 hF hS sz26 rfl rfl rfl rfl rfl rfl rfl rfl fun a w hF hS => ?_
    refine q_x (v := (.bool false)) hF hS (ex_assign rfl) rfl rfl fun a hF => ?_
    refine q_end (n_sq (q_ret (r_sq ?_)))
    obtain rfl := someI hr
    exact ret_of hF hS rfl (.cellA (us := [(.int .i64 0), (.int .i64 0)]) 0 0 Try.underlying26 rfl sz26 rfl rfl rfl rfl (.tmp rfl .nil)) rfl

theorem c_spec_fSub (p_a : impl_Frac) (p_b : impl_Frac) (r : impl_Frac × Bool) (hr : spec_fSub p_a p_b = some r) (w0 : World) (m : Mem) (hv : Vis m w0) :
    Ret Try.prog 72 [(.agg #[(.int .i64 p_a.Num), (.int .i64 p_a.Den)]), (.agg #[(.int .i64 p_b.Num), (.int .i64 p_b.Den)])] w0 (fun v _ => v = (.tuple #[(.agg #[(.int .i64 r.1.Num), (.int .i64 r.1.Den)]), (.bool r.2)])) := by
  unfold spec_fSub at hr
  refine ret_start Try.func72 rfl 25 rfl rfl m hv fun a hF hS => ?_
  refine q_seq ?_
  refine q_region ?_
  refine q_box (cs := [(.int .i64 p_a.Num), (.int .i64 p_a.Den)]) hF hS rfl rfl rfl fun a w b1 hF hS => ?_
  refine q_box (cs := [(.int .i64 p_b.Num), (.int .i64 p_b.Den)]) hF hS rfl rfl rfl fun a w b2 hF hS => ?_
  refine q_alloc (cs := [(.int .i64 0), (.int .i64 0)]) hF hS rfl rfl rfl fun a w b3 hF hS => ?_
  refine q_x (v := (.bool false)) hF hS (ex_assign rfl) rfl rfl fun a hF => ?_
  refine q_end (n_sq ?_)
  refine q_seq ?_
  refine q_region ?_
  refine q_x (v := (.pointer (some ⟨b1, 0, none⟩))) hF hS (ex_fieldAddr Try.underlying26 rfl sz3 rfl rfl) rfl rfl fun a hF => ?_
  refine q_x (v := (.int .i64 p_a.Num)) hF hS (ex_load1 2 0 Try.underlying3 rfl rfl rfl rfl) rfl rfl fun a hF => ?_
  refine q_x (v := (.pointer (some ⟨b2, 1, none⟩))) hF hS (ex_fieldAddr Try.underlying26 rfl sz3 rfl rfl) rfl rfl fun a hF => ?_
  refine q_x (v := (.int .i64 p_b.Den)) hF hS (ex_load1 1 0 Try.underlying3 rfl rfl rfl rfl) rfl rfl fun a hF => ?_
  refine q_x (v := (.int .i64 (w64 (p_a.Num * p_b.Den)))) hF hS (ex_ibin rfl rfl rfl) rfl rfl fun a hF => ?_
  refine q_x (v := (.pointer (some ⟨b2, 0, none⟩))) hF hS (ex_fieldAddr Try.underlying26 rfl sz3 rfl rfl) rfl rfl fun a hF => ?_
  refine q_x (v := (.int .i64 p_b.Num)) hF hS (ex_load1 1 0 Try.underlying3 rfl rfl rfl rfl) rfl rfl fun a hF => ?_
  refine q_x (v := (.pointer (some ⟨b1, 1, none⟩))) hF hS (ex_fieldAddr Try.underlying26 rfl sz3 rfl rfl) rfl rfl fun a hF => ?_
  refine q_x (v := (.int .i64 p_a.Den)) hF hS (ex_load1 2 0 Try.underlying3 rfl rfl rfl rfl) rfl rfl fun a hF => ?_
  refine q_x (v := (.int .i64 (w64 (p_b.Num * p_a.Den)))) hF hS (ex_ibin rfl rfl rfl) rfl rfl fun a hF => ?_
  refine q_x (v := (.int .i64 (w64 ((w64 (p_a.Num * p_b.Den)) - (w64 (p_b.Num * p_a.Den)))))) hF hS (ex_ibin rfl rfl rfl) rfl rfl fun a hF => ?_
  refine q_x (v := (.pointer (some ⟨b1, 1, none⟩))) hF hS (ex_fieldAddr Try.underlying26 rfl sz3 rfl rfl) rfl rfl fun a hF => ?_
  refine q_x (v := (.int .i64 p_a.Den)) hF hS (ex_load1 2 0 Try.underlying3 rfl rfl rfl rfl) rfl rfl fun a hF => ?_
  refine q_x (v := (.pointer (some ⟨b2, 1, none⟩))) hF hS (ex_fieldAddr Try.underlying26 rfl sz3 rfl rfl) rfl rfl fun a hF => ?_
  refine q_x (v := (.int .i64 p_b.Den)) hF hS (ex_load1 1 0 Try.underlying3 rfl rfl rfl rfl) rfl rfl fun a hF => ?_
  refine q_x (v := (.int .i64 (w64 (p_a.Den * p_b.Den)))) hF hS (ex_ibin rfl rfl rfl) rfl rfl fun a hF => ?_
  obtain ⟨t_4, ht_4, hr⟩ := bindS hr
  refine q_call (vs := [(.int .i64 (w64 ((w64 (p_a.Num * p_b.Den)) - (w64 (p_b.Num * p_a.Den))))), (.int .i64 (w64 (p_a.Den * p_b.Den)))]) hF hS Try.func104 (by kernel_rfl) rfl rfl rfl (c_spec_fMake (w64 ((w64 (p_a.Num * p_b.Den)) - (w64 (p_b.Num * p_a.Den)))) (w64 (p_a.Den * p_b.Den)) t_4 ht_4 _ m hS.vis) ?_
  rintro a w _ rfl hF hS
  refine q_x (v := (.agg #[(.int .i64 t_4.1.Num), (.int .i64 t_4.1.Den)])) hF hS (ex_extract rfl rfl) rfl rfl fun a hF => ?_
  refine q_x (v := (.bool t_4.2)) hF hS (ex_extract rfl rfl) rfl rfl fun a hF => ?_
  refine q_store (vs := [(.int .i64 t_4.1.Num), (.int .i64 t_4.1.Den)]) (cs' := [(.int .i64 t_4.1.Num), (.int .i64 t_4.1.Den)]) 0 0 hF hS sz26 rfl rfl rfl rfl rfl rfl rfl rfl fun a w hF hS => ?_
  refine q_x (v := (.bool t_4.2)) hF hS (ex_assign rfl) rfl rfl fun a hF => ?_
  refine q_end (n_sq (q_ret ?_))
  obtain rfl := someI hr
  exact ret_of hF hS rfl (.cellA (us := [(.int .i64 t_4.1.Num), (.int .i64 t_4.1.Den)]) 0 0 Try.underlying26 rfl sz26 rfl rfl rfl rfl (.tmp rfl .nil)) rfl

theorem c_spec_fAdd (p_a : impl_Frac) (p_b : impl_Frac) (r : impl_Frac × Bool) (hr : spec_fAdd p_a p_b = some r) (w0 : World) (m : Mem) (hv : Vis m w0) :
    Ret Try.prog 120 [(.agg #[(.int .i64 p_a.Num), (.int .i64 p_a.Den)]), (.agg #[(.int .i64 p_b.Num), (.int .i64 p_b.Den)])] w0 (fun v _ => v = (.tuple #[(.agg #[(.int .i64 r.1.Num), (.int .i64 r.1.Den)]), (.bool r.2)])) := by
  unfold spec_fAdd at hr
  refine ret_start Try.func120 rfl 25 rfl rfl m hv fun a hF hS => ?_
  refine q_seq ?_
  refine q_region ?_
  refine q_box (cs := [(.int .i64 p_a.Num), (.int .i64 p_a.Den)]) hF hS rfl rfl rfl fun a w b1 hF hS => ?_
  refine q_box (cs := [(.int .i64 p_b.Num), (.int .i64 p_b.Den)]) hF hS rfl rfl rfl fun a w b2 hF hS => ?_
  refine q_alloc (cs := [(.int .i64 0), (.int .i64 0)]) hF hS rfl rfl rfl fun a w b3 hF hS => ?_
  refine q_x (v := (.bool false)) hF hS (ex_assign rfl) rfl rfl fun a hF => ?_
  refine q_end (n_sq ?_)
  refine q_seq ?_
  refine q_region ?_
  refine q_x (v := (.pointer (some ⟨b1, 0, none⟩))) hF hS (ex_fieldAddr Try.underlying26 rfl sz3 rfl rfl) rfl rfl fun a hF => ?_
  refine q_x (v := (.int .i64 p_a.Num)) hF hS (ex_load1 2 0 Try.underlying3 rfl rfl rfl rfl) rfl rfl fun a hF => ?_
  refine q_x (v := (.pointer (some ⟨b2, 1, none⟩))) hF hS (ex_fieldAddr Try.underlying26 rfl sz3 rfl rfl) rfl rfl fun a hF => ?_
  refine q_x (v := (.int .i64 p_b.Den)) hF hS (ex_load1 1 0 Try.underlying3 rfl rfl rfl rfl) rfl rfl fun a hF => ?_
  refine q_x (v := (.int .i64 (w64 (p_a.Num * p_b.Den)))) hF hS (ex_ibin rfl rfl rfl) rfl rfl fun a hF => ?_
  refine q_x (v := (.pointer (some ⟨b2, 0, none⟩))) hF hS (ex_fieldAddr Try.underlying26 rfl sz3 rfl rfl) rfl rfl fun a hF => ?_
  refine q_x (v := (.int .i64 p_b.Num)) hF hS (ex_load1 1 0 Try.underlying3 rfl rfl rfl rfl) rfl rfl fun a hF => ?_
  refine q_x (v := (.pointer (some ⟨b1, 1, none⟩))) hF hS (ex_fieldAddr Try.underlying26 rfl sz3 rfl rfl) rfl rfl fun a hF => ?_
  refine q_x (v := (.int .i64 p_a.Den)) hF hS (ex_load1 2 0 Try.underlying3 rfl rfl rfl rfl) rfl rfl fun a hF => ?_
  refine q_x (v := (.int .i64 (w64 (p_b.Num * p_a.Den)))) hF hS (ex_ibin rfl rfl rfl) rfl rfl fun a hF => ?_
  refine q_x (v := (.int .i64 (w64 ((w64 (p_a.Num * p_b.Den)) + (w64 (p_b.Num * p_a.Den)))))) hF hS (ex_ibin rfl rfl rfl) rfl rfl fun a hF => ?_
  refine q_x (v := (.pointer (some ⟨b1, 1, none⟩))) hF hS (ex_fieldAddr Try.underlying26 rfl sz3 rfl rfl) rfl rfl fun a hF => ?_
  refine q_x (v := (.int .i64 p_a.Den)) hF hS (ex_load1 2 0 Try.underlying3 rfl rfl rfl rfl) rfl rfl fun a hF => ?_
  refine q_x (v := (.pointer (some ⟨b2, 1, none⟩))) hF hS (ex_fieldAddr Try.underlying26 rfl sz3 rfl rfl) rfl rfl fun a hF => ?_
  refine q_x (v := (.int .i64 p_b.Den)) hF hS (ex_load1 1 0 Try.underlying3 rfl rfl rfl rfl) rfl rfl fun a hF => ?_
  refine q_x (v := (.int .i64 (w64 (p_a.Den * p_b.Den)))) hF hS (ex_ibin rfl rfl rfl) rfl rfl fun a hF => ?_
  obtain ⟨t_4, ht_4, hr⟩ := bindS hr
  refine q_call (vs := [(.int .i64 (w64 ((w64 (p_a.Num * p_b.Den)) + (w64 (p_b.Num * p_a.Den))))), (.int .i64 (w64 (p_a.Den * p_b.Den)))]) hF hS Try.func104 (by kernel_rfl) rfl rfl rfl (c_spec_fMake (w64 ((w64 (p_a.Num * p_b.Den)) + (w64 (p_b.Num * p_a.Den)))) (w64 (p_a.Den * p_b.Den)) t_4 ht_4 _ m hS.vis) ?_
  rintro a w _ rfl hF hS
  refine q_x (v := (.agg #[(.int .i64 t_4.1.Num), (.int .i64 t_4.1.Den)])) hF hS (ex_extract rfl rfl) rfl rfl fun a hF => ?_
  refine q_x (v := (.bool t_4.2)) hF hS (ex_extract rfl rfl) rfl rfl fun a hF => ?_
  refine q_store (vs := [(.int .i64 t_4.1.Num), (.int .i64 t_4.1.Den)]) (cs' := [(.int .i64 t_4.1.Num), (.int .i64 t_4.1.Den)]) 0 0 hF hS sz26 rfl rfl rfl rfl rfl rfl rfl rfl fun a w hF hS => ?_
  refine q_x (v := (.bool t_4.2)) hF hS (ex_assign rfl) rfl rfl fun a hF => ?_
  refine q_end (n_sq (q_ret ?_))
  obtain rfl := someI hr
  exact ret_of hF hS rfl (.cellA (us := [(.int .i64 t_4.1.Num), (.int .i64 t_4.1.Den)]) 0 0 Try.underlying26 rfl sz26 rfl rfl rfl rfl (.tmp rfl .nil)) rfl

theorem c_spec_fDiv (p_a : impl_Frac) (p_b : impl_Frac) (r : impl_Frac × Bool) (hr : spec_fDiv p_a p_b = some r) (w0 : World) (m : Mem) (hv : Vis m w0) :
    Ret Try.prog 71 [(.agg #[(.int .i64 p_a.Num), (.int .i64 p_a.Den)]), (.agg #[(.int .i64 p_b.Num), (.int .i64 p_b.Den)])] w0 (fun v _ => v = (.tuple #[(.agg #[(.int .i64 r.1.Num), (.int .i64 r.1.Den)]), (.bool r.2)])) := by
  unfold spec_fDiv at hr
  refine ret_start Try.func71 rfl 23 rfl rfl m hv fun a hF hS => ?_
  refine q_seq ?_
  refine q_region ?_
  refine q_box (cs := [(.int .i64 p_a.Num), (.int .i64 p_a.Den)]) hF hS rfl rfl rfl fun a w b1 hF hS => ?_
  refine q_box (cs := [(.int .i64 p_b.Num), (.int .i64 p_b.Den)]) hF hS rfl rfl rfl fun a w b2 hF hS => ?_
  refine q_alloc (cs := [(.int .i64 0), (.int .i64 0)]) hF hS rfl rfl rfl fun a w b3 hF hS => ?_
  refine q_x (v := (.bool false)) hF hS (ex_assign rfl) rfl rfl fun a hF => ?_
  refine q_end (n_sq ?_)
  refine q_seq ?_
  refine q_seq ?_
  refine q_region ?_
  refine q_x (v := (.pointer (some ⟨b2, 0, none⟩))) hF hS (ex_fieldAddr Try.underlying26 rfl sz3 rfl rfl) rfl rfl fun a hF => ?_
  refine q_x (v := (.int .i64 p_b.Num)) hF hS (ex_load1 1 0 Try.underlying3 rfl rfl rfl rfl) rfl rfl fun a hF => ?_
  refine q_x (v := (.bool (p_b.Num == 0))) hF hS (ex_ibin rfl rfl rfl) rfl rfl fun a hF => ?_
  refine q_end (n_sq ?_)
  rcases hc1 : (p_b.Num == 0) with _ | _
  · have hr := cond_f hc1 hr
    refine q_cond_f hF rfl hc1 ?_
    refine q_skipc (n_sq ?_)
    refine q_seq ?_
    refine q_region ?_
    refine q_x (v := (.pointer (some ⟨b1, 0, none⟩))) hF hS (ex_fieldAddr Try.underlying26 rfl sz3 rfl rfl) rfl rfl fun a hF => ?_
    refine q_x (v := (.int .i64 p_a.Num)) hF hS (ex_load1 2 0 Try.underlying3 rfl rfl rfl rfl) rfl rfl fun a hF => ?_
    refine q_x (v := (.pointer (some ⟨b2, 1, none⟩))) hF hS (ex_fieldAddr Try.underlying26 rfl sz3 rfl rfl) rfl rfl fun a hF => ?_
    refine q_x (v := (.int .i64 p_b.Den)) hF hS (ex_load1 1 0 Try.underlying3 rfl rfl rfl rfl) rfl rfl fun a hF => ?_
    refine q_x (v := (.int .i64 (w64 (p_a.Num * p_b.Den)))) hF hS (ex_ibin rfl rfl rfl) rfl rfl fun a hF => ?_
    refine q_x (v := (.pointer (some ⟨b1, 1, none⟩))) hF hS (ex_fieldAddr Try.underlying26 rfl sz3 rfl rfl) rfl rfl fun a hF => ?_
    refine q_x (v := (.int .i64 p_a.Den)) hF hS (ex_load1 2 0 Try.underlying3 rfl rfl rfl rfl) rfl rfl fun a hF => ?_
    refine q_x (v := (.pointer (some ⟨b2, 0, none⟩))) hF hS (ex_fieldAddr Try.underlying26 rfl sz3 rfl rfl) rfl rfl fun a hF => ?_
    refine q_x (v := (.int .i64 p_b.Num)) hF hS (ex_load1 1 0 Try.underlying3 rfl rfl rfl rfl) rfl rfl fun a hF => ?_
    refine q_x (v := (.int .i64 (w64 (p_a.Den * p_b.Num)))) hF hS (ex_ibin rfl rfl rfl) rfl rfl fun a hF => ?_
    obtain ⟨t_4, ht_4, hr⟩ := bindS hr
    refine q_call (vs := [(.int .i64 (w64 (p_a.Num * p_b.Den))), (.int .i64 (w64 (p_a.Den * p_b.Num)))]) hF hS Try.func104 (by kernel_rfl) rfl rfl rfl (c_spec_fMake (w64 (p_a.Num * p_b.Den)) (w64 (p_a.Den * p_b.Num)) t_4 ht_4 _ m hS.vis) ?_
    rintro a w _ rfl hF hS
    refine q_x (v := (.agg #[(.int .i64 t_4.1.Num), (.int .i64 t_4.1.Den)])) hF hS (ex_extract rfl rfl) rfl rfl fun a hF => ?_
    refine q_x (v := (.bool t_4.2)) hF hS (ex_extract rfl rfl) rfl rfl fun a hF => ?_
    refine q_store (vs := [(.int .i64 t_4.1.Num), (.int .i64 t_4.1.Den)]) (cs' := [(.int .i64 t_4.1.Num), (.int .i64 t_4.1.Den)]) 0 0 hF hS sz26 rfl rfl rfl rfl rfl rfl rfl rfl fun a w hF hS => ?_
    refine q_x (v := (.bool t_4.2)) hF hS (ex_assign rfl) rfl rfl fun a hF => ?_
    refine q_end (n_sq (q_ret ?_))
    obtain rfl := someI hr
    exact ret_of hF hS rfl (.cellA (us := [(.int .i64 t_4.1.Num), (.int .i64 t_4.1.Den)]) 0 0 Try.underlying26 rfl sz26 rfl rfl rfl rfl (.tmp rfl .nil)) rfl
  · have hr := cond_t hc1 hr
    refine q_cond_t hF rfl hc1 ?_
    refine q_seq ?_
    refine q_region ?_
    refine q_x (v := (.agg #[(.int .i64 0), (.int .i64 0)])) hF hS (ex_build (cells := [(.int .i64 0), (.int .i64 0)]) rfl (by kernel_rfl)) rfl rfl fun a hF => ?_
    refine q_store (vs := [(.int .i64 0), (.int .i64 0)]) (cs' := [(.int .i64 0), (.int .i64 0)]) 0 0 hF hS sz26 rfl rfl rfl rfl rfl rfl rfl rfl fun a w hF hS => ?_
    refine q_x (v := (.bool false)) hF hS (ex_assign rfl) rfl rfl fun a hF => ?_
    refine q_end (n_sq (q_ret (r_sq ?_)))
    obtain rfl := someI hr
    exact ret_of hF hS rfl (.cellA (us := [(.int .i64 0), (.int .i64 0)]) 0 0 Try.underlying26 rfl sz26 rfl rfl rfl rfl (.tmp rfl .nil)) rfl

theorem c_spec_zBase (p_a : impl_Frac) (r : impl_Frac × Bool) (hr : spec_zBase p_a = some r) (w0 : World) (m : Mem) (hv : Vis m w0) :
    Ret Try.prog 134 [(.agg #[(.int .i64 p_a.Num), (.int .i64 p_a.Den)])] w0 (fun v _ => v = (.tuple #[(.agg #[(.int .i64 r.1.Num), (.int .i64 r.1.Den)]), (.bool r.2)])) := by
  unfold spec_zBase at hr
  refine ret_start Try.func134 rfl 32 rfl rfl m hv fun a hF hS => ?_
  refine q_seq ?_
  refine q_region ?_
  refine q_box (cs := [(.int .i64 p_a.Num), (.int .i64 p_a.Den)]) hF hS rfl rfl rfl fun a w b1 hF hS => ?_
  refine q_alloc (cs := [(.int .i64 0), (.int .i64 0)]) hF hS rfl rfl rfl fun a w b2 hF hS => ?_
  refine q_x (v := (.bool false)) hF hS (ex_assign rfl) rfl rfl fun a hF => ?_
  refine q_end (n_sq ?_)
  refine q_seq ?_
  obtain ⟨j1, hj1, hr⟩ := bindS hr
  refine q_join (fun a w => ∃ b7, ∃ one_8, ∃ x_9, j1 = (one_8, x_9) ∧ Fr a 32 [(1, (.pointer (some ⟨b1, 0, none⟩))), (2, (.pointer (some ⟨b2, 0, none⟩))), (4, (.pointer (some ⟨b7, 0, none⟩))), (5, (.bool one_8))] ∧ St [] w0 w m [[⟨b7, [(.int .i64 x_9.Num), (.int .i64 x_9.Den)], 26⟩], [⟨b2, [(.int .i64 0), (.int .i64 0)], 26⟩], [⟨b1, [(.int .i64 p_a.Num), (.int .i64 p_a.Den)], 26⟩]]) ?_ ?_
  · refine e_region [7] mixed fun w' hw' => ?_
    have hS := hS.below hw'
    refine e_x (v := (.agg #[(.int .i64 p_a.Num), (.int .i64 p_a.Den)])) 1 hF hS rfl (ex_loadA (vs := [(.int .i64 p_a.Num), (.int .i64 p_a.Den)]) 1 0 Try.underlying26 rfl sz26 rfl rfl rfl rfl) rfl rfl (by kernel_rfl) (by kernel_rfl) (by kernel_rfl) (by kernel_rfl) fun a hF => ?_
    obtain ⟨t_5, ht_5, hj1⟩ := bindS hj1
    obtain ⟨t_6, ht_6, hj1⟩ := bindS hj1
    refine e_all [0, 6] (by kernel_rfl) rfl ⟨?_, ?_, trivial⟩
    · refine e_call (vs := [(.int .i64 1)]) hF hS rfl Try.func97 (by kernel_rfl) rfl rfl rfl (c_spec_fInt 1 t_5 ht_5 _ m hS.vis) ?_
      rintro a w _ rfl hF hS
      refine e_all [2, 6] (by kernel_rfl) rfl ⟨?_, ?_, trivial⟩
      · refine e_call (vs := [(.agg #[(.int .i64 t_5.Num), (.int .i64 t_5.Den)]), (.agg #[(.int .i64 p_a.Num), (.int .i64 p_a.Den)])]) hF hS rfl Try.func72 (by kernel_rfl) rfl rfl rfl (c_spec_fSub t_5 p_a t_6 ht_6 _ m hS.vis) ?_
        rintro a w _ rfl hF hS
        refine e_p (v := (.tuple #[(.agg #[(.int .i64 t_6.1.Num), (.int .i64 t_6.1.Den)]), (.bool t_6.2)])) 3 hF rfl (ex_move rfl) rfl rfl (by kernel_rfl) (by kernel_rfl) (by kernel_rfl) fun a hF => ?_
        refine e_p (v := (.agg #[(.int .i64 t_6.1.Num), (.int .i64 t_6.1.Den)])) 4 hF rfl (ex_extract rfl rfl) rfl rfl (by kernel_rfl) (by kernel_rfl) (by kernel_rfl) fun a hF => ?_
        refine e_p (v := (.bool t_6.2)) 5 hF rfl (ex_extract rfl rfl) rfl rfl (by kernel_rfl) (by kernel_rfl) (by kernel_rfl) fun a hF => ?_
        refine e_one 6 (by kernel_rfl) ?_
        refine e_alloc (cs := [(.int .i64 0), (.int .i64 0)]) hF hS rfl rfl rfl rfl fun a w b7 hF hS => ?_
        refine e_one 7 (by kernel_rfl) ?_
        refine e_store (vs := [(.int .i64 t_6.1.Num), (.int .i64 t_6.1.Den)]) (cs' := [(.int .i64 t_6.1.Num), (.int .i64 t_6.1.Den)]) 0 0 hF hS rfl rfl sz26 rfl rfl rfl rfl rfl rfl rfl rfl fun a w hF hS => ?_
        refine e_p (v := (.bool t_6.2)) 8 hF rfl (ex_assign rfl) rfl rfl (by kernel_rfl) (by kernel_rfl) (by kernel_rfl) fun a hF => ?_
        refine e_end (by kernel_rfl) (n_jn ?_) _
        obtain rfl := someI hj1
        exact ⟨b7, _, _, rfl, hF.sub ⟨rfl, rfl, rfl, rfl, trivial⟩, hS⟩
      · refine e_alloc (cs := [(.int .i64 0), (.int .i64 0)]) hF hS rfl rfl rfl rfl fun a w b7 hF hS => ?_
        refine e_one 2 (by kernel_rfl) ?_
        refine e_call (vs := [(.agg #[(.int .i64 t_5.Num), (.int .i64 t_5.Den)]), (.agg #[(.int .i64 p_a.Num), (.int .i64 p_a.Den)])]) hF hS rfl Try.func72 (by kernel_rfl) rfl rfl rfl (c_spec_fSub t_5 p_a t_6 ht_6 _ m hS.vis) ?_
        rintro a w _ rfl hF hS
        refine e_p (v := (.tuple #[(.agg #[(.int .i64 t_6.1.Num), (.int .i64 t_6.1.Den)]), (.bool t_6.2)])) 3 hF rfl (ex_move rfl) rfl rfl (by kernel_rfl) (by kernel_rfl) (by kernel_rfl) fun a hF => ?_
        refine e_p (v := (.agg #[(.int .i64 t_6.1.Num), (.int .i64 t_6.1.Den)])) 4 hF rfl (ex_extract rfl rfl) rfl rfl (by kernel_rfl) (by kernel_rfl) (by kernel_rfl) fun a hF => ?_
        refine e_p (v := (.bool t_6.2)) 5 hF rfl (ex_extract rfl rfl) rfl rfl (by kernel_rfl) (by kernel_rfl) (by kernel_rfl) fun a hF => ?_
        refine e_one 7 (by kernel_rfl) ?_
        refine e_store (vs := [(.int .i64 t_6.1.Num), (.int .i64 t_6.1.Den)]) (cs' := [(.int .i64 t_6.1.Num), (.int .i64 t_6.1.Den)]) 0 0 hF hS rfl rfl sz26 rfl rfl rfl rfl rfl rfl rfl rfl fun a w hF hS => ?_
        refine e_p (v := (.bool t_6.2)) 8 hF rfl (ex_assign rfl) rfl rfl (by kernel_rfl) (by kernel_rfl) (by kernel_rfl) fun a hF => ?_
        refine e_end (by kernel_rfl) (n_jn ?_) _
        obtain rfl := someI hj1
        exact ⟨b7, _, _, rfl, hF.sub ⟨rfl, rfl, rfl, rfl, trivial⟩, hS⟩
    · refine e_alloc (cs := [(.int .i64 0), (.int .i64 0)]) hF hS rfl rfl rfl rfl fun a w b7 hF hS => ?_
      refine e_one 0 (by kernel_rfl) ?_
      refine e_call (vs := [(.int .i64 1)]) hF hS rfl Try.func97 (by kernel_rfl) rfl rfl rfl (c_spec_fInt 1 t_5 ht_5 _ m hS.vis) ?_
      rintro a w _ rfl hF hS
      refine e_one 2 (by kernel_rfl) ?_
      refine e_call (vs := [(.agg #[(.int .i64 t_5.Num), (.int .i64 t_5.Den)]), (.agg #[(.int .i64 p_a.Num), (.int .i64 p_a.Den)])]) hF hS rfl Try.func72 (by kernel_rfl) rfl rfl rfl (c_spec_fSub t_5 p_a t_6 ht_6 _ m hS.vis) ?_
      rintro a w _ rfl hF hS
      refine e_p (v := (.tuple #[(.agg #[(.int .i64 t_6.1.Num), (.int .i64 t_6.1.Den)]), (.bool t_6.2)])) 3 hF rfl (ex_move rfl) rfl rfl (by kernel_rfl) (by kernel_rfl) (by kernel_rfl) fun a hF => ?_
      refine e_p (v := (.agg #[(.int .i64 t_6.1.Num), (.int .i64 t_6.1.Den)])) 4 hF rfl (ex_extract rfl rfl) rfl rfl (by kernel_rfl) (by kernel_rfl) (by kernel_rfl) fun a hF => ?_
      refine e_p (v := (.bool t_6.2)) 5 hF rfl (ex_extract rfl rfl) rfl rfl (by kernel_rfl) (by kernel_rfl) (by kernel_rfl) fun a hF => ?_
      refine e_one 7 (by kernel_rfl) ?_
      refine e_store (vs := [(.int .i64 t_6.1.Num), (.int .i64 t_6.1.Den)]) (cs' := [(.int .i64 t_6.1.Num), (.int .i64 t_6.1.Den)]) 0 0 hF hS rfl rfl sz26 rfl rfl rfl rfl rfl rfl rfl rfl fun a w hF hS => ?_
      refine e_p (v := (.bool t_6.2)) 8 hF rfl (ex_assign rfl) rfl rfl (by kernel_rfl) (by kernel_rfl) (by kernel_rfl) fun a hF => ?_
      refine e_end (by kernel_rfl) (n_jn ?_) _
      obtain rfl := someI hj1
      exact ⟨b7, _, _, rfl, hF.sub ⟨rfl, rfl, rfl, rfl, trivial⟩, hS⟩
  · rintro a w ⟨b7, one_8, x_9, rfl, hF, hS⟩
    refine n_sq ?_
    refine q_seq ?_
    obtain ⟨j2, hj2, hr⟩ := bindS hr
    refine q_join (fun a w => ∃ b14, ∃ two_15, ∃ y_16, j2 = (two_15, y_16) ∧ Fr a 32 [(2, (.pointer (some ⟨b2, 0, none⟩))), (4, (.pointer (some ⟨b7, 0, none⟩))), (5, (.bool one_8)), (6, (.pointer (some ⟨b14, 0, none⟩))), (7, (.bool two_15))] ∧ St [] w0 w m [[⟨b14, [(.int .i64 y_16.Num), (.int .i64 y_16.Den)], 26⟩], [⟨b7, [(.int .i64 x_9.Num), (.int .i64 x_9.Den)], 26⟩], [⟨b2, [(.int .i64 0), (.int .i64 0)], 26⟩]]) ?_ ?_
    · refine e_region [7] mixed fun w' hw' => ?_
      have hS := hS.below hw'
      refine e_x (v := (.agg #[(.int .i64 p_a.Num), (.int .i64 p_a.Den)])) 1 hF hS rfl (ex_loadA (vs := [(.int .i64 p_a.Num), (.int .i64 p_a.Den)]) 2 0 Try.underlying26 rfl sz26 rfl rfl rfl rfl) rfl rfl (by kernel_rfl) (by kernel_rfl) (by kernel_rfl) (by kernel_rfl) fun a hF => ?_
      obtain ⟨t_12, ht_12, hj2⟩ := bindS hj2
      obtain ⟨t_13, ht_13, hj2⟩ := bindS hj2
      refine e_all [0, 6] (by kernel_rfl) rfl ⟨?_, ?_, trivial⟩
      · refine e_call (vs := [(.int .i64 1)]) hF hS rfl Try.func97 (by kernel_rfl) rfl rfl rfl (c_spec_fInt 1 t_12 ht_12 _ m hS.vis) ?_
        rintro a w _ rfl hF hS
        refine e_all [2, 6] (by kernel_rfl) rfl ⟨?_, ?_, trivial⟩
        · refine e_call (vs := [(.agg #[(.int .i64 t_12.Num), (.int .i64 t_12.Den)]), (.agg #[(.int .i64 p_a.Num), (.int .i64 p_a.Den)])]) hF hS rfl Try.func120 (by kernel_rfl) rfl rfl rfl (c_spec_fAdd t_12 p_a t_13 ht_13 _ m hS.vis) ?_
          rintro a w _ rfl hF hS
          refine e_p (v := (.tuple #[(.agg #[(.int .i64 t_13.1.Num), (.int .i64 t_13.1.Den)]), (.bool t_13.2)])) 3 hF rfl (ex_move rfl) rfl rfl (by kernel_rfl) (by kernel_rfl) (by kernel_rfl) fun a hF => ?_
          refine e_p (v := (.agg #[(.int .i64 t_13.1.Num), (.int .i64 t_13.1.Den)])) 4 hF rfl (ex_extract rfl rfl) rfl rfl (by kernel_rfl) (by kernel_rfl) (by kernel_rfl) fun a hF => ?_
          refine e_p (v := (.bool t_13.2)) 5 hF rfl (ex_extract rfl rfl) rfl rfl (by kernel_rfl) (by kernel_rfl) (by kernel_rfl) fun a hF => ?_
          refine e_one 6 (by kernel_rfl) ?_
          refine e_alloc (cs := [(.int .i64 0), (.int .i64 0)]) hF hS rfl rfl rfl rfl fun a w b14 hF hS => ?_
          refine e_one 7 (by kernel_rfl) ?_
          refine e_store (vs := [(.int .i64 t_13.1.Num), (.int .i64 t_13.1.Den)]) (cs' := [(.int .i64 t_13.1.Num), (.int .i64 t_13.1.Den)]) 0 0 hF hS rfl rfl sz26 rfl rfl rfl rfl rfl rfl rfl rfl fun a w hF hS => ?_
          refine e_p (v := (.bool t_13.2)) 8 hF rfl (ex_assign rfl) rfl rfl (by kernel_rfl) (by kernel_rfl) (by kernel_rfl) fun a hF => ?_
          refine e_end (by kernel_rfl) (n_jn ?_) _
          obtain rfl := someI hj2
          exact ⟨b14, _, _, rfl, hF.sub ⟨rfl, rfl, rfl, rfl, rfl, trivial⟩, hS.mask [true, true, true, false]⟩
        · refine e_alloc (cs := [(.int .i64 0), (.int .i64 0)]) hF hS rfl rfl rfl rfl fun a w b14 hF hS => ?_
          refine e_one 2 (by kernel_rfl) ?_
          refine e_call (vs := [(.agg #[(.int .i64 t_12.Num), (.int .i64 t_12.Den)]), (.agg #[(.int .i64 p_a.Num), (.int .i64 p_a.Den)])]) hF hS rfl Try.func120 (by kernel_rfl) rfl rfl rfl (c_spec_fAdd t_12 p_a t_13 ht_13 _ m hS.vis) ?_
          rintro a w _ rfl hF hS
          refine e_p (v := (.tuple #[(.agg #[(.int .i64 t_13.1.Num), (.int .i64 t_13.1.Den)]), (.bool t_13.2)])) 3 hF rfl (ex_move rfl) rfl rfl (by kernel_rfl) (by kernel_rfl) (by kernel_rfl) fun a hF => ?_
          refine e_p (v := (.agg #[(.int .i64 t_13.1.Num), (.int .i64 t_13.1.Den)])) 4 hF rfl (ex_extract rfl rfl) rfl rfl (by kernel_rfl) (by kernel_rfl) (by kernel_rfl) fun a hF => ?_
          refine e_p (v := (.bool t_13.2)) 5 hF rfl (ex_extract rfl rfl) rfl rfl (by kernel_rfl) (by kernel_rfl) (by kernel_rfl) fun a hF => ?_
          refine e_one 7 (by kernel_rfl) ?_
          refine e_store (vs := [(.int .i64 t_13.1.Num), (.int .i64 t_13.1.Den)]) (cs' := [(.int .i64 t_13.1.Num), (.int .i64 t_13.1.Den)]) 0 0 hF hS rfl rfl sz26 rfl rfl rfl rfl rfl rfl rfl rfl fun a w hF hS => ?_
          refine e_p (v := (.bool t_13.2)) 8 hF rfl (ex_assign rfl) rfl rfl (by kernel_rfl) (by kernel_rfl) (by kernel_rfl) fun a hF => ?_
          refine e_end (by kernel_rfl) (n_jn ?_) _
          obtain rfl := someI hj2
          exact ⟨b14, _, _, rfl, hF.sub ⟨rfl, rfl, rfl, rfl, rfl, trivial⟩, hS.mask [true, true, true, false]⟩
      · refine e_alloc (cs := [(.int .i64 0), (.int .i64 0)]) hF hS rfl rfl rfl rfl fun a w b14 hF hS => ?_
        refine e_one 0 (by kernel_rfl) ?_
        refine e_call (vs := [(.int .i64 1)]) hF hS rfl Try.func97 (by kernel_rfl) rfl rfl rfl (c_spec_fInt 1 t_12 ht_12 _ m hS.vis) ?_
        rintro a w _ rfl hF hS
        refine e_one 2 (by kernel_rfl) ?_
        refine e_call (vs := [(.agg #[(.int .i64 t_12.Num), (.int .i64 t_12.Den)]), (.agg #[(.int .i64 p_a.Num), (.int .i64 p_a.Den)])]) hF hS rfl Try.func120 (by kernel_rfl) rfl rfl rfl (c_spec_fAdd t_12 p_a t_13 ht_13 _ m hS.vis) ?_
        rintro a w _ rfl hF hS
        refine e_p (v := (.tuple #[(.agg #[(.int .i64 t_13.1.Num), (.int .i64 t_13.1.Den)]), (.bool t_13.2)])) 3 hF rfl (ex_move rfl) rfl rfl (by kernel_rfl) (by kernel_rfl) (by kernel_rfl) fun a hF => ?_
        refine e_p (v := (.agg #[(.int .i64 t_13.1.Num), (.int .i64 t_13.1.Den)])) 4 hF rfl (ex_extract rfl rfl) rfl rfl (by kernel_rfl) (by kernel_rfl) (by kernel_rfl) fun a hF => ?_
        refine e_p (v := (.bool t_13.2)) 5 hF rfl (ex_extract rfl rfl) rfl rfl (by kernel_rfl) (by kernel_rfl) (by kernel_rfl) fun a hF => ?_
        refine e_one 7 (by kernel_rfl) ?_
        refine e_store (vs := [(.int .i64 t_13.1.Num), (.int .i64 t_13.1.Den)]) (cs' := [(.int .i64 t_13.1.Num), (.int .i64 t_13.1.Den)]) 0 0 hF hS rfl rfl sz26 rfl rfl rfl rfl rfl rfl rfl rfl fun a w hF hS => ?_
        refine e_p (v := (.bool t_13.2)) 8 hF rfl (ex_assign rfl) rfl rfl (by kernel_rfl) (by kernel_rfl) (by kernel_rfl) fun a hF => ?_
        refine e_end (by kernel_rfl) (n_jn ?_) _
        obtain rfl := someI hj2
        exact ⟨b14, _, _, rfl, hF.sub ⟨rfl, rfl, rfl, rfl, rfl, trivial⟩, hS.mask [true, true, true, false]⟩
    · rintro a w ⟨b14, two_15, y_16, rfl, hF, hS⟩
      refine n_sq ?_
      refine q_seq ?_
      refine q_seq ?_
      obtain ⟨t_17, hj3, hr⟩ := bindS hr
      refine q_join (fun a w => Fr a 32 [(2, (.pointer (some ⟨b2, 0, none⟩))), (4, (.pointer (some ⟨b7, 0, none⟩))), (6, (.pointer (some ⟨b14, 0, none⟩))), (25, (.bool t_17))] ∧ St [] w0 w m [[⟨b14, [(.int .i64 y_16.Num), (.int .i64 y_16.Den)], 26⟩], [⟨b7, [(.int .i64 x_9.Num), (.int .i64 x_9.Den)], 26⟩], [⟨b2, [(.int .i64 0), (.int .i64 0)], 26⟩]]) ?_ ?_
      · refine q_region ?_
        refine q_x (v := (.bool one_8)) hF hS (ex_move rfl) rfl rfl fun a hF => ?_
        refine q_x (v := (.bool (!one_8))) hF hS (ex_not rfl) rfl rfl fun a hF => ?_
        refine q_x (v := (.bool (!one_8))) hF hS (ex_move rfl) rfl rfl fun a hF => ?_
        rcases hc4 : (!one_8) with _ | _
        · have hj3 := cond_f hc4 hj3
          refine q_xg (v := (.bool two_15)) hF hS (ex_move rfl) (wanted_t hF rfl rfl rfl hc4) rfl fun a hF => ?_
          refine q_xg (v := (.bool (!two_15))) hF hS (ex_not rfl) (wanted_t hF rfl rfl rfl hc4) rfl fun a hF => ?_
          refine q_x (v := (.bool (!two_15))) hF hS (ex_pick_f rfl rfl hc4) rfl rfl fun a hF => ?_
          refine q_end (n_jn ?_)
          obtain rfl := someI hj3
          exact ⟨hF.sub ⟨rfl, rfl, rfl, rfl, trivial⟩, hS⟩
        · have hj3 := cond_t hc4 hj3
          refine q_skip hF (wanted_f hF rfl rfl rfl hc4 rfl) rfl fun a hF => ?_
          refine q_skip hF (wanted_f hF rfl rfl rfl hc4 rfl) rfl fun a hF => ?_
          refine q_x (v := (.bool true)) hF hS (ex_pick_t rfl rfl hc4) rfl rfl fun a hF => ?_
          refine q_end (n_jn ?_)
          obtain rfl := someI hj3
          exact ⟨hF.sub ⟨rfl, rfl, rfl, rfl, trivial⟩, hS⟩
      · rintro a w ⟨hF, hS⟩
        refine n_sq ?_
        rcases hc5 : (t_17) with _ | _
        · have hr := cond_f hc5 hr
          refine q_cond_f hF rfl hc5 ?_
          refine q_skipc (n_sq ?_)
          refine q_seq ?_
          refine q_region ?_
          refine q_x (v := (.agg #[(.int .i64 x_9.Num), (.int .i64 x_9.Den)])) hF hS (ex_loadA (vs := [(.int .i64 x_9.Num), (.int .i64 x_9.Den)]) 1 0 Try.underlying26 rfl sz26 rfl rfl rfl rfl) rfl rfl fun a hF => ?_
          refine q_x (v := (.agg #[(.int .i64 y_16.Num), (.int .i64 y_16.Den)])) hF hS (ex_loadA (vs := [(.int .i64 y_16.Num), (.int .i64 y_16.Den)]) 0 0 Try.underlying26 rfl sz26 rfl rfl rfl rfl) rfl rfl fun a hF => ?_
          obtain ⟨t_18, ht_18, hr⟩ := bindS hr
          refine q_call (vs := [(.agg #[(.int .i64 x_9.Num), (.int .i64 x_9.Den)]), (.agg #[(.int .i64 y_16.Num), (.int .i64 y_16.Den)])]) hF hS Try.func71 (by kernel_rfl) rfl rfl rfl (c_spec_fDiv x_9 y_16 t_18 ht_18 _ m hS.vis) ?_
          rintro a w _ rfl hF hS
          refine q_x (v := (.agg #[(.int .i64 t_18.1.Num), (.int .i64 t_18.1.Den)])) hF hS (ex_extract rfl rfl) rfl rfl fun a hF => ?_
          refine q_x (v := (.bool t_18.2)) hF hS (ex_extract rfl rfl) rfl rfl fun a hF => ?_
          refine q_store (vs := [(.int .i64 t_18.1.Num), (.int .i64 t_18.1.Den)]) (cs' := [(.int .i64 t_18.1.Num), (.int .i64 t_18.1.Den)]) 2 0 hF hS sz26 rfl rfl rfl rfl rfl rfl rfl rfl fun a w hF hS => ?_
          refine q_x (v := (.bool t_18.2)) hF hS (ex_assign rfl) rfl rfl fun a hF => ?_
          refine q_end (n_sq (q_ret ?_))
          obtain rfl := someI hr
          exact ret_of hF hS rfl (.cellA (us := [(.int .i64 t_18.1.Num), (.int .i64 t_18.1.Den)]) 2 0 Try.underlying26 rfl sz26 rfl rfl rfl rfl (.tmp rfl .nil)) rfl
        · have hr := cond_t hc5 hr
          refine q_cond_t hF rfl hc5 ?_
          refine q_seq ?_
          refine q_region ?_
          refine q_x (v := (.agg #[(.int .i64 0), (.int .i64 0)])) hF hS (ex_build (cells := [(.int .i64 0), (.int .i64 0)]) rfl (by kernel_rfl)) rfl rfl fun a hF => ?_
          refine q_store (vs := [(.int .i64 0), (.int .i64 0)]) (cs' := [(.int .i64 0), (.int .i64 0)]) 2 0 hF hS sz26 rfl rfl rfl rfl rfl rfl rfl rfl fun a w hF hS => ?_
          refine q_x (v := (.bool false)) hF hS (ex_assign rfl) rfl rfl fun a hF => ?_
          refine q_end (n_sq (q_ret (r_sq ?_)))
          obtain rfl := someI hr
          exact ret_of hF hS rfl (.cellA (us := [(.int .i64 0), (.int .i64 0)]) 2 0 Try.underlying26 rfl sz26 rfl rfl rfl rfl (.tmp rfl .nil)) rfl

theorem c_spec_fMul (p_a : impl_Frac) (p_b : impl_Frac) (r : impl_Frac × Bool) (hr : spec_fMul p_a p_b = some r) (w0 : World) (m : Mem) (hv : Vis m w0) :
    Ret Try.prog 96 [(.agg #[(.int .i64 p_a.Num), (.int .i64 p_a.Den)]), (.agg #[(.int .i64 p_b.Num), (.int .i64 p_b.Den)])] w0 (fun v _ => v = (.tuple #[(.agg #[(.int .i64 r.1.Num), (.int .i64 r.1.Den)]), (.bool r.2)])) := by
  unfold spec_fMul at hr
  refine ret_start Try.func96 rfl 19 rfl rfl m hv fun a hF hS => ?_
  refine q_seq ?_
  refine q_region ?_
  refine q_box (cs := [(.int .i64 p_a.Num), (.int .i64 p_a.Den)]) hF hS rfl rfl rfl fun a w b1 hF hS => ?_
  refine q_box (cs := [(.int .i64 p_b.Num), (.int .i64 p_b.Den)]) hF hS rfl rfl rfl fun a w b2 hF hS => ?_
  refine q_alloc (cs := [(.int .i64 0), (.int .i64 0)]) hF hS rfl rfl rfl fun a w b3 hF hS => ?_
  refine q_x (v := (.bool false)) hF hS (ex_assign rfl) rfl rfl fun a hF => ?_
  refine q_end (n_sq ?_)
  refine q_seq ?_
  refine q_region ?_
  refine q_x (v := (.pointer (some ⟨b1, 0, none⟩))) hF hS (ex_fieldAddr Try.underlying26 rfl sz3 rfl rfl) rfl rfl fun a hF => ?_
  refine q_x (v := (.int .i64 p_a.Num)) hF hS (ex_load1 2 0 Try.underlying3 rfl rfl rfl rfl) rfl rfl fun a hF => ?_
  refine q_x (v := (.pointer (some ⟨b2, 0, none⟩))) hF hS (ex_fieldAddr Try.underlying26 rfl sz3 rfl rfl) rfl rfl fun a hF => ?_
  refine q_x (v := (.int .i64 p_b.Num)) hF hS (ex_load1 1 0 Try.underlying3 rfl rfl rfl rfl) rfl rfl fun a hF => ?_
  refine q_x (v := (.int .i64 (w64 (p_a.Num * p_b.Num)))) hF hS (ex_ibin rfl rfl rfl) rfl rfl fun a hF => ?_
  refine q_x (v := (.pointer (some ⟨b1, 1, none⟩))) hF hS (ex_fieldAddr Try.underlying26 rfl sz3 rfl rfl) rfl rfl fun a hF => ?_
  refine q_x (v := (.int .i64 p_a.Den)) hF hS (ex_load1 2 0 Try.underlying3 rfl rfl rfl rfl) rfl rfl fun a hF => ?_
  refine q_x (v := (.pointer (some ⟨b2, 1, none⟩))) hF hS (ex_fieldAddr Try.underlying26 rfl sz3 rfl rfl) rfl rfl fun a hF => ?_
  refine q_x (v := (.int .i64 p_b.Den)) hF hS (ex_load1 1 0 Try.underlying3 rfl rfl rfl rfl) rfl rfl fun a hF => ?_
  refine q_x (v := (.int .i64 (w64 (p_a.Den * p_b.Den)))) hF hS (ex_ibin rfl rfl rfl) rfl rfl fun a hF => ?_
  obtain ⟨t_4, ht_4, hr⟩ := bindS hr
  refine q_call (vs := [(.int .i64 (w64 (p_a.Num * p_b.Num))), (.int .i64 (w64 (p_a.Den * p_b.Den)))]) hF hS Try.func104 (by kernel_rfl) rfl rfl rfl (c_spec_fMake (w64 (p_a.Num * p_b.Num)) (w64 (p_a.Den * p_b.Den)) t_4 ht_4 _ m hS.vis) ?_
  rintro a w _ rfl hF hS
  refine q_x (v := (.agg #[(.int .i64 t_4.1.Num), (.int .i64 t_4.1.Den)])) hF hS (ex_extract rfl rfl) rfl rfl fun a hF => ?_
  refine q_x (v := (.bool t_4.2)) hF hS (ex_extract rfl rfl) rfl rfl fun a hF => ?_
  refine q_store (vs := [(.int .i64 t_4.1.Num), (.int .i64 t_4.1.Den)]) (cs' := [(.int .i64 t_4.1.Num), (.int .i64 t_4.1.Den)]) 0 0 hF hS sz26 rfl rfl rfl rfl rfl rfl rfl rfl fun a w hF hS => ?_
  refine q_x (v := (.bool t_4.2)) hF hS (ex_assign rfl) rfl rfl fun a hF => ?_
  refine q_end (n_sq (q_ret ?_))
  obtain rfl := someI hr
  exact ret_of hF hS rfl (.cellA (us := [(.int .i64 t_4.1.Num), (.int .i64 t_4.1.Den)]) 0 0 Try.underlying26 rfl sz26 rfl rfl rfl rfl (.tmp rfl .nil)) rfl

theorem c_spec_fPow (p_f : impl_Frac) (p_k : Int) (r : impl_Frac × Bool) (hr : spec_fPow p_f p_k = some r) (w0 : World) (m : Mem) (hv : Vis m w0) :
    Ret Try.prog 110 [(.agg #[(.int .i64 p_f.Num), (.int .i64 p_f.Den)]), (.int .i64 p_k)] w0 (fun v _ => v = (.tuple #[(.agg #[(.int .i64 r.1.Num), (.int .i64 r.1.Den)]), (.bool r.2)])) := by
  unfold spec_fPow at hr
  refine ret_start Try.func110 rfl 25 rfl rfl m hv fun a hF hS => ?_
  refine q_seq ?_
  refine q_region ?_
  refine q_box (cs := [(.int .i64 p_f.Num), (.int .i64 p_f.Den)]) hF hS rfl rfl rfl fun a w b1 hF hS => ?_
  refine q_alloc (cs := [(.int .i64 0), (.int .i64 0)]) hF hS rfl rfl rfl fun a w b2 hF hS => ?_
  refine q_x (v := (.bool false)) hF hS (ex_assign rfl) rfl rfl fun a hF => ?_
  refine q_end (n_sq ?_)
  refine q_seq ?_
  refine q_region ?_
  obtain ⟨t_3, ht_3, hr⟩ := bindS hr
  refine q_call (vs := [(.int .i64 1)]) hF hS Try.func97 (by kernel_rfl) rfl rfl rfl (c_spec_fInt 1 t_3 ht_3 _ m hS.vis) ?_
  rintro a w _ rfl hF hS
  refine q_alloc (cs := [(.int .i64 0), (.int .i64 0)]) hF hS rfl rfl rfl fun a w b4 hF hS => ?_
  refine q_store (vs := [(.int .i64 t_3.Num), (.int .i64 t_3.Den)]) (cs' := [(.int .i64 t_3.Num), (.int .i64 t_3.Den)]) 0 0 hF hS sz26 rfl rfl rfl rfl rfl rfl rfl rfl fun a w hF hS => ?_
  refine q_end (n_sq ?_)
  refine q_seq ?_
  refine q_block ?_
  obtain ⟨o1, hl1, hr⟩ := bindS hr
  refine q_loop (fun (s : Int × impl_Frac) a w => ∃ k_5, ∃ out_6, s = (k_5, out_6) ∧ Fr a 25 [(1, (.int .i64 k_5)), (2, (.pointer (some ⟨b1, 0, none⟩))), (4, (.pointer (some ⟨b2, 0, none⟩))), (6, (.pointer (some ⟨b4, 0, none⟩)))] ∧ St [] w0 w m [[⟨b4, [(.int .i64 out_6.Num), (.int .i64 out_6.Den)], 26⟩], [⟨b2, [(.int .i64 0), (.int .i64 0)], 26⟩], [⟨b1, [(.int .i64 p_f.Num), (.int .i64 p_f.Den)], 26⟩]]) (fun (o : (impl_Frac) ⊕ (impl_Frac × Bool)) e a w => ∃ out_9, o = .inl out_9 ∧ e = .exit 0 ∧ Fr a 25 [(4, (.pointer (some ⟨b2, 0, none⟩))), (6, (.pointer (some ⟨b4, 0, none⟩)))] ∧ St [] w0 w m [[⟨b4, [(.int .i64 out_9.Num), (.int .i64 out_9.Den)], 26⟩], [⟨b2, [(.int .i64 0), (.int .i64 0)], 26⟩]]) hl1 ⟨_, _, rfl, hF.sub ⟨rfl, rfl, rfl, rfl, trivial⟩, hS⟩ ?_ ?_
  · clear hF hS
    rintro s a w st ⟨k_5, out_6, rfl, hF, hS⟩ hb1
    unfold spec_fPow_l1 at hb1
    refine q_seq ?_
    refine q_seq ?_
    refine q_region ?_
    refine q_x (v := (.int .i64 k_5)) hF hS (ex_move rfl) rfl rfl fun a hF => ?_
    refine q_x (v := (.bool (decide (0 < k_5)))) hF hS (ex_ibin rfl rfl rfl) rfl rfl fun a hF => ?_
    refine q_end (n_sq ?_)
    rcases hc2 : (decide (0 < k_5)) with _ | _
    · have hb1 := cond_f hc2 hb1
      refine q_cond_f hF rfl hc2 ?_
      refine q_exit (x_sq ?_)
      obtain rfl := someI hb1
      exact ⟨nofun, .inl ⟨_, rfl, rfl, hF.sub ⟨rfl, rfl, trivial⟩, hS.mask [true, true, false]⟩⟩
    · have hb1 := cond_t hc2 hb1
      refine q_cond_t hF rfl hc2 ?_
      refine q_skipc (n_sq ?_)
      refine q_seq ?_
      refine q_block ?_
      refine q_seq ?_
      refine q_region ?_
      refine q_x (v := (.agg #[(.int .i64 out_6.Num), (.int .i64 out_6.Den)])) hF hS (ex_loadA (vs := [(.int .i64 out_6.Num), (.int .i64 out_6.Den)]) 0 0 Try.underlying26 rfl sz26 rfl rfl rfl rfl) rfl rfl fun a hF => ?_
      refine q_x (v := (.agg #[(.int .i64 p_f.Num), (.int .i64 p_f.Den)])) hF hS (ex_loadA (vs := [(.int .i64 p_f.Num), (.int .i64 p_f.Den)]) 2 0 Try.underlying26 rfl sz26 rfl rfl rfl rfl) rfl rfl fun a hF => ?_
      obtain ⟨t_7, ht_7, hb1⟩ := bindS hb1
      refine q_call (vs := [(.agg #[(.int .i64 out_6.Num), (.int .i64 out_6.Den)]), (.agg #[(.int .i64 p_f.Num), (.int .i64 p_f.Den)])]) hF hS Try.func96 (by kernel_rfl) rfl rfl rfl (c_spec_fMul out_6 p_f t_7 ht_7 _ m hS.vis) ?_
      rintro a w _ rfl hF hS
      refine q_x (v := (.tuple #[(.agg #[(.int .i64 t_7.1.Num), (.int .i64 t_7.1.Den)]), (.bool t_7.2)])) hF hS (ex_move rfl) rfl rfl fun a hF => ?_
      refine q_x (v := (.agg #[(.int .i64 t_7.1.Num), (.int .i64 t_7.1.Den)])) hF hS (ex_extract rfl rfl) rfl rfl fun a hF => ?_
      refine q_x (v := (.bool t_7.2)) hF hS (ex_extract rfl rfl) rfl rfl fun a hF => ?_
      refine q_alloc (cs := [(.int .i64 0), (.int .i64 0)]) hF hS rfl rfl rfl fun a w b8 hF hS => ?_
      refine q_store (vs := [(.int .i64 t_7.1.Num), (.int .i64 t_7.1.Den)]) (cs' := [(.int .i64 t_7.1.Num), (.int .i64 t_7.1.Den)]) 0 0 hF hS sz26 rfl rfl rfl rfl rfl rfl rfl rfl fun a w hF hS => ?_
      refine q_x (v := (.bool t_7.2)) hF hS (ex_assign rfl) rfl rfl fun a hF => ?_
      refine q_end (n_sq ?_)
      refine q_seq ?_
      refine q_seq ?_
      refine q_region ?_
      refine q_x (v := (.bool t_7.2)) hF hS (ex_move rfl) rfl rfl fun a hF => ?_
      refine q_x (v := (.bool (!t_7.2))) hF hS (ex_not rfl) rfl rfl fun a hF => ?_
      refine q_end (n_sq ?_)
      rcases hc3 : (!t_7.2) with _ | _
      · have hb1 := cond_f hc3 hb1
        refine q_cond_f hF rfl hc3 ?_
        refine q_skipc (n_sq ?_)
        refine q_region ?_
        refine q_x (v := (.agg #[(.int .i64 t_7.1.Num), (.int .i64 t_7.1.Den)])) hF hS (ex_loadA (vs := [(.int .i64 t_7.1.Num), (.int .i64 t_7.1.Den)]) 0 0 Try.underlying26 rfl sz26 rfl rfl rfl rfl) rfl rfl fun a hF => ?_
        refine q_store (vs := [(.int .i64 t_7.1.Num), (.int .i64 t_7.1.Den)]) (cs' := [(.int .i64 t_7.1.Num), (.int .i64 t_7.1.Den)]) 1 0 hF hS sz26 rfl rfl rfl rfl rfl rfl rfl rfl fun a w hF hS => ?_
        refine q_end (n_ib (n_sq ?_))
        refine q_region ?_
        refine q_x (v := (.int .i64 k_5)) hF hS (ex_move rfl) rfl rfl fun a hF => ?_
        refine q_x (v := (.int .i64 (w64 (k_5 - 1)))) hF hS (ex_ibin rfl rfl rfl) rfl rfl fun a hF => ?_
        refine q_x (v := (.int .i64 (w64 (k_5 - 1)))) hF hS (ex_assign rfl) rfl rfl fun a hF => ?_
        refine q_end ?_
        obtain rfl := someI hb1
        exact ⟨rfl, _, _, rfl, hF.sub ⟨rfl, rfl, rfl, rfl, trivial⟩, hS.mask [false, true, true, true]⟩
      · have hb1 := cond_t hc3 hb1
        refine q_cond_t hF rfl hc3 ?_
        refine q_seq ?_
        refine q_region ?_
        refine q_x (v := (.agg #[(.int .i64 0), (.int .i64 0)])) hF hS (ex_build (cells := [(.int .i64 0), (.int .i64 0)]) rfl (by kernel_rfl)) rfl rfl fun a hF => ?_
        refine q_store (vs := [(.int .i64 0), (.int .i64 0)]) (cs' := [(.int .i64 0), (.int .i64 0)]) 2 0 hF hS sz26 rfl rfl rfl rfl rfl rfl rfl rfl fun a w hF hS => ?_
        refine q_x (v := (.bool false)) hF hS (ex_assign rfl) rfl rfl fun a hF => ?_
        refine q_end (n_sq (q_ret (r_sq (r_ib (r_sq ?_)))))
        obtain rfl := someI hb1
        refine ⟨nofun, .inr fun ho => ?_⟩
        subst ho
        refine r_ib (r_sq ?_)
        obtain rfl := someI hr
        exact ret_of hF hS rfl (.cellA (us := [(.int .i64 0), (.int .i64 0)]) 2 0 Try.underlying26 rfl sz26 rfl rfl rfl rfl (.tmp rfl .nil)) rfl
  · rintro e a w ⟨out_9, rfl, rfl, hF, hS⟩
    refine x_ib (n_sq ?_)
    refine q_seq ?_
    refine q_region ?_
    refine q_x (v := (.agg #[(.int .i64 out_9.Num), (.int .i64 out_9.Den)])) hF hS (ex_loadA (vs := [(.int .i64 out_9.Num), (.int .i64 out_9.Den)]) 0 0 Try.underlying26 rfl sz26 rfl rfl rfl rfl) rfl rfl fun a hF => ?_
    refine q_store (vs := [(.int .i64 out_9.Num), (.int .i64 out_9.Den)]) (cs' := [(.int .i64 out_9.Num), (.int .i64 out_9.Den)]) 1 0 hF hS sz26 rfl rfl rfl rfl rfl rfl rfl rfl fun a w hF hS => ?_
    refine q_x (v := (.bool true)) hF hS (ex_assign rfl) rfl rfl fun a hF => ?_
    refine q_end (n_sq (q_ret ?_))
    obtain rfl := someI hr
    exact ret_of hF hS rfl (.cellA (us := [(.int .i64 out_9.Num), (.int .i64 out_9.Den)]) 1 0 Try.underlying26 rfl sz26 rfl rfl rfl rfl (.tmp rfl .nil)) rfl

theorem c_spec_zMass (p_a : impl_Frac) (p_k : Int) (r : impl_Frac × Bool) (hr : spec_zMass p_a p_k = some r) (w0 : World) (m : Mem) (hv : Vis m w0) :
    Ret Try.prog 87 [(.agg #[(.int .i64 p_a.Num), (.int .i64 p_a.Den)]), (.int .i64 p_k)] w0 (fun v _ => v = (.tuple #[(.agg #[(.int .i64 r.1.Num), (.int .i64 r.1.Den)]), (.bool r.2)])) := by
  unfold spec_zMass at hr
  refine ret_start Try.func87 rfl 34 rfl rfl m hv fun a hF hS => ?_
  refine q_seq ?_
  refine q_region ?_
  refine q_box (cs := [(.int .i64 p_a.Num), (.int .i64 p_a.Den)]) hF hS rfl rfl rfl fun a w b1 hF hS => ?_
  refine q_alloc (cs := [(.int .i64 0), (.int .i64 0)]) hF hS rfl rfl rfl fun a w b2 hF hS => ?_
  refine q_x (v := (.bool false)) hF hS (ex_assign rfl) rfl rfl fun a hF => ?_
  refine q_end (n_sq ?_)
  refine q_seq ?_
  refine q_region ?_
  refine q_x (v := (.agg #[(.int .i64 p_a.Num), (.int .i64 p_a.Den)])) hF hS (ex_loadA (vs := [(.int .i64 p_a.Num), (.int .i64 p_a.Den)]) 1 0 Try.underlying26 rfl sz26 rfl rfl rfl rfl) rfl rfl fun a hF => ?_
  obtain ⟨t_3, ht_3, hr⟩ := bindS hr
  refine q_call (vs := [(.agg #[(.int .i64 p_a.Num), (.int .i64 p_a.Den)])]) hF hS Try.func134 (by kernel_rfl) rfl rfl rfl (c_spec_zBase p_a t_3 ht_3 _ m hS.vis) ?_
  rintro a w _ rfl hF hS
  refine q_x (v := (.tuple #[(.agg #[(.int .i64 t_3.1.Num), (.int .i64 t_3.1.Den)]), (.bool t_3.2)])) hF hS (ex_move rfl) rfl rfl fun a hF => ?_
  refine q_x (v := (.agg #[(.int .i64 t_3.1.Num), (.int .i64 t_3.1.Den)])) hF hS (ex_extract rfl rfl) rfl rfl fun a hF => ?_
  refine q_x (v := (.bool t_3.2)) hF hS (ex_extract rfl rfl) rfl rfl fun a hF => ?_
  refine q_alloc (cs := [(.int .i64 0), (.int .i64 0)]) hF hS rfl rfl rfl fun a w b4 hF hS => ?_
  refine q_store (vs := [(.int .i64 t_3.1.Num), (.int .i64 t_3.1.Den)]) (cs' := [(.int .i64 t_3.1.Num), (.int .i64 t_3.1.Den)]) 0 0 hF hS sz26 rfl rfl rfl rfl rfl rfl rfl rfl fun a w hF hS => ?_
  refine q_x (v := (.bool t_3.2)) hF hS (ex_assign rfl) rfl rfl fun a hF => ?_
  refine q_end (n_sq ?_)
  refine q_seq ?_
  obtain ⟨j1, hj1, hr⟩ := bindS hr
  refine q_join (fun a w => ∃ b8, ∃ two_9, ∃ y_10, j1 = (two_9, y_10) ∧ Fr a 34 [(4, (.pointer (some ⟨b2, 0, none⟩))), (6, (.pointer (some ⟨b4, 0, none⟩))), (7, (.bool t_3.2)), (8, (.pointer (some ⟨b8, 0, none⟩))), (9, (.bool two_9))] ∧ St [] w0 w m [[⟨b8, [(.int .i64 y_10.Num), (.int .i64 y_10.Den)], 26⟩], [⟨b4, [(.int .i64 t_3.1.Num), (.int .i64 t_3.1.Den)], 26⟩], [⟨b2, [(.int .i64 0), (.int .i64 0)], 26⟩]]) ?_ ?_
  · refine e_region [8] mixed fun w' hw' => ?_
    have hS := hS.below hw'
    refine e_x (v := (.agg #[(.int .i64 p_a.Num), (.int .i64 p_a.Den)])) 0 hF hS rfl (ex_loadA (vs := [(.int .i64 p_a.Num), (.int .i64 p_a.Den)]) 2 0 Try.underlying26 rfl sz26 rfl rfl rfl rfl) rfl rfl (by kernel_rfl) (by kernel_rfl) (by kernel_rfl) (by kernel_rfl) fun a hF => ?_
    refine e_p (v := (.int .i64 p_k)) 1 hF rfl (ex_move rfl) rfl rfl (by kernel_rfl) (by kernel_rfl) (by kernel_rfl) fun a hF => ?_
    obtain ⟨t_6, ht_6, hj1⟩ := bindS hj1
    obtain ⟨t_7, ht_7, hj1⟩ := bindS hj1
    refine e_all [2, 7] (by kernel_rfl) rfl ⟨?_, ?_, trivial⟩
    · refine e_call (vs := [(.int .i64 p_k)]) hF hS rfl Try.func135 (by kernel_rfl) rfl rfl rfl (c_spec_l1Abs p_k t_6 ht_6 _ m hS.vis) ?_
      rintro a w _ rfl hF hS
      refine e_all [3, 7] (by kernel_rfl) rfl ⟨?_, ?_, trivial⟩
      · refine e_call (vs := [(.agg #[(.int .i64 p_a.Num), (.int .i64 p_a.Den)]), (.int .i64 t_6)]) hF hS rfl Try.func110 (by kernel_rfl) rfl rfl rfl (c_spec_fPow p_a t_6 t_7 ht_7 _ m hS.vis) ?_
        rintro a w _ rfl hF hS
        refine e_p (v := (.tuple #[(.agg #[(.int .i64 t_7.1.Num), (.int .i64 t_7.1.Den)]), (.bool t_7.2)])) 4 hF rfl (ex_move rfl) rfl rfl (by kernel_rfl) (by kernel_rfl) (by kernel_rfl) fun a hF => ?_
        refine e_p (v := (.agg #[(.int .i64 t_7.1.Num), (.int .i64 t_7.1.Den)])) 5 hF rfl (ex_extract rfl rfl) rfl rfl (by kernel_rfl) (by kernel_rfl) (by kernel_rfl) fun a hF => ?_
        refine e_p (v := (.bool t_7.2)) 6 hF rfl (ex_extract rfl rfl) rfl rfl (by kernel_rfl) (by kernel_rfl) (by kernel_rfl) fun a hF => ?_
        refine e_one 7 (by kernel_rfl) ?_
        refine e_alloc (cs := [(.int .i64 0), (.int .i64 0)]) hF hS rfl rfl rfl rfl fun a w b8 hF hS => ?_
        refine e_one 8 (by kernel_rfl) ?_
        refine e_store (vs := [(.int .i64 t_7.1.Num), (.int .i64 t_7.1.Den)]) (cs' := [(.int .i64 t_7.1.Num), (.int .i64 t_7.1.Den)]) 0 0 hF hS rfl rfl sz26 rfl rfl rfl rfl rfl rfl rfl rfl fun a w hF hS => ?_
        refine e_p (v := (.bool t_7.2)) 9 hF rfl (ex_assign rfl) rfl rfl (by kernel_rfl) (by kernel_rfl) (by kernel_rfl) fun a hF => ?_
        refine e_end (by kernel_rfl) (n_jn ?_) _
        obtain rfl := someI hj1
        exact ⟨b8, _, _, rfl, hF.sub ⟨rfl, rfl, rfl, rfl, rfl, trivial⟩, hS.mask [true, true, true, false]⟩
      · refine e_alloc (cs := [(.int .i64 0), (.int .i64 0)]) hF hS rfl rfl rfl rfl fun a w b8 hF hS => ?_
        refine e_one 3 (by kernel_rfl) ?_
        refine e_call (vs := [(.agg #[(.int .i64 p_a.Num), (.int .i64 p_a.Den)]), (.int .i64 t_6)]) hF hS rfl Try.func110 (by kernel_rfl) rfl rfl rfl (c_spec_fPow p_a t_6 t_7 ht_7 _ m hS.vis) ?_
        rintro a w _ rfl hF hS
        refine e_p (v := (.tuple #[(.agg #[(.int .i64 t_7.1.Num), (.int .i64 t_7.1.Den)]), (.bool t_7.2)])) 4 hF rfl (ex_move rfl) rfl rfl (by kernel_rfl) (by kernel_rfl) (by kernel_rfl) fun a hF => ?_
        refine e_p (v := (.agg #[(.int .i64 t_7.1.Num), (.int .i64 t_7.1.Den)])) 5 hF rfl (ex_extract rfl rfl) rfl rfl (by kernel_rfl) (by kernel_rfl) (by kernel_rfl) fun a hF => ?_
        refine e_p (v := (.bool t_7.2)) 6 hF rfl (ex_extract rfl rfl) rfl rfl (by kernel_rfl) (by kernel_rfl) (by kernel_rfl) fun a hF => ?_
        refine e_one 8 (by kernel_rfl) ?_
        refine e_store (vs := [(.int .i64 t_7.1.Num), (.int .i64 t_7.1.Den)]) (cs' := [(.int .i64 t_7.1.Num), (.int .i64 t_7.1.Den)]) 0 0 hF hS rfl rfl sz26 rfl rfl rfl rfl rfl rfl rfl rfl fun a w hF hS => ?_
        refine e_p (v := (.bool t_7.2)) 9 hF rfl (ex_assign rfl) rfl rfl (by kernel_rfl) (by kernel_rfl) (by kernel_rfl) fun a hF => ?_
        refine e_end (by kernel_rfl) (n_jn ?_) _
        obtain rfl := someI hj1
        exact ⟨b8, _, _, rfl, hF.sub ⟨rfl, rfl, rfl, rfl, rfl, trivial⟩, hS.mask [true, true, true, false]⟩
    · refine e_alloc (cs := [(.int .i64 0), (.int .i64 0)]) hF hS rfl rfl rfl rfl fun a w b8 hF hS => ?_
      refine e_one 2 (by kernel_rfl) ?_
      refine e_call (vs := [(.int .i64 p_k)]) hF hS rfl Try.func135 (by kernel_rfl) rfl rfl rfl (c_spec_l1Abs p_k t_6 ht_6 _ m hS.vis) ?_
      rintro a w _ rfl hF hS
      refine e_one 3 (by kernel_rfl) ?_
      refine e_call (vs := [(.agg #[(.int .i64 p_a.Num), (.int .i64 p_a.Den)]), (.int .i64 t_6)]) hF hS rfl Try.func110 (by kernel_rfl) rfl rfl rfl (c_spec_fPow p_a t_6 t_7 ht_7 _ m hS.vis) ?_
      rintro a w _ rfl hF hS
      refine e_p (v := (.tuple #[(.agg #[(.int .i64 t_7.1.Num), (.int .i64 t_7.1.Den)]), (.bool t_7.2)])) 4 hF rfl (ex_move rfl) rfl rfl (by kernel_rfl) (by kernel_rfl) (by kernel_rfl) fun a hF => ?_
      refine e_p (v := (.agg #[(.int .i64 t_7.1.Num), (.int .i64 t_7.1.Den)])) 5 hF rfl (ex_extract rfl rfl) rfl rfl (by kernel_rfl) (by kernel_rfl) (by kernel_rfl) fun a hF => ?_
      refine e_p (v := (.bool t_7.2)) 6 hF rfl (ex_extract rfl rfl) rfl rfl (by kernel_rfl) (by kernel_rfl) (by kernel_rfl) fun a hF => ?_
      refine e_one 8 (by kernel_rfl) ?_
      refine e_store (vs := [(.int .i64 t_7.1.Num), (.int .i64 t_7.1.Den)]) (cs' := [(.int .i64 t_7.1.Num), (.int .i64 t_7.1.Den)]) 0 0 hF hS rfl rfl sz26 rfl rfl rfl rfl rfl rfl rfl rfl fun a w hF hS => ?_
      refine e_p (v := (.bool t_7.2)) 9 hF rfl (ex_assign rfl) rfl rfl (by kernel_rfl) (by kernel_rfl) (by kernel_rfl) fun a hF => ?_
      refine e_end (by kernel_rfl) (n_jn ?_) _
      obtain rfl := someI hj1
      exact ⟨b8, _, _, rfl, hF.sub ⟨rfl, rfl, rfl, rfl, rfl, trivial⟩, hS.mask [true, true, true, false]⟩
  · rintro a w ⟨b8, two_9, y_10, rfl, hF, hS⟩
    refine n_sq ?_
    refine q_seq ?_
    refine q_seq ?_
    obtain ⟨t_11, hj2, hr⟩ := bindS hr
    refine q_join (fun a w => Fr a 34 [(4, (.pointer (some ⟨b2, 0, none⟩))), (6, (.pointer (some ⟨b4, 0, none⟩))), (8, (.pointer (some ⟨b8, 0, none⟩))), (27, (.bool t_11))] ∧ St [] w0 w m [[⟨b8, [(.int .i64 y_10.Num), (.int .i64 y_10.Den)], 26⟩], [⟨b4, [(.int .i64 t_3.1.Num), (.int .i64 t_3.1.Den)], 26⟩], [⟨b2, [(.int .i64 0), (.int .i64 0)], 26⟩]]) ?_ ?_
    · refine q_region ?_
      refine q_x (v := (.bool t_3.2)) hF hS (ex_move rfl) rfl rfl fun a hF => ?_
      refine q_x (v := (.bool (!t_3.2))) hF hS (ex_not rfl) rfl rfl fun a hF => ?_
      refine q_x (v := (.bool (!t_3.2))) hF hS (ex_move rfl) rfl rfl fun a hF => ?_
      rcases hc3 : (!t_3.2) with _ | _
      · have hj2 := cond_f hc3 hj2
        refine q_xg (v := (.bool two_9)) hF hS (ex_move rfl) (wanted_t hF rfl rfl rfl hc3) rfl fun a hF => ?_
        refine q_xg (v := (.bool (!two_9))) hF hS (ex_not rfl) (wanted_t hF rfl rfl rfl hc3) rfl fun a hF => ?_
        refine q_x (v := (.bool (!two_9))) hF hS (ex_pick_f rfl rfl hc3) rfl rfl fun a hF => ?_
        refine q_end (n_jn ?_)
        obtain rfl := someI hj2
        exact ⟨hF.sub ⟨rfl, rfl, rfl, rfl, trivial⟩, hS⟩
      · have hj2 := cond_t hc3 hj2
        refine q_skip hF (wanted_f hF rfl rfl rfl hc3 rfl) rfl fun a hF => ?_
        refine q_skip hF (wanted_f hF rfl rfl rfl hc3 rfl) rfl fun a hF => ?_
        refine q_x (v := (.bool true)) hF hS (ex_pick_t rfl rfl hc3) rfl rfl fun a hF => ?_
        refine q_end (n_jn ?_)
        obtain rfl := someI hj2
        exact ⟨hF.sub ⟨rfl, rfl, rfl, rfl, trivial⟩, hS⟩
    · rintro a w ⟨hF, hS⟩
      refine n_sq ?_
      rcases hc4 : (t_11) with _ | _
      · have hr := cond_f hc4 hr
        refine q_cond_f hF rfl hc4 ?_
        refine q_skipc (n_sq ?_)
        refine q_seq ?_
        refine q_region ?_
        refine q_x (v := (.agg #[(.int .i64 t_3.1.Num), (.int .i64 t_3.1.Den)])) hF hS (ex_loadA (vs := [(.int .i64 t_3.1.Num), (.int .i64 t_3.1.Den)]) 1 0 Try.underlying26 rfl sz26 rfl rfl rfl rfl) rfl rfl fun a hF => ?_
        refine q_x (v := (.agg #[(.int .i64 y_10.Num), (.int .i64 y_10.Den)])) hF hS (ex_loadA (vs := [(.int .i64 y_10.Num), (.int .i64 y_10.Den)]) 0 0 Try.underlying26 rfl sz26 rfl rfl rfl rfl) rfl rfl fun a hF => ?_
        obtain ⟨t_12, ht_12, hr⟩ := bindS hr
        refine q_call (vs := [(.agg #[(.int .i64 t_3.1.Num), (.int .i64 t_3.1.Den)]), (.agg #[(.int .i64 y_10.Num), (.int .i64 y_10.Den)])]) hF hS Try.func96 (by kernel_rfl) rfl rfl rfl (c_spec_fMul t_3.1 y_10 t_12 ht_12 _ m hS.vis) ?_
        rintro a w _ rfl hF hS
        refine q_x (v := (.agg #[(.int .i64 t_12.1.Num), (.int .i64 t_12.1.Den)])) hF hS (ex_extract rfl rfl) rfl rfl fun a hF => ?_
        refine q_x (v := (.bool t_12.2)) hF hS (ex_extract rfl rfl) rfl rfl fun a hF => ?_
        refine q_store (vs := [(.int .i64 t_12.1.Num), (.int .i64 t_12.1.Den)]) (cs' := [(.int .i64 t_12.1.Num), (.int .i64 t_12.1.Den)]) 2 0 hF hS sz26 rfl rfl rfl rfl rfl rfl rfl rfl fun a w hF hS => ?_
        refine q_x (v := (.bool t_12.2)) hF hS (ex_assign rfl) rfl rfl fun a hF => ?_
        refine q_end (n_sq (q_ret ?_))
        obtain rfl := someI hr
        exact ret_of hF hS rfl (.cellA (us := [(.int .i64 t_12.1.Num), (.int .i64 t_12.1.Den)]) 2 0 Try.underlying26 rfl sz26 rfl rfl rfl rfl (.tmp rfl .nil)) rfl
      · have hr := cond_t hc4 hr
        refine q_cond_t hF rfl hc4 ?_
        refine q_seq ?_
        refine q_region ?_
        refine q_x (v := (.agg #[(.int .i64 0), (.int .i64 0)])) hF hS (ex_build (cells := [(.int .i64 0), (.int .i64 0)]) rfl (by kernel_rfl)) rfl rfl fun a hF => ?_
        refine q_store (vs := [(.int .i64 0), (.int .i64 0)]) (cs' := [(.int .i64 0), (.int .i64 0)]) 2 0 hF hS sz26 rfl rfl rfl rfl rfl rfl rfl rfl fun a w hF hS => ?_
        refine q_x (v := (.bool false)) hF hS (ex_assign rfl) rfl rfl fun a hF => ?_
        refine q_end (n_sq (q_ret (r_sq ?_)))
        obtain rfl := someI hr
        exact ret_of hF hS rfl (.cellA (us := [(.int .i64 0), (.int .i64 0)]) 2 0 Try.underlying26 rfl sz26 rfl rfl rfl rfl (.tmp rfl .nil)) rfl

theorem c_spec_zTail (p_a : impl_Frac) (p_k : Int) (r : impl_Frac × Bool) (hr : spec_zTail p_a p_k = some r) (w0 : World) (m : Mem) (hv : Vis m w0) :
    Ret Try.prog 95 [(.agg #[(.int .i64 p_a.Num), (.int .i64 p_a.Den)]), (.int .i64 p_k)] w0 (fun v _ => v = (.tuple #[(.agg #[(.int .i64 r.1.Num), (.int .i64 r.1.Den)]), (.bool r.2)])) := by
  unfold spec_zTail at hr
  refine ret_start Try.func95 rfl 34 rfl rfl m hv fun a hF hS => ?_
  refine q_seq ?_
  refine q_region ?_
  refine q_box (cs := [(.int .i64 p_a.Num), (.int .i64 p_a.Den)]) hF hS rfl rfl rfl fun a w b1 hF hS => ?_
  refine q_alloc (cs := [(.int .i64 0), (.int .i64 0)]) hF hS rfl rfl rfl fun a w b2 hF hS => ?_
  refine q_x (v := (.bool false)) hF hS (ex_assign rfl) rfl rfl fun a hF => ?_
  refine q_end (n_sq ?_)
  refine q_seq ?_
  refine q_region ?_
  refine q_x (v := (.agg #[(.int .i64 p_a.Num), (.int .i64 p_a.Den)])) hF hS (ex_loadA (vs := [(.int .i64 p_a.Num), (.int .i64 p_a.Den)]) 1 0 Try.underlying26 rfl sz26 rfl rfl rfl rfl) rfl rfl fun a hF => ?_
  refine q_x (v := (.int .i64 p_k)) hF hS (ex_move rfl) rfl rfl fun a hF => ?_
  obtain ⟨t_3, ht_3, hr⟩ := bindS hr
  refine q_call (vs := [(.agg #[(.int .i64 p_a.Num), (.int .i64 p_a.Den)]), (.int .i64 p_k)]) hF hS Try.func110 (by kernel_rfl) rfl rfl rfl (c_spec_fPow p_a p_k t_3 ht_3 _ m hS.vis) ?_
  rintro a w _ rfl hF hS
  refine q_x (v := (.tuple #[(.agg #[(.int .i64 t_3.1.Num), (.int .i64 t_3.1.Den)]), (.bool t_3.2)])) hF hS (ex_move rfl) rfl rfl fun a hF => ?_
  refine q_x (v := (.agg #[(.int .i64 t_3.1.Num), (.int .i64 t_3.1.Den)])) hF hS (ex_extract rfl rfl) rfl rfl fun a hF => ?_
  refine q_x (v := (.bool t_3.2)) hF hS (ex_extract rfl rfl) rfl rfl fun a hF => ?_
  refine q_alloc (cs := [(.int .i64 0), (.int .i64 0)]) hF hS rfl rfl rfl fun a w b4 hF hS => ?_
  refine q_store (vs := [(.int .i64 t_3.1.Num), (.int .i64 t_3.1.Den)]) (cs' := [(.int .i64 t_3.1.Num), (.int .i64 t_3.1.Den)]) 0 0 hF hS sz26 rfl rfl rfl rfl rfl rfl rfl rfl fun a w hF hS => ?_
  refine q_x (v := (.bool t_3.2)) hF hS (ex_assign rfl) rfl rfl fun a hF => ?_
  refine q_end (n_sq ?_)
  refine q_seq ?_
  obtain ⟨j1, hj1, hr⟩ := bindS hr
  refine q_join (fun a w => ∃ b9, ∃ two_10, ∃ y_11, j1 = (two_10, y_11) ∧ Fr a 34 [(4, (.pointer (some ⟨b2, 0, none⟩))), (6, (.pointer (some ⟨b4, 0, none⟩))), (7, (.bool t_3.2)), (8, (.pointer (some ⟨b9, 0, none⟩))), (9, (.bool two_10))] ∧ St [] w0 w m [[⟨b9, [(.int .i64 y_11.Num), (.int .i64 y_11.Den)], 26⟩], [⟨b4, [(.int .i64 t_3.1.Num), (.int .i64 t_3.1.Den)], 26⟩], [⟨b2, [(.int .i64 0), (.int .i64 0)], 26⟩]]) ?_ ?_
  · refine e_region [7] mixed fun w' hw' => ?_
    have hS := hS.below hw'
    refine e_x (v := (.agg #[(.int .i64 p_a.Num), (.int .i64 p_a.Den)])) 1 hF hS rfl (ex_loadA (vs := [(.int .i64 p_a.Num), (.int .i64 p_a.Den)]) 2 0 Try.underlying26 rfl sz26 rfl rfl rfl rfl) rfl rfl (by kernel_rfl) (by kernel_rfl) (by kernel_rfl) (by kernel_rfl) fun a hF => ?_
    obtain ⟨t_7, ht_7, hj1⟩ := bindS hj1
    obtain ⟨t_8, ht_8, hj1⟩ := bindS hj1
    refine e_all [0, 6] (by kernel_rfl) rfl ⟨?_, ?_, trivial⟩
    · refine e_call (vs := [(.int .i64 1)]) hF hS rfl Try.func97 (by kernel_rfl) rfl rfl rfl (c_spec_fInt 1 t_7 ht_7 _ m hS.vis) ?_
      rintro a w _ rfl hF hS
      refine e_all [2, 6] (by kernel_rfl) rfl ⟨?_, ?_, trivial⟩
      · refine e_call (vs := [(.agg #[(.int .i64 t_7.Num), (.int .i64 t_7.Den)]), (.agg #[(.int .i64 p_a.Num), (.int .i64 p_a.Den)])]) hF hS rfl Try.func120 (by kernel_rfl) rfl rfl rfl (c_spec_fAdd t_7 p_a t_8 ht_8 _ m hS.vis) ?_
        rintro a w _ rfl hF hS
        refine e_p (v := (.tuple #[(.agg #[(.int .i64 t_8.1.Num), (.int .i64 t_8.1.Den)]), (.bool t_8.2)])) 3 hF rfl (ex_move rfl) rfl rfl (by kernel_rfl) (by kernel_rfl) (by kernel_rfl) fun a hF => ?_
        refine e_p (v := (.agg #[(.int .i64 t_8.1.Num), (.int .i64 t_8.1.Den)])) 4 hF rfl (ex_extract rfl rfl) rfl rfl (by kernel_rfl) (by kernel_rfl) (by kernel_rfl) fun a hF => ?_
        refine e_p (v := (.bool t_8.2)) 5 hF rfl (ex_extract rfl rfl) rfl rfl (by kernel_rfl) (by kernel_rfl) (by kernel_rfl) fun a hF => ?_
        refine e_one 6 (by kernel_rfl) ?_
        refine e_alloc (cs := [(.int .i64 0), (.int .i64 0)]) hF hS rfl rfl rfl rfl fun a w b9 hF hS => ?_
        refine e_one 7 (by kernel_rfl) ?_
        refine e_store (vs := [(.int .i64 t_8.1.Num), (.int .i64 t_8.1.Den)]) (cs' := [(.int .i64 t_8.1.Num), (.int .i64 t_8.1.Den)]) 0 0 hF hS rfl rfl sz26 rfl rfl rfl rfl rfl rfl rfl rfl fun a w hF hS => ?_
        refine e_p (v := (.bool t_8.2)) 8 hF rfl (ex_assign rfl) rfl rfl (by kernel_rfl) (by kernel_rfl) (by kernel_rfl) fun a hF => ?_
        refine e_end (by kernel_rfl) (n_jn ?_) _
        obtain rfl := someI hj1
        exact ⟨b9, _, _, rfl, hF.sub ⟨rfl, rfl, rfl, rfl, rfl, trivial⟩, hS.mask [true, true, true, false]⟩
      · refine e_alloc (cs := [(.int .i64 0), (.int .i64 0)]) hF hS rfl rfl rfl rfl fun a w b9 hF hS => ?_
        refine e_one 2 (by kernel_rfl) ?_
        refine e_call (vs := [(.agg #[(.int .i64 t_7.Num), (.int .i64 t_7.Den)]), (.agg #[(.int .i64 p_a.Num), (.int .i64 p_a.Den)])]) hF hS rfl Try.func120 (by kernel_rfl) rfl rfl rfl (c_spec_fAdd t_7 p_a t_8 ht_8 _ m hS.vis) ?_
        rintro a w _ rfl hF hS
        refine e_p (v := (.tuple #[(.agg #[(.int .i64 t_8.1.Num), (.int .i64 t_8.1.Den)]), (.bool t_8.2)])) 3 hF rfl (ex_move rfl) rfl rfl (by kernel_rfl) (by kernel_rfl) (by kernel_rfl) fun a hF => ?_
        refine e_p (v := (.agg #[(.int .i64 t_8.1.Num), (.int .i64 t_8.1.Den)])) 4 hF rfl (ex_extract rfl rfl) rfl rfl (by kernel_rfl) (by kernel_rfl) (by kernel_rfl) fun a hF => ?_
        refine e_p (v := (.bool t_8.2)) 5 hF rfl (ex_extract rfl rfl) rfl rfl (by kernel_rfl) (by kernel_rfl) (by kernel_rfl) fun a hF => ?_
        refine e_one 7 (by kernel_rfl) ?_
        refine e_store (vs := [(.int .i64 t_8.1.Num), (.int .i64 t_8.1.Den)]) (cs' := [(.int .i64 t_8.1.Num), (.int .i64 t_8.1.Den)]) 0 0 hF hS rfl rfl sz26 rfl rfl rfl rfl rfl rfl rfl rfl fun a w hF hS => ?_
        refine e_p (v := (.bool t_8.2)) 8 hF rfl (ex_assign rfl) rfl rfl (by kernel_rfl) (by kernel_rfl) (by kernel_rfl) fun a hF => ?_
        refine e_end (by kernel_rfl) (n_jn ?_) _
        obtain rfl := someI hj1
        exact ⟨b9, _, _, rfl, hF.sub ⟨rfl, rfl, rfl, rfl, rfl, trivial⟩, hS.mask [true, true, true, false]⟩
    · refine e_alloc (cs := [(.int .i64 0), (.int .i64 0)]) hF hS rfl rfl rfl rfl fun a w b9 hF hS => ?_
      refine e_one 0 (by kernel_rfl) ?_
      refine e_call (vs := [(.int .i64 1)]) hF hS rfl Try.func97 (by kernel_rfl) rfl rfl rfl (c_spec_fInt 1 t_7 ht_7 _ m hS.vis) ?_
      rintro a w _ rfl hF hS
      refine e_one 2 (by kernel_rfl) ?_
      refine e_call (vs := [(.agg #[(.int .i64 t_7.Num), (.int .i64 t_7.Den)]), (.agg #[(.int .i64 p_a.Num), (.int .i64 p_a.Den)])]) hF hS rfl Try.func120 (by kernel_rfl) rfl rfl rfl (c_spec_fAdd t_7 p_a t_8 ht_8 _ m hS.vis) ?_
      rintro a w _ rfl hF hS
      refine e_p (v := (.tuple #[(.agg #[(.int .i64 t_8.1.Num), (.int .i64 t_8.1.Den)]), (.bool t_8.2)])) 3 hF rfl (ex_move rfl) rfl rfl (by kernel_rfl) (by kernel_rfl) (by kernel_rfl) fun a hF => ?_
      refine e_p (v := (.agg #[(.int .i64 t_8.1.Num), (.int .i64 t_8.1.Den)])) 4 hF rfl (ex_extract rfl rfl) rfl rfl (by kernel_rfl) (by kernel_rfl) (by kernel_rfl) fun a hF => ?_
      refine e_p (v := (.bool t_8.2)) 5 hF rfl (ex_extract rfl rfl) rfl rfl (by kernel_rfl) (by kernel_rfl) (by kernel_rfl) fun a hF => ?_
      refine e_one 7 (by kernel_rfl) ?_
      refine e_store (vs := [(.int .i64 t_8.1.Num), (.int .i64 t_8.1.Den)]) (cs' := [(.int .i64 t_8.1.Num), (.int .i64 t_8.1.Den)]) 0 0 hF hS rfl rfl sz26 rfl rfl rfl rfl rfl rfl rfl rfl fun a w hF hS => ?_
      refine e_p (v := (.bool t_8.2)) 8 hF rfl (ex_assign rfl) rfl rfl (by kernel_rfl) (by kernel_rfl) (by kernel_rfl) fun a hF => ?_
      refine e_end (by kernel_rfl) (n_jn ?_) _
      obtain rfl := someI hj1
      exact ⟨b9, _, _, rfl, hF.sub ⟨rfl, rfl, rfl, rfl, rfl, trivial⟩, hS.mask [true, true, true, false]⟩
  · rintro a w ⟨b9, two_10, y_11, rfl, hF, hS⟩
    refine n_sq ?_
    refine q_seq ?_
    refine q_seq ?_
    obtain ⟨t_12, hj2, hr⟩ := bindS hr
    refine q_join (fun a w => Fr a 34 [(4, (.pointer (some ⟨b2, 0, none⟩))), (6, (.pointer (some ⟨b4, 0, none⟩))), (8, (.pointer (some ⟨b9, 0, none⟩))), (27, (.bool t_12))] ∧ St [] w0 w m [[⟨b9, [(.int .i64 y_11.Num), (.int .i64 y_11.Den)], 26⟩], [⟨b4, [(.int .i64 t_3.1.Num), (.int .i64 t_3.1.Den)], 26⟩], [⟨b2, [(.int .i64 0), (.int .i64 0)], 26⟩]]) ?_ ?_
    · refine q_region ?_
      refine q_x (v := (.bool t_3.2)) hF hS (ex_move rfl) rfl rfl fun a hF => ?_
      refine q_x (v := (.bool (!t_3.2))) hF hS (ex_not rfl) rfl rfl fun a hF => ?_
      refine q_x (v := (.bool (!t_3.2))) hF hS (ex_move rfl) rfl rfl fun a hF => ?_
      rcases hc3 : (!t_3.2) with _ | _
      · have hj2 := cond_f hc3 hj2
        refine q_xg (v := (.bool two_10)) hF hS (ex_move rfl) (wanted_t hF rfl rfl rfl hc3) rfl fun a hF => ?_
        refine q_xg (v := (.bool (!two_10))) hF hS (ex_not rfl) (wanted_t hF rfl rfl rfl hc3) rfl fun a hF => ?_
        refine q_x (v := (.bool (!two_10))) hF hS (ex_pick_f rfl rfl hc3) rfl rfl fun a hF => ?_
        refine q_end (n_jn ?_)
        obtain rfl := someI hj2
        exact ⟨hF.sub ⟨rfl, rfl, rfl, rfl, trivial⟩, hS⟩
      · have hj2 := cond_t hc3 hj2
        refine q_skip hF (wanted_f hF rfl rfl rfl hc3 rfl) rfl fun a hF => ?_
        refine q_skip hF (wanted_f hF rfl rfl rfl hc3 rfl) rfl fun a hF => ?_
        refine q_x (v := (.bool true)) hF hS (ex_pick_t rfl rfl hc3) rfl rfl fun a hF => ?_
        refine q_end (n_jn ?_)
        obtain rfl := someI hj2
        exact ⟨hF.sub ⟨rfl, rfl, rfl, rfl, trivial⟩, hS⟩
    · rintro a w ⟨hF, hS⟩
      refine n_sq ?_
      rcases hc4 : (t_12) with _ | _
      · have hr := cond_f hc4 hr
        refine q_cond_f hF rfl hc4 ?_
        refine q_skipc (n_sq ?_)
        refine q_seq ?_
        refine q_region ?_
        refine q_x (v := (.agg #[(.int .i64 t_3.1.Num), (.int .i64 t_3.1.Den)])) hF hS (ex_loadA (vs := [(.int .i64 t_3.1.Num), (.int .i64 t_3.1.Den)]) 1 0 Try.underlying26 rfl sz26 rfl rfl rfl rfl) rfl rfl fun a hF => ?_
        refine q_x (v := (.agg #[(.int .i64 y_11.Num), (.int .i64 y_11.Den)])) hF hS (ex_loadA (vs := [(.int .i64 y_11.Num), (.int .i64 y_11.Den)]) 0 0 Try.underlying26 rfl sz26 rfl rfl rfl rfl) rfl rfl fun a hF => ?_
        obtain ⟨t_13, ht_13, hr⟩ := bindS hr
        refine q_call (vs := [(.agg #[(.int .i64 t_3.1.Num), (.int .i64 t_3.1.Den)]), (.agg #[(.int .i64 y_11.Num), (.int .i64 y_11.Den)])]) hF hS Try.func71 (by kernel_rfl) rfl rfl rfl (c_spec_fDiv t_3.1 y_11 t_13 ht_13 _ m hS.vis) ?_
        rintro a w _ rfl hF hS
        refine q_x (v := (.agg #[(.int .i64 t_13.1.Num), (.int .i64 t_13.1.Den)])) hF hS (ex_extract rfl rfl) rfl rfl fun a hF => ?_
        refine q_x (v := (.bool t_13.2)) hF hS (ex_extract rfl rfl) rfl rfl fun a hF => ?_
        refine q_store (vs := [(.int .i64 t_13.1.Num), (.int .i64 t_13.1.Den)]) (cs' := [(.int .i64 t_13.1.Num), (.int .i64 t_13.1.Den)]) 2 0 hF hS sz26 rfl rfl rfl rfl rfl rfl rfl rfl fun a w hF hS => ?_
        refine q_x (v := (.bool t_13.2)) hF hS (ex_assign rfl) rfl rfl fun a hF => ?_
        refine q_end (n_sq (q_ret ?_))
        obtain rfl := someI hr
        exact ret_of hF hS rfl (.cellA (us := [(.int .i64 t_13.1.Num), (.int .i64 t_13.1.Den)]) 2 0 Try.underlying26 rfl sz26 rfl rfl rfl rfl (.tmp rfl .nil)) rfl
      · have hr := cond_t hc4 hr
        refine q_cond_t hF rfl hc4 ?_
        refine q_seq ?_
        refine q_region ?_
        refine q_x (v := (.agg #[(.int .i64 0), (.int .i64 0)])) hF hS (ex_build (cells := [(.int .i64 0), (.int .i64 0)]) rfl (by kernel_rfl)) rfl rfl fun a hF => ?_
        refine q_store (vs := [(.int .i64 0), (.int .i64 0)]) (cs' := [(.int .i64 0), (.int .i64 0)]) 2 0 hF hS sz26 rfl rfl rfl rfl rfl rfl rfl rfl fun a w hF hS => ?_
        refine q_x (v := (.bool false)) hF hS (ex_assign rfl) rfl rfl fun a hF => ?_
        refine q_end (n_sq (q_ret (r_sq ?_)))
        obtain rfl := someI hr
        exact ret_of hF hS rfl (.cellA (us := [(.int .i64 0), (.int .i64 0)]) 2 0 Try.underlying26 rfl sz26 rfl rfl rfl rfl (.tmp rfl .nil)) rfl

theorem c_spec_zClamped (p_a : impl_Frac) (p_lo : Int) (p_hi : Int) (p_x : Int) (r : (List impl_Frac) × Bool) (hr : spec_zClamped p_a p_lo p_hi p_x = some r) (w0 : World) (m : Mem) (hv : Vis m w0) :
    Ret Try.prog 124 [(.agg #[(.int .i64 p_a.Num), (.int .i64 p_a.Den)]), (.int .i64 p_lo), (.int .i64 p_hi), (.int .i64 p_x)] w0 (fun v w => ∃ (q0' : Piece) (s0' : Sl), v = (.tuple #[s0'.v, (.bool r.2)]) ∧ St [] w0 w m [q0'] ∧ OwnL m 26 q0' s0' r.1) := by
  unfold spec_zClamped at hr
  refine ret_start Try.func124 rfl 62 rfl rfl m hv fun a hF hS => ?_
  refine q_seq ?_
  refine q_region ?_
  refine q_box (cs := [(.int .i64 p_a.Num), (.int .i64 p_a.Den)]) hF hS rfl rfl rfl fun a w b1 hF hS => ?_
  refine q_x (v := nilS.v) hF hS (ex_assign rfl) rfl rfl fun a hF => ?_
  refine q_x (v := (.bool false)) hF hS (ex_assign rfl) rfl rfl fun a hF => ?_
  refine q_end (n_sq ?_)
  refine q_seq ?_
  refine q_seq ?_
  refine q_region ?_
  refine q_x (v := (.int .i64 p_lo)) hF hS (ex_move rfl) rfl rfl fun a hF => ?_
  refine q_x (v := (.int .i64 p_hi)) hF hS (ex_move rfl) rfl rfl fun a hF => ?_
  refine q_x (v := (.bool (p_lo == p_hi))) hF hS (ex_ibin rfl rfl rfl) rfl rfl fun a hF => ?_
  refine q_end (n_sq ?_)
  rcases hc1 : (p_lo == p_hi) with _ | _
  · have hr := cond_f hc1 hr
    refine q_cond_f hF rfl hc1 ?_
    refine q_skipc (n_sq ?_)
    refine q_seq ?_
    refine q_region ?_
    refine q_x (v := nilS.v) hF hS (ex_assign rfl) rfl rfl fun a hF => ?_
    refine q_end (n_sq ?_)
    refine q_seq ?_
    refine q_seq ?_
    refine q_region ?_
    refine q_x (v := (.int .i64 p_lo)) hF hS (ex_move rfl) rfl rfl fun a hF => ?_
    refine q_x (v := (.int .i64 p_lo)) hF hS (ex_assign rfl) rfl rfl fun a hF => ?_
    refine q_end (n_sq ?_)
    refine q_block ?_
    obtain ⟨o2, hl2, hr⟩ := bindS hr
    refine q_loop (fun (s : (List impl_Frac) × Int) a w => ∃ (q3 : Piece), ∃ (s3 : Sl), ∃ out_2, ∃ y_4, s = (out_2, y_4) ∧ Fr a 62 [(1, (.int .i64 p_lo)), (2, (.int .i64 p_hi)), (3, (.int .i64 p_x)), (4, (.pointer (some ⟨b1, 0, none⟩))), (10, s3.v), (11, (.int .i64 y_4))] ∧ St [] w0 w m [q3, [⟨b1, [(.int .i64 p_a.Num), (.int .i64 p_a.Den)], 26⟩]] ∧ OwnL m 26 q3 s3 out_2) (fun (o : ((List impl_Frac)) ⊕ ((List impl_Frac) × Bool)) e a w => ∃ (q17 : Piece), ∃ (s17 : Sl), ∃ out_16, o = .inl out_16 ∧ e = .exit 0 ∧ Fr a 62 [(10, s17.v)] ∧ St [] w0 w m [q17] ∧ OwnL m 26 q17 s17 out_16) hl2 ⟨[], nilS, _, _, rfl, hF.sub ⟨rfl, rfl, rfl, rfl, rfl, rfl, trivial⟩, hS.sel [1, 0] (by decide), (OwnL.nil (α := impl_Frac) m 26)⟩ ?_ ?_
    · clear hF hS
      rintro s a w st ⟨q3, s3, out_2, y_4, rfl, hF, hS, h3⟩ hb2
      unfold spec_zClamped_l1 at hb2
      refine q_seq ?_
      refine q_seq ?_
      refine q_region ?_
      refine q_x (v := (.int .i64 y_4)) hF hS (ex_move rfl) rfl rfl fun a hF => ?_
      refine q_x (v := (.int .i64 p_hi)) hF hS (ex_move rfl) rfl rfl fun a hF => ?_
      refine q_x (v := (.bool (decide (y_4 ≤ p_hi)))) hF hS (ex_ibin rfl rfl rfl) rfl rfl fun a hF => ?_
      refine q_end (n_sq ?_)
      rcases hc3 : (decide (y_4 ≤ p_hi)) with _ | _
      · have hb2 := cond_f hc3 hb2
        refine q_cond_f hF rfl hc3 ?_
        refine q_exit (x_sq ?_)
        obtain rfl := someI hb2
        exact ⟨nofun, .inl ⟨q3, s3, _, rfl, rfl, hF.sub ⟨rfl, trivial⟩, hS.mask [true, false], h3⟩⟩
      · have hb2 := cond_t hc3 hb2
        refine q_cond_t hF rfl hc3 ?_
        refine q_skipc (n_sq ?_)
        refine q_seq ?_
        refine q_block ?_
        refine q_seq ?_
        refine q_region ?_
        refine q_x (v := (.agg #[(.int .i64 p_a.Num), (.int .i64 p_a.Den)])) hF hS (ex_loadA (vs := [(.int .i64 p_a.Num), (.int .i64 p_a.Den)]) 1 0 Try.underlying26 rfl sz26 rfl rfl rfl rfl) rfl rfl fun a hF => ?_
        refine q_x (v := (.int .i64 y_4)) hF hS (ex_move rfl) rfl rfl fun a hF => ?_
        refine q_x (v := (.int .i64 p_x)) hF hS (ex_move rfl) rfl rfl fun a hF => ?_
        refine q_x (v := (.int .i64 (w64 (y_4 - p_x)))) hF hS (ex_ibin rfl rfl rfl) rfl rfl fun a hF => ?_
        obtain ⟨t_5, ht_5, hb2⟩ := bindS hb2
        refine q_call (vs := [(.agg #[(.int .i64 p_a.Num), (.int .i64 p_a.Den)]), (.int .i64 (w64 (y_4 - p_x)))]) hF hS Try.func87 (by kernel_rfl) rfl rfl rfl (c_spec_zMass p_a (w64 (y_4 - p_x)) t_5 ht_5 _ m hS.vis) ?_
        rintro a w _ rfl hF hS
        refine q_x (v := (.tuple #[(.agg #[(.int .i64 t_5.1.Num), (.int .i64 t_5.1.Den)]), (.bool t_5.2)])) hF hS (ex_move rfl) rfl rfl fun a hF => ?_
        refine q_x (v := (.agg #[(.int .i64 t_5.1.Num), (.int .i64 t_5.1.Den)])) hF hS (ex_extract rfl rfl) rfl rfl fun a hF => ?_
        refine q_x (v := (.bool t_5.2)) hF hS (ex_extract rfl rfl) rfl rfl fun a hF => ?_
        refine q_alloc (cs := [(.int .i64 0), (.int .i64 0)]) hF hS rfl rfl rfl fun a w b6 hF hS => ?_
        refine q_store (vs := [(.int .i64 t_5.1.Num), (.int .i64 t_5.1.Den)]) (cs' := [(.int .i64 t_5.1.Num), (.int .i64 t_5.1.Den)]) 0 0 hF hS sz26 rfl rfl rfl rfl rfl rfl rfl rfl fun a w hF hS => ?_
        refine q_x (v := (.bool t_5.2)) hF hS (ex_assign rfl) rfl rfl fun a hF => ?_
        refine q_end (n_sq ?_)
        refine q_seq ?_
        refine q_seq ?_
        refine q_region ?_
        refine q_x (v := (.int .i64 y_4)) hF hS (ex_move rfl) rfl rfl fun a hF => ?_
        refine q_x (v := (.int .i64 p_lo)) hF hS (ex_move rfl) rfl rfl fun a hF => ?_
        refine q_x (v := (.bool (y_4 == p_lo))) hF hS (ex_ibin rfl rfl rfl) rfl rfl fun a hF => ?_
        refine q_end (n_sq ?_)
        obtain ⟨j4, hj4, hb2⟩ := bindS hb2
        refine q_join (fun a w => ∃ ok_8, ∃ m_9, j4 = (ok_8, m_9) ∧ Fr a 62 [(1, (.int .i64 p_lo)), (2, (.int .i64 p_hi)), (3, (.int .i64 p_x)), (4, (.pointer (some ⟨b1, 0, none⟩))), (10, s3.v), (11, (.int .i64 y_4)), (12, (.pointer (some ⟨b6, 0, none⟩))), (13, (.bool ok_8))] ∧ St [] w0 w m [q3, [⟨b6, [(.int .i64 m_9.Num), (.int .i64 m_9.Den)], 26⟩], [⟨b1, [(.int .i64 p_a.Num), (.int .i64 p_a.Den)], 26⟩]]) ?_ ?_
        · rcases hc5 : (y_4 == p_lo) with _ | _
          · have hj4 := cond_f hc5 hj4
            refine q_cond_f hF rfl hc5 ?_
            refine q_skipc (n_jn ?_)
            obtain rfl := someI hj4
            exact ⟨_, _, rfl, hF.sub ⟨rfl, rfl, rfl, rfl, rfl, rfl, rfl, rfl, trivial⟩, hS.sel [1, 0, 2] (by decide)⟩
          · have hj4 := cond_t hc5 hj4
            refine q_cond_t hF rfl hc5 ?_
            refine q_region ?_
            refine q_x (v := (.agg #[(.int .i64 p_a.Num), (.int .i64 p_a.Den)])) hF hS (ex_loadA (vs := [(.int .i64 p_a.Num), (.int .i64 p_a.Den)]) 2 0 Try.underlying26 rfl sz26 rfl rfl rfl rfl) rfl rfl fun a hF => ?_
            refine q_x (v := (.int .i64 p_x)) hF hS (ex_move rfl) rfl rfl fun a hF => ?_
            refine q_x (v := (.int .i64 p_lo)) hF hS (ex_move rfl) rfl rfl fun a hF => ?_
            refine q_x (v := (.int .i64 (w64 (p_x - p_lo)))) hF hS (ex_ibin rfl rfl rfl) rfl rfl fun a hF => ?_
            obtain ⟨t_7, ht_7, hj4⟩ := bindS hj4
            refine q_call (vs := [(.agg #[(.int .i64 p_a.Num), (.int .i64 p_a.Den)]), (.int .i64 (w64 (p_x - p_lo)))]) hF hS Try.func95 (by kernel_rfl) rfl rfl rfl (c_spec_zTail p_a (w64 (p_x - p_lo)) t_7 ht_7 _ m hS.vis) ?_
            rintro a w _ rfl hF hS
            refine q_x (v := (.tuple #[(.agg #[(.int .i64 t_7.1.Num), (.int .i64 t_7.1.Den)]), (.bool t_7.2)])) hF hS (ex_move rfl) rfl rfl fun a hF => ?_
            refine q_x (v := (.agg #[(.int .i64 t_7.1.Num), (.int .i64 t_7.1.Den)])) hF hS (ex_extract rfl rfl) rfl rfl fun a hF => ?_
            refine q_x (v := (.bool t_7.2)) hF hS (ex_extract rfl rfl) rfl rfl fun a hF => ?_
            refine q_store (vs := [(.int .i64 t_7.1.Num), (.int .i64 t_7.1.Den)]) (cs' := [(.int .i64 t_7.1.Num), (.int .i64 t_7.1.Den)]) 0 0 hF hS sz26 rfl rfl rfl rfl rfl rfl rfl rfl fun a w hF hS => ?_
            refine q_x (v := (.bool t_7.2)) hF hS (ex_assign rfl) rfl rfl fun a hF => ?_
            refine q_end (n_jn ?_)
            obtain rfl := someI hj4
            exact ⟨_, _, rfl, hF.sub ⟨rfl, rfl, rfl, rfl, rfl, rfl, rfl, rfl, trivial⟩, hS.sel [1, 0, 2] (by decide)⟩
        · rintro a w ⟨ok_8, m_9, rfl, hF, hS⟩
          refine n_sq ?_
          refine q_seq ?_
          refine q_seq ?_
          refine q_region ?_
          refine q_x (v := (.int .i64 y_4)) hF hS (ex_move rfl) rfl rfl fun a hF => ?_
          refine q_x (v := (.int .i64 p_hi)) hF hS (ex_move rfl) rfl rfl fun a hF => ?_
          refine q_x (v := (.bool (y_4 == p_hi))) hF hS (ex_ibin rfl rfl rfl) rfl rfl fun a hF => ?_
          refine q_end (n_sq ?_)
          obtain ⟨j6, hj6, hb2⟩ := bindS hb2
          refine q_join (fun a w => ∃ ok_11, ∃ m_12, j6 = (ok_11, m_12) ∧ Fr a 62 [(1, (.int .i64 p_lo)), (2, (.int .i64 p_hi)), (3, (.int .i64 p_x)), (4, (.pointer (some ⟨b1, 0, none⟩))), (10, s3.v), (11, (.int .i64 y_4)), (12, (.pointer (some ⟨b6, 0, none⟩))), (13, (.bool ok_11))] ∧ St [] w0 w m [q3, [⟨b6, [(.int .i64 m_12.Num), (.int .i64 m_12.Den)], 26⟩], [⟨b1, [(.int .i64 p_a.Num), (.int .i64 p_a.Den)], 26⟩]]) ?_ ?_
          · rcases hc7 : (y_4 == p_hi) with _ | _
            · have hj6 := cond_f hc7 hj6
              refine q_cond_f hF rfl hc7 ?_
              refine q_skipc (n_jn ?_)
              obtain rfl := someI hj6
              exact ⟨_, _, rfl, hF.sub ⟨rfl, rfl, rfl, rfl, rfl, rfl, rfl, rfl, trivial⟩, hS⟩
            · have hj6 := cond_t hc7 hj6
              refine q_cond_t hF rfl hc7 ?_
              refine q_region ?_
              refine q_x (v := (.agg #[(.int .i64 p_a.Num), (.int .i64 p_a.Den)])) hF hS (ex_loadA (vs := [(.int .i64 p_a.Num), (.int .i64 p_a.Den)]) 2 0 Try.underlying26 rfl sz26 rfl rfl rfl rfl) rfl rfl fun a hF => ?_
              refine q_x (v := (.int .i64 p_hi)) hF hS (ex_move rfl) rfl rfl fun a hF => ?_
              refine q_x (v := (.int .i64 p_x)) hF hS (ex_move rfl) rfl rfl fun a hF => ?_
              refine q_x (v := (.int .i64 (w64 (p_hi - p_x)))) hF hS (ex_ibin rfl rfl rfl) rfl rfl fun a hF => ?_
              obtain ⟨t_10, ht_10, hj6⟩ := bindS hj6
              refine q_call (vs := [(.agg #[(.int .i64 p_a.Num), (.int .i64 p_a.Den)]), (.int .i64 (w64 (p_hi - p_x)))]) hF hS Try.func95 (by kernel_rfl) rfl rfl rfl (c_spec_zTail p_a (w64 (p_hi - p_x)) t_10 ht_10 _ m hS.vis) ?_
              rintro a w _ rfl hF hS
              refine q_x (v := (.tuple #[(.agg #[(.int .i64 t_10.1.Num), (.int .i64 t_10.1.Den)]), (.bool t_10.2)])) hF hS (ex_move rfl) rfl rfl fun a hF => ?_
              refine q_x (v := (.agg #[(.int .i64 t_10.1.Num), (.int .i64 t_10.1.Den)])) hF hS (ex_extract rfl rfl) rfl rfl fun a hF => ?_
              refine q_x (v := (.bool t_10.2)) hF hS (ex_extract rfl rfl) rfl rfl fun a hF => ?_
              refine q_store (vs := [(.int .i64 t_10.1.Num), (.int .i64 t_10.1.Den)]) (cs' := [(.int .i64 t_10.1.Num), (.int .i64 t_10.1.Den)]) 1 0 hF hS sz26 rfl rfl rfl rfl rfl rfl rfl rfl fun a w hF hS => ?_
              refine q_x (v := (.bool t_10.2)) hF hS (ex_assign rfl) rfl rfl fun a hF => ?_
              refine q_end (n_jn ?_)
              obtain rfl := someI hj6
              exact ⟨_, _, rfl, hF.sub ⟨rfl, rfl, rfl, rfl, rfl, rfl, rfl, rfl, trivial⟩, hS⟩
          · rintro a w ⟨ok_11, m_12, rfl, hF, hS⟩
            refine n_sq ?_
            refine q_seq ?_
            refine q_seq ?_
            refine q_region ?_
            refine q_x (v := (.bool ok_11)) hF hS (ex_move rfl) rfl rfl fun a hF => ?_
            refine q_x (v := (.bool (!ok_11))) hF hS (ex_not rfl) rfl rfl fun a hF => ?_
            refine q_end (n_sq ?_)
            rcases hc8 : (!ok_11) with _ | _
            · have hb2 := cond_f hc8 hb2
              refine q_cond_f hF rfl hc8 ?_
              refine q_skipc (n_sq ?_)
              refine q_region ?_
              refine q_x (v := s3.v) hF hS (ex_move rfl) rfl rfl fun a hF => ?_
              refine q_x (v := (.agg #[(.int .i64 m_12.Num), (.int .i64 m_12.Den)])) hF hS (ex_loadA (vs := [(.int .i64 m_12.Num), (.int .i64 m_12.Den)]) 1 0 Try.underlying26 rfl sz26 rfl rfl rfl rfl) rfl rfl fun a hF => ?_
              refine q_do rfl fun _ hK => wp_buildSlice' (l := ([m_12] : List impl_Frac)) (cells := [(.int .i64 m_12.Num), (.int .i64 m_12.Den)]) hF hS Try.underlying51 inf26 rfl rfl (by kernel_rfl) rfl rfl rfl ⟨rfl, rfl⟩ rfl rfl fun a w q13 s13 hF hS h13 _ => hK _ _ ?_
              have hS : St _ _ _ _ [q3, q13, [⟨b6, [(.int .i64 m_12.Num), (.int .i64 m_12.Den)], 26⟩], [⟨b1, [(.int .i64 p_a.Num), (.int .i64 p_a.Den)], 26⟩]] := hS.sel [1, 0, 2, 3] (by decide)
              obtain ⟨l_14, hl_14, hb2⟩ := bindS hb2
              refine q_do rfl fun _ hK => wp_append hF hS h3 Try.underlying51 inf26 rfl rfl rfl rfl (h13.vw hS (j := 1) rfl) rfl (by decide) hl_14 rfl fun a w q15 s15 hF hS h15 => hK _ _ ?_
              refine q_x (v := s15.v) hF hS (ex_assign rfl) rfl rfl fun a hF => ?_
              refine q_end (n_ib (n_sq ?_))
              refine q_region ?_
              refine q_x (v := (.int .i64 y_4)) hF hS (ex_move rfl) rfl rfl fun a hF => ?_
              refine q_x (v := (.int .i64 (w64 (y_4 + 1)))) hF hS (ex_ibin rfl rfl rfl) rfl rfl fun a hF => ?_
              refine q_x (v := (.int .i64 (w64 (y_4 + 1)))) hF hS (ex_assign rfl) rfl rfl fun a hF => ?_
              refine q_end ?_
              obtain rfl := someI hb2
              exact ⟨rfl, q15, s15, _, _, rfl, hF.sub ⟨rfl, rfl, rfl, rfl, rfl, rfl, trivial⟩, hS.mask [true, false, false, true], h15⟩
            · have hb2 := cond_t hc8 hb2
              refine q_cond_t hF rfl hc8 ?_
              refine q_seq ?_
              refine q_region ?_
              refine q_x (v := nilS.v) hF hS (ex_assign rfl) rfl rfl fun a hF => ?_
              refine q_x (v := (.bool false)) hF hS (ex_assign rfl) rfl rfl fun a hF => ?_
              refine q_end (n_sq (q_ret (r_sq (r_ib (r_sq ?_)))))
              obtain rfl := someI hb2
              refine ⟨nofun, .inr fun ho => ?_⟩
              subst ho
              refine r_ib (r_sq ?_)
              obtain rfl := someI hr
              exact ret_of hF hS rfl (.tmp rfl (.tmp rfl .nil)) ⟨[], nilS, rfl, hS.sel [3] (by decide), (OwnL.nil (α := impl_Frac) m 26)⟩
    · rintro e a w ⟨q17, s17, out_16, rfl, rfl, hF, hS, h17⟩
      refine x_ib (n_sq ?_)
      refine q_seq ?_
      refine q_region ?_
      refine q_x (v := s17.v) hF hS (ex_move rfl) rfl rfl fun a hF => ?_
      refine q_x (v := s17.v) hF hS (ex_assign rfl) rfl rfl fun a hF => ?_
      refine q_x (v := (.bool true)) hF hS (ex_assign rfl) rfl rfl fun a hF => ?_
      refine q_end (n_sq (q_ret ?_))
      obtain rfl := someI hr
      exact ret_of hF hS rfl (.tmp rfl (.tmp rfl .nil)) ⟨q17, s17, rfl, hS.sel [0] (by decide), h17⟩
  · have hr := cond_t hc1 hr
    refine q_cond_t hF rfl hc1 ?_
    refine q_seq ?_
    refine q_region ?_
    obtain ⟨t_18, ht_18, hr⟩ := bindS hr
    refine q_call (vs := [(.int .i64 1)]) hF hS Try.func97 (by kernel_rfl) rfl rfl rfl (c_spec_fInt 1 t_18 ht_18 _ m hS.vis) ?_
    rintro a w _ rfl hF hS
    refine q_do rfl fun _ hK => wp_buildSlice' (l := ([t_18] : List impl_Frac)) (cells := [(.int .i64 t_18.Num), (.int .i64 t_18.Den)]) hF hS Try.underlying51 inf26 rfl rfl (by kernel_rfl) rfl rfl rfl ⟨rfl, rfl⟩ rfl rfl fun a w q19 s19 hF hS h19 _ => hK _ _ ?_
    refine q_x (v := s19.v) hF hS (ex_assign rfl) rfl rfl fun a hF => ?_
    refine q_x (v := (.bool true)) hF hS (ex_assign rfl) rfl rfl fun a hF => ?_
    refine q_end (n_sq (q_ret (r_sq ?_)))
    obtain rfl := someI hr
    exact ret_of hF hS rfl (.tmp rfl (.tmp rfl .nil)) ⟨q19, s19, rfl, hS.sel [0] (by decide), h19⟩

theorem c_spec_ClampedMasses (p_a : impl_Frac) (p_lo : Int) (p_hi : Int) (p_x : Int) (r : (List impl_Frac) × Bool) (hr : spec_ClampedMasses p_a p_lo p_hi p_x = some r) (w0 : World) (m : Mem) (hv : Vis m w0) :
    Ret Try.prog 56 [(.agg #[(.int .i64 p_a.Num), (.int .i64 p_a.Den)]), (.int .i64 p_lo), (.int .i64 p_hi), (.int .i64 p_x)] w0 (fun v w => ∃ (q0' : Piece) (s0' : Sl), v = (.tuple #[s0'.v, (.bool r.2)]) ∧ St [] w0 w m [q0'] ∧ OwnL m 26 q0' s0' r.1) := by
  unfold spec_ClampedMasses at hr
  refine ret_start Try.func56 rfl 33 rfl rfl m hv fun a hF hS => ?_
  refine q_seq ?_
  refine q_region ?_
  refine q_box (cs := [(.int .i64 p_a.Num), (.int .i64 p_a.Den)]) hF hS rfl rfl rfl fun a w b1 hF hS => ?_
  refine q_x (v := nilS.v) hF hS (ex_assign rfl) rfl rfl fun a hF => ?_
  refine q_x (v := (.bool false)) hF hS (ex_assign rfl) rfl rfl fun a hF => ?_
  refine q_end (n_sq ?_)
  refine q_seq ?_
  refine q_seq ?_
  obtain ⟨t_5, hj1, hr⟩ := bindS hr
  refine q_join (fun a w => Fr a 33 [(1, (.int .i64 p_lo)), (2, (.int .i64 p_hi)), (3, (.int .i64 p_x)), (4, (.pointer (some ⟨b1, 0, none⟩))), (25, (.bool t_5))] ∧ St [] w0 w m [[⟨b1, [(.int .i64 p_a.Num), (.int .i64 p_a.Den)], 26⟩]]) ?_ ?_
  · refine q_region ?_
    refine q_x (v := (.agg #[(.int .i64 p_a.Num), (.int .i64 p_a.Den)])) hF hS (ex_loadA (vs := [(.int .i64 p_a.Num), (.int .i64 p_a.Den)]) 0 0 Try.underlying26 rfl sz26 rfl rfl rfl rfl) rfl rfl fun a hF => ?_
    obtain ⟨t_2, ht_2, hj1⟩ := bindS hj1
    refine q_call (vs := [(.agg #[(.int .i64 p_a.Num), (.int .i64 p_a.Den)])]) hF hS Try.func85 (by kernel_rfl) rfl rfl rfl (c_spec_zRatio p_a t_2 ht_2 _ m hS.vis) ?_
    rintro a w _ rfl hF hS
    refine q_x (v := (.bool (!t_2))) hF hS (ex_not rfl) rfl rfl fun a hF => ?_
    refine q_x (v := (.bool (!t_2))) hF hS (ex_move rfl) rfl rfl fun a hF => ?_
    rcases hc2 : (!t_2) with _ | _
    · have hj1 := cond_f hc2 hj1
      refine q_xg (v := (.int .i64 p_lo)) hF hS (ex_move rfl) (wanted_t hF rfl rfl rfl hc2) rfl fun a hF => ?_
      refine q_xg (v := (.int .i64 p_hi)) hF hS (ex_move rfl) (wanted_t hF rfl rfl rfl hc2) rfl fun a hF => ?_
      obtain ⟨t_3, ht_3, hj1⟩ := bindS hj1
      refine q_callg (vs := [(.int .i64 p_lo), (.int .i64 p_hi)]) hF hS (wanted_t hF rfl rfl rfl hc2) Try.func123 (by kernel_rfl) rfl rfl rfl (c_spec_zBounds p_lo p_hi t_3 ht_3 _ m hS.vis) ?_
      rintro a w _ rfl hF hS
      refine q_xg (v := (.bool (!t_3))) hF hS (ex_not rfl) (wanted_t hF rfl rfl rfl hc2) rfl fun a hF => ?_
      refine q_x (v := (.bool (!t_3))) hF hS (ex_pick_f rfl rfl hc2) rfl rfl fun a hF => ?_
      refine q_x (v := (.bool (!t_3))) hF hS (ex_move rfl) rfl rfl fun a hF => ?_
      rcases hc3 : (!t_3) with _ | _
      · have hj1 := cond_f hc3 hj1
        refine q_xg (v := (.int .i64 p_x)) hF hS (ex_move rfl) (wanted_t hF rfl rfl rfl hc3) rfl fun a hF => ?_
        refine q_xg (v := (.int .i64 p_lo)) hF hS (ex_move rfl) (wanted_t hF rfl rfl rfl hc3) rfl fun a hF => ?_
        refine q_xg (v := (.int .i64 p_hi)) hF hS (ex_move rfl) (wanted_t hF rfl rfl rfl hc3) rfl fun a hF => ?_
        obtain ⟨t_4, ht_4, hj1⟩ := bindS hj1
        refine q_callg (vs := [(.int .i64 p_x), (.int .i64 p_lo), (.int .i64 p_hi)]) hF hS (wanted_t hF rfl rfl rfl hc3) Try.func86 (by kernel_rfl) rfl rfl rfl (c_spec_l1In p_x p_lo p_hi t_4 ht_4 _ m hS.vis) ?_
        rintro a w _ rfl hF hS
        refine q_xg (v := (.bool (!t_4))) hF hS (ex_not rfl) (wanted_t hF rfl rfl rfl hc3) rfl fun a hF => ?_
        refine q_x (v := (.bool (!t_4))) hF hS (ex_pick_f rfl rfl hc3) rfl rfl fun a hF => ?_
        refine q_end (n_jn ?_)
        obtain rfl := someI hj1
        exact ⟨hF.sub ⟨rfl, rfl, rfl, rfl, rfl, trivial⟩, hS⟩
      · have hj1 := cond_t hc3 hj1
        refine q_skip hF (wanted_f hF rfl rfl rfl hc3 rfl) rfl fun a hF => ?_
        refine q_skip hF (wanted_f hF rfl rfl rfl hc3 rfl) rfl fun a hF => ?_
        refine q_skip hF (wanted_f hF rfl rfl rfl hc3 rfl) rfl fun a hF => ?_
        refine q_skip hF (wanted_f hF rfl rfl rfl hc3 rfl) rfl fun a hF => ?_
        refine q_skip hF (wanted_f hF rfl rfl rfl hc3 rfl) rfl fun a hF => ?_
        refine q_x (v := (.bool true)) hF hS (ex_pick_t rfl rfl hc3) rfl rfl fun a hF => ?_
        refine q_end (n_jn ?_)
        obtain rfl := someI hj1
        exact ⟨hF.sub ⟨rfl, rfl, rfl, rfl, rfl, trivial⟩, hS⟩
    · have hj1 := cond_t hc2 hj1
      refine q_skip hF (wanted_f hF rfl rfl rfl hc2 rfl) rfl fun a hF => ?_
      refine q_skip hF (wanted_f hF rfl rfl rfl hc2 rfl) rfl fun a hF => ?_
      refine q_skip hF (wanted_f hF rfl rfl rfl hc2 rfl) rfl fun a hF => ?_
      refine q_skip hF (wanted_f hF rfl rfl rfl hc2 rfl) rfl fun a hF => ?_
      refine q_x (v := (.bool true)) hF hS (ex_pick_t rfl rfl hc2) rfl rfl fun a hF => ?_
      refine q_x (v := (.bool true)) hF hS (ex_move rfl) rfl rfl fun a hF => ?_
      refine q_skip hF (wanted_f hF rfl rfl rfl rfl rfl) rfl fun a hF => ?_
      refine q_skip hF (wanted_f hF rfl rfl rfl rfl rfl) rfl fun a hF => ?_
      refine q_skip hF (wanted_f hF rfl rfl rfl rfl rfl) rfl fun a hF => ?_
      refine q_skip hF (wanted_f hF rfl rfl rfl rfl rfl) rfl fun a hF => ?_
      refine q_skip hF (wanted_f hF rfl rfl rfl rfl rfl) rfl fun a hF => ?_
      refine q_x (v := (.bool true)) hF hS (ex_pick_t rfl rfl rfl) rfl rfl fun a hF => ?_
      refine q_end (n_jn ?_)
      obtain rfl := someI hj1
      exact ⟨hF.sub ⟨rfl, rfl, rfl, rfl, rfl, trivial⟩, hS⟩
  · rintro a w ⟨hF, hS⟩
    refine n_sq ?_
    rcases hc4 : (t_5) with _ | _
    · have hr := cond_f hc4 hr
      refine q_cond_f hF rfl hc4 ?_
      refine q_skipc (n_sq ?_)
      refine q_seq ?_
      refine q_region ?_
      refine q_x (v := (.agg #[(.int .i64 p_a.Num), (.int .i64 p_a.Den)])) hF hS (ex_loadA (vs := [(.int .i64 p_a.Num), (.int .i64 p_a.Den)]) 0 0 Try.underlying26 rfl sz26 rfl rfl rfl rfl) rfl rfl fun a hF => ?_
      refine q_x (v := (.int .i64 p_lo)) hF hS (ex_move rfl) rfl rfl fun a hF => ?_
      refine q_x (v := (.int .i64 p_hi)) hF hS (ex_move rfl) rfl rfl fun a hF => ?_
      refine q_x (v := (.int .i64 p_x)) hF hS (ex_move rfl) rfl rfl fun a hF => ?_
      obtain ⟨t_6, ht_6, hr⟩ := bindS hr
      refine q_call (vs := [(.agg #[(.int .i64 p_a.Num), (.int .i64 p_a.Den)]), (.int .i64 p_lo), (.int .i64 p_hi), (.int .i64 p_x)]) hF hS Try.func124 (by kernel_rfl) rfl rfl rfl (c_spec_zClamped p_a p_lo p_hi p_x t_6 ht_6 _ m hS.vis) ?_
      rintro a w _ ⟨q8, s8, rfl, hR7, h8⟩ hF hS2
      have hS : St _ _ _ _ [q8, [⟨b1, [(.int .i64 p_a.Num), (.int .i64 p_a.Den)], 26⟩]] := hS.joinF hR7
      refine q_x (v := s8.v) hF hS (ex_extract rfl rfl) rfl rfl fun a hF => ?_
      refine q_x (v := (.bool t_6.2)) hF hS (ex_extract rfl rfl) rfl rfl fun a hF => ?_
      refine q_x (v := s8.v) hF hS (ex_assign rfl) rfl rfl fun a hF => ?_
      refine q_x (v := (.bool t_6.2)) hF hS (ex_assign rfl) rfl rfl fun a hF => ?_
      refine q_end (n_sq (q_ret ?_))
      obtain rfl := someI hr
      exact ret_of hF hS rfl (.tmp rfl (.tmp rfl .nil)) ⟨q8, s8, rfl, hS.sel [0] (by decide), h8⟩
    · have hr := cond_t hc4 hr
      refine q_cond_t hF rfl hc4 ?_
      refine q_seq ?_
      refine q_region ?_
      refine q_x (v := nilS.v) hF hS (ex_assign rfl) rfl rfl fun a hF => ?_
      refine q_x (v := (.bool false)) hF hS (ex_assign rfl) rfl rfl fun a hF => ?_
      refine q_end (n_sq (q_ret (r_sq ?_)))
      obtain rfl := someI hr
      exact ret_of hF hS rfl (.tmp rfl (.tmp rfl .nil)) ⟨[], nilS, rfl, hS.sel [1] (by decide), (OwnL.nil (α := impl_Frac) m 26)⟩

theorem c_impl_gcdOf (p_a : Int) (p_b : Int) (r : Int) (hr : impl_gcdOf p_a p_b = some r) (w0 : World) (m : Mem) (hv : Vis m w0) :
    Ret Try.prog 143 [(.int .i64 p_a), (.int .i64 p_b)] w0 (fun v _ => v = (.int .i64 r)) := by
  unfold impl_gcdOf at hr
  refine ret_start Try.func143 rfl 20 rfl rfl m hv fun a hF hS => ?_
  refine q_seq ?_
  refine q_region ?_
  refine q_x (v := (.int .i64 0)) hF hS (ex_assign rfl) rfl rfl fun a hF => ?_
  refine q_end (n_sq ?_)
  refine q_seq ?_
  refine q_seq ?_
  refine q_region ?_
  refine q_x (v := (.int .i64 p_a)) hF hS (ex_move rfl) rfl rfl fun a hF => ?_
  refine q_x (v := (.bool (decide (p_a < 0)))) hF hS (ex_ibin rfl rfl rfl) rfl rfl fun a hF => ?_
  refine q_end (n_sq ?_)
  obtain ⟨a_1, hj1, hr⟩ := bindS hr
  refine q_join (fun a w => Fr a 20 [(0, (.int .i64 a_1)), (1, (.int .i64 p_b))] ∧ St [] w0 w m []) ?_ ?_
  · rcases hc2 : (decide (p_a < 0)) with _ | _
    · have hj1 := cond_f hc2 hj1
      refine q_cond_f hF rfl hc2 ?_
      refine q_skipc (n_jn ?_)
      obtain rfl := someI hj1
      exact ⟨hF.sub ⟨rfl, rfl, trivial⟩, hS⟩
    · have hj1 := cond_t hc2 hj1
      refine q_cond_t hF rfl hc2 ?_
      refine q_region ?_
      refine q_x (v := (.int .i64 p_a)) hF hS (ex_move rfl) rfl rfl fun a hF => ?_
      refine q_x (v := (.int .i64 (w64 (-p_a)))) hF hS (ex_neg rfl) rfl rfl fun a hF => ?_
      refine q_x (v := (.int .i64 (w64 (-p_a)))) hF hS (ex_assign rfl) rfl rfl fun a hF => ?_
      refine q_end (n_jn ?_)
      obtain rfl := someI hj1
      exact ⟨hF.sub ⟨rfl, rfl, trivial⟩, hS⟩
  · rintro a w ⟨hF, hS⟩
    refine n_sq ?_
    refine q_seq ?_
    refine q_seq ?_
    refine q_region ?_
    refine q_x (v := (.int .i64 p_b)) hF hS (ex_move rfl) rfl rfl fun a hF => ?_
    refine q_x (v := (.bool (decide (p_b < 0)))) hF hS (ex_ibin rfl rfl rfl) rfl rfl fun a hF => ?_
    refine q_end (n_sq ?_)
    obtain ⟨b_2, hj3, hr⟩ := bindS hr
    refine q_join (fun a w => Fr a 20 [(0, (.int .i64 a_1)), (1, (.int .i64 b_2))] ∧ St [] w0 w m []) ?_ ?_
    · rcases hc4 : (decide (p_b < 0)) with _ | _
      · have hj3 := cond_f hc4 hj3
        refine q_cond_f hF rfl hc4 ?_
        refine q_skipc (n_jn ?_)
        obtain rfl := someI hj3
        exact ⟨hF.sub ⟨rfl, rfl, trivial⟩, hS⟩
      · have hj3 := cond_t hc4 hj3
        refine q_cond_t hF rfl hc4 ?_
        refine q_region ?_
        refine q_x (v := (.int .i64 p_b)) hF hS (ex_move rfl) rfl rfl fun a hF => ?_
        refine q_x (v := (.int .i64 (w64 (-p_b)))) hF hS (ex_neg rfl) rfl rfl fun a hF => ?_
        refine q_x (v := (.int .i64 (w64 (-p_b)))) hF hS (ex_assign rfl) rfl rfl fun a hF => ?_
        refine q_end (n_jn ?_)
        obtain rfl := someI hj3
        exact ⟨hF.sub ⟨rfl, rfl, trivial⟩, hS⟩
    · rintro a w ⟨hF, hS⟩
      refine n_sq ?_
      refine q_seq ?_
      refine q_block ?_
      obtain ⟨a_6, hl5, hr⟩ := bindS hr
      refine q_loop (fun (s : Int × Int) a w => ∃ a_3, ∃ b_4, s = (a_3, b_4) ∧ Fr a 20 [(0, (.int .i64 a_3)), (1, (.int .i64 b_4))] ∧ St [] w0 w m []) (fun (a_6 : Int) e a w => e = .exit 0 ∧ Fr a 20 [(0, (.int .i64 a_6))] ∧ St [] w0 w m []) hl5 ⟨_, _, rfl, hF.sub ⟨rfl, rfl, trivial⟩, hS⟩ ?_ ?_
      · clear hF hS
        rintro s a w st ⟨a_3, b_4, rfl, hF, hS⟩ hb5
        unfold impl_gcdOf_l1 at hb5
        refine q_seq ?_
        refine q_seq ?_
        refine q_region ?_
        refine q_x (v := (.int .i64 b_4)) hF hS (ex_move rfl) rfl rfl fun a hF => ?_
        refine q_x (v := (.bool (b_4 != 0))) hF hS (ex_ibin rfl rfl rfl) rfl rfl fun a hF => ?_
        refine q_end (n_sq ?_)
        rcases hc6 : (b_4 != 0) with _ | _
        · have hb5 := cond_f hc6 hb5
          refine q_cond_f hF rfl hc6 ?_
          refine q_exit (x_sq ?_)
          obtain rfl := someI hb5
          exact ⟨nofun, .inl ⟨rfl, hF.sub ⟨rfl, trivial⟩, hS⟩⟩
        · have hb5 := cond_t hc6 hb5
          refine q_cond_t hF rfl hc6 ?_
          refine q_skipc (n_sq ?_)
          refine q_block ?_
          refine e_region [] mixed fun w' hw' => ?_
          have hS := hS.below hw'
          refine e_p (v := (.int .i64 b_4)) 0 hF rfl (ex_move rfl) rfl rfl (by kernel_rfl) (by kernel_rfl) (by kernel_rfl) fun a hF => ?_
          refine e_p (v := (.int .i64 a_3)) 1 hF rfl (ex_move rfl) rfl rfl (by kernel_rfl) (by kernel_rfl) (by kernel_rfl) fun a hF => ?_
          refine e_p (v := (.int .i64 b_4)) 2 hF rfl (ex_move rfl) rfl rfl (by kernel_rfl) (by kernel_rfl) (by kernel_rfl) fun a hF => ?_
          obtain ⟨t_5, ht_5, hb5⟩ := bindS hb5
          refine e_p (v := (.int .i64 t_5)) 3 hF rfl (ex_rem rfl rfl ht_5) rfl rfl (by kernel_rfl) (by kernel_rfl) (by kernel_rfl) fun a hF => ?_
          refine e_p (v := (.int .i64 b_4)) 4 hF rfl (ex_assign rfl) rfl rfl (by kernel_rfl) (by kernel_rfl) (by kernel_rfl) fun a hF => ?_
          refine e_p (v := (.int .i64 t_5)) 5 hF rfl (ex_assign rfl) rfl rfl (by kernel_rfl) (by kernel_rfl) (by kernel_rfl) fun a hF => ?_
          refine e_end (by kernel_rfl) (n_ib ?_) _
          obtain rfl := someI hb5
          exact ⟨rfl, _, _, rfl, hF.sub ⟨rfl, rfl, trivial⟩, hS⟩
      · rintro e a w ⟨rfl, hF, hS⟩
        refine x_ib (n_sq ?_)
        refine q_seq ?_
        refine q_region ?_
        refine q_x (v := (.int .i64 a_6)) hF hS (ex_move rfl) rfl rfl fun a hF => ?_
        refine q_x (v := (.int .i64 a_6)) hF hS (ex_assign rfl) rfl rfl fun a hF => ?_
        refine q_end (n_sq (q_ret ?_))
        obtain rfl := someI hr
        exact ret_of hF hS rfl (.tmp rfl .nil) rfl

theorem c_impl_IsFrac (p_f : impl_Frac) (r : Bool) (hr : impl_IsFrac p_f = some r) (w0 : World) (m : Mem) (hv : Vis m w0) :
    Ret Try.prog 99 [(.agg #[(.int .i64 p_f.Num), (.int .i64 p_f.Den)])] w0 (fun v _ => v = (.bool r)) := by
  unfold impl_IsFrac at hr
  refine ret_start Try.func99 rfl 29 rfl rfl m hv fun a hF hS => ?_
  refine q_seq ?_
  refine q_region ?_
  refine q_box (cs := [(.int .i64 p_f.Num), (.int .i64 p_f.Den)]) hF hS rfl rfl rfl fun a w b1 hF hS => ?_
  refine q_x (v := (.bool false)) hF hS (ex_assign rfl) rfl rfl fun a hF => ?_
  refine q_end (n_sq ?_)
  refine q_seq ?_
  obtain ⟨t_3, hj1, hr⟩ := bindS hr
  refine q_join (fun a w => Fr a 29 [(2, (.bool t_3))] ∧ St [] w0 w m []) ?_ ?_
  · refine q_region ?_
    refine q_x (v := (.pointer (some ⟨b1, 1, none⟩))) hF hS (ex_fieldAddr Try.underlying26 rfl sz3 rfl rfl) rfl rfl fun a hF => ?_
    refine q_x (v := (.int .i64 p_f.Den)) hF hS (ex_load1 0 0 Try.underlying3 rfl rfl rfl rfl) rfl rfl fun a hF => ?_
    refine q_x (v := (.bool (decide (1 ≤ p_f.Den)))) hF hS (ex_ibin rfl rfl rfl) rfl rfl fun a hF => ?_
    refine q_x (v := (.bool (decide (1 ≤ p_f.Den)))) hF hS (ex_move rfl) rfl rfl fun a hF => ?_
    rcases hc2 : (decide (1 ≤ p_f.Den)) with _ | _
    · have hj1 := cond_f hc2 hj1
      refine q_skip hF (wanted_f hF rfl rfl rfl hc2 rfl) rfl fun a hF => ?_
      refine q_skip hF (wanted_f hF rfl rfl rfl hc2 rfl) rfl fun a hF => ?_
      refine q_skip hF (wanted_f hF rfl rfl rfl hc2 rfl) rfl fun a hF => ?_
      refine q_x (v := (.bool false)) hF hS (ex_pick_f rfl rfl hc2) rfl rfl fun a hF => ?_
      refine q_x (v := (.bool false)) hF hS (ex_move rfl) rfl rfl fun a hF => ?_
      refine q_skip hF (wanted_f hF rfl rfl rfl rfl rfl) rfl fun a hF => ?_
      refine q_skip hF (wanted_f hF rfl rfl rfl rfl rfl) rfl fun a hF => ?_
      refine q_skip hF (wanted_f hF rfl rfl rfl rfl rfl) rfl fun a hF => ?_
      refine q_x (v := (.bool false)) hF hS (ex_pick_f rfl rfl rfl) rfl rfl fun a hF => ?_
      refine q_x (v := (.bool false)) hF hS (ex_move rfl) rfl rfl fun a hF => ?_
      refine q_skip hF (wanted_f hF rfl rfl rfl rfl rfl) rfl fun a hF => ?_
      refine q_skip hF (wanted_f hF rfl rfl rfl rfl rfl) rfl fun a hF => ?_
      refine q_skip hF (wanted_f hF rfl rfl rfl rfl rfl) rfl fun a hF => ?_
      refine q_x (v := (.bool false)) hF hS (ex_pick_f rfl rfl rfl) rfl rfl fun a hF => ?_
      refine q_x (v := (.bool false)) hF hS (ex_move rfl) rfl rfl fun a hF => ?_
      refine q_skip hF (wanted_f hF rfl rfl rfl rfl rfl) rfl fun a hF => ?_
      refine q_skip hF (wanted_f hF rfl rfl rfl rfl rfl) rfl fun a hF => ?_
      refine q_skip hF (wanted_f hF rfl rfl rfl rfl rfl) rfl fun a hF => ?_
      refine q_skip hF (wanted_f hF rfl rfl rfl rfl rfl) rfl fun a hF => ?_
      refine q_skip hF (wanted_f hF rfl rfl rfl rfl rfl) rfl fun a hF => ?_
      refine q_skip hF (wanted_f hF rfl rfl rfl rfl rfl) rfl fun a hF => ?_
      refine q_x (v := (.bool false)) hF hS (ex_pick_f rfl rfl rfl) rfl rfl fun a hF => ?_
      refine q_x (v := (.bool false)) hF hS (ex_assign rfl) rfl rfl fun a hF => ?_
      refine q_end (n_jn ?_)
      obtain rfl := someI hj1
      exact ⟨hF.sub ⟨rfl, trivial⟩, hS.mask [false]⟩
    · have hj1 := cond_t hc2 hj1
      refine q_xg (v := (.pointer (some ⟨b1, 1, none⟩))) hF hS (ex_fieldAddr Try.underlying26 rfl sz3 rfl rfl) (wanted_t hF rfl rfl rfl hc2) rfl fun a hF => ?_
      refine q_xg (v := (.int .i64 p_f.Den)) hF hS (ex_load1 0 0 Try.underlying3 rfl rfl rfl rfl) (wanted_t hF rfl rfl rfl hc2) rfl fun a hF => ?_
      refine q_xg (v := (.bool (decide (p_f.Den ≤ 1000000000)))) hF hS (ex_ibin rfl rfl rfl) (wanted_t hF rfl rfl rfl hc2) rfl fun a hF => ?_
      refine q_x (v := (.bool (decide (p_f.Den ≤ 1000000000)))) hF hS (ex_pick_t rfl rfl hc2) rfl rfl fun a hF => ?_
      refine q_x (v := (.bool (decide (p_f.Den ≤ 1000000000)))) hF hS (ex_move rfl) rfl rfl fun a hF => ?_
      rcases hc3 : (decide (p_f.Den ≤ 1000000000)) with _ | _
      · have hj1 := cond_f hc3 hj1
        refine q_skip hF (wanted_f hF rfl rfl rfl hc3 rfl) rfl fun a hF => ?_
        refine q_skip hF (wanted_f hF rfl rfl rfl hc3 rfl) rfl fun a hF => ?_
        refine q_skip hF (wanted_f hF rfl rfl rfl hc3 rfl) rfl fun a hF => ?_
        refine q_x (v := (.bool false)) hF hS (ex_pick_f rfl rfl hc3) rfl rfl fun a hF => ?_
        refine q_x (v := (.bool false)) hF hS (ex_move rfl) rfl rfl fun a hF => ?_
        refine q_skip hF (wanted_f hF rfl rfl rfl rfl rfl) rfl fun a hF => ?_
        refine q_skip hF (wanted_f hF rfl rfl rfl rfl rfl) rfl fun a hF => ?_
        refine q_skip hF (wanted_f hF rfl rfl rfl rfl rfl) rfl fun a hF => ?_
        refine q_x (v := (.bool false)) hF hS (ex_pick_f rfl rfl rfl) rfl rfl fun a hF => ?_
        refine q_x (v := (.bool false)) hF hS (ex_move rfl) rfl rfl fun a hF => ?_
        refine q_skip hF (wanted_f hF rfl rfl rfl rfl rfl) rfl fun a hF => ?_
        refine q_skip hF (wanted_f hF rfl rfl rfl rfl rfl) rfl fun a hF => ?_
        refine q_skip hF (wanted_f hF rfl rfl rfl rfl rfl) rfl fun a hF => ?_
        refine q_skip hF (wanted_f hF rfl rfl rfl rfl rfl) rfl fun a hF => ?_
        refine q_skip hF (wanted_f hF rfl rfl rfl rfl rfl) rfl fun a hF => ?_
        refine q_skip hF (wanted_f hF rfl rfl rfl rfl rfl) rfl fun a hF => ?_
        refine q_x (v := (.bool false)) hF hS (ex_pick_f rfl rfl rfl) rfl rfl fun a hF => ?_
        refine q_x (v := (.bool false)) hF hS (ex_assign rfl) rfl rfl fun a hF => ?_
        refine q_end (n_jn ?_)
        obtain rfl := someI hj1
        exact ⟨hF.sub ⟨rfl, trivial⟩, hS.mask [false]⟩
      · have hj1 := cond_t hc3 hj1
        refine q_xg (v := (.pointer (some ⟨b1, 0, none⟩))) hF hS (ex_fieldAddr Try.underlying26 rfl sz3 rfl rfl) (wanted_t hF rfl rfl rfl hc3) rfl fun a hF => ?_
        refine q_xg (v := (.int .i64 p_f.Num)) hF hS (ex_load1 0 0 Try.underlying3 rfl rfl rfl rfl) (wanted_t hF rfl rfl rfl hc3) rfl fun a hF => ?_
        refine q_xg (v := (.bool (decide ((-1000000000) ≤ p_f.Num)))) hF hS (ex_ibin rfl rfl rfl) (wanted_t hF rfl rfl rfl hc3) rfl fun a hF => ?_
        refine q_x (v := (.bool (decide ((-1000000000) ≤ p_f.Num)))) hF hS (ex_pick_t rfl rfl hc3) rfl rfl fun a hF => ?_
        refine q_x (v := (.bool (decide ((-1000000000) ≤ p_f.Num)))) hF hS (ex_move rfl) rfl rfl fun a hF => ?_
        rcases hc4 : (decide ((-1000000000) ≤ p_f.Num)) with _ | _
        · have hj1 := cond_f hc4 hj1
          refine q_skip hF (wanted_f hF rfl rfl rfl hc4 rfl) rfl fun a hF => ?_
          refine q_skip hF (wanted_f hF rfl rfl rfl hc4 rfl) rfl fun a hF => ?_
          refine q_skip hF (wanted_f hF rfl rfl rfl hc4 rfl) rfl fun a hF => ?_
          refine q_x (v := (.bool false)) hF hS (ex_pick_f rfl rfl hc4) rfl rfl fun a hF => ?_
          refine q_x (v := (.bool false)) hF hS (ex_move rfl) rfl rfl fun a hF => ?_
          refine q_skip hF (wanted_f hF rfl rfl rfl rfl rfl) rfl fun a hF => ?_
          refine q_skip hF (wanted_f hF rfl rfl rfl rfl rfl) rfl fun a hF => ?_
          refine q_skip hF (wanted_f hF rfl rfl rfl rfl rfl) rfl fun a hF => ?_
          refine q_skip hF (wanted_f hF rfl rfl rfl rfl rfl) rfl fun a hF => ?_
          refine q_skip hF (wanted_f hF rfl rfl rfl rfl rfl) rfl fun a hF => ?_
          refine q_skip hF (wanted_f hF rfl rfl rfl rfl rfl) rfl fun a hF => ?_
          refine q_x (v := (.bool false)) hF hS (ex_pick_f rfl rfl rfl) rfl rfl fun a hF => ?_
          refine q_x (v := (.bool false)) hF hS (ex_assign rfl) rfl rfl fun a hF => ?_
          refine q_end (n_jn ?_)
          obtain rfl := someI hj1
          exact ⟨hF.sub ⟨rfl, trivial⟩, hS.mask [false]⟩
        · have hj1 := cond_t hc4 hj1
          refine q_xg (v := (.pointer (some ⟨b1, 0, none⟩))) hF hS (ex_fieldAddr Try.underlying26 rfl sz3 rfl rfl) (wanted_t hF rfl rfl rfl hc4) rfl fun a hF => ?_
          refine q_xg (v := (.int .i64 p_f.Num)) hF hS (ex_load1 0 0 Try.underlying3 rfl rfl rfl rfl) (wanted_t hF rfl rfl rfl hc4) rfl fun a hF => ?_
          refine q_xg (v := (.bool (decide (p_f.Num ≤ 1000000000)))) hF hS (ex_ibin rfl rfl rfl) (wanted_t hF rfl rfl rfl hc4) rfl fun a hF => ?_
          refine q_x (v := (.bool (decide (p_f.Num ≤ 1000000000)))) hF hS (ex_pick_t rfl rfl hc4) rfl rfl fun a hF => ?_
          refine q_x (v := (.bool (decide (p_f.Num ≤ 1000000000)))) hF hS (ex_move rfl) rfl rfl fun a hF => ?_
          rcases hc5 : (decide (p_f.Num ≤ 1000000000)) with _ | _
          · have hj1 := cond_f hc5 hj1
            refine q_skip hF (wanted_f hF rfl rfl rfl hc5 rfl) rfl fun a hF => ?_
            refine q_skip hF (wanted_f hF rfl rfl rfl hc5 rfl) rfl fun a hF => ?_
            refine q_skip hF (wanted_f hF rfl rfl rfl hc5 rfl) rfl fun a hF => ?_
            refine q_skip hF (wanted_f hF rfl rfl rfl hc5 rfl) rfl fun a hF => ?_
            refine q_skip hF (wanted_f hF rfl rfl rfl hc5 rfl) rfl fun a hF => ?_
            refine q_skip hF (wanted_f hF rfl rfl rfl hc5 rfl) rfl fun a hF => ?_
            refine q_x (v := (.bool false)) hF hS (ex_pick_f rfl rfl hc5) rfl rfl fun a hF => ?_
            refine q_x (v := (.bool false)) hF hS (ex_assign rfl) rfl rfl fun a hF => ?_
            refine q_end (n_jn ?_)
            obtain rfl := someI hj1
            exact ⟨hF.sub ⟨rfl, trivial⟩, hS.mask [false]⟩
          · have hj1 := cond_t hc5 hj1
            refine q_xg (v := (.pointer (some ⟨b1, 0, none⟩))) hF hS (ex_fieldAddr Try.underlying26 rfl sz3 rfl rfl) (wanted_t hF rfl rfl rfl hc5) rfl fun a hF => ?_
            refine q_xg (v := (.int .i64 p_f.Num)) hF hS (ex_load1 0 0 Try.underlying3 rfl rfl rfl rfl) (wanted_t hF rfl rfl rfl hc5) rfl fun a hF => ?_
            refine q_xg (v := (.pointer (some ⟨b1, 1, none⟩))) hF hS (ex_fieldAddr Try.underlying26 rfl sz3 rfl rfl) (wanted_t hF rfl rfl rfl hc5) rfl fun a hF => ?_
            refine q_xg (v := (.int .i64 p_f.Den)) hF hS (ex_load1 0 0 Try.underlying3 rfl rfl rfl rfl) (wanted_t hF rfl rfl rfl hc5) rfl fun a hF => ?_
            obtain ⟨t_2, ht_2, hj1⟩ := bindS hj1
            refine q_callg (vs := [(.int .i64 p_f.Num), (.int .i64 p_f.Den)]) hF hS (wanted_t hF rfl rfl rfl hc5) Try.func143 (by kernel_rfl) rfl rfl rfl (c_impl_gcdOf p_f.Num p_f.Den t_2 ht_2 _ m hS.vis) ?_
            rintro a w _ rfl hF hS
            refine q_xg (v := (.bool (t_2 == 1))) hF hS (ex_ibin rfl rfl rfl) (wanted_t hF rfl rfl rfl hc5) rfl fun a hF => ?_
            refine q_x (v := (.bool (t_2 == 1))) hF hS (ex_pick_t rfl rfl hc5) rfl rfl fun a hF => ?_
            refine q_x (v := (.bool (t_2 == 1))) hF hS (ex_assign rfl) rfl rfl fun a hF => ?_
            refine q_end (n_jn ?_)
            obtain rfl := someI hj1
            exact ⟨hF.sub ⟨rfl, trivial⟩, hS.mask [false]⟩
  · rintro a w ⟨hF, hS⟩
    refine n_sq (q_ret ?_)
    obtain rfl := someI hr
    exact ret_of hF hS rfl (.tmp rfl .nil) rfl

theorem c_impl_isRatio (p_a : impl_Frac) (r : Bool) (hr : impl_isRatio p_a = some r) (w0 : World) (m : Mem) (hv : Vis m w0) :
    Ret Try.prog 88 [(.agg #[(.int .i64 p_a.Num), (.int .i64 p_a.Den)])] w0 (fun v _ => v = (.bool r)) := by
  unfold impl_isRatio at hr
  refine ret_start Try.func88 rfl 17 rfl rfl m hv fun a hF hS => ?_
  refine q_seq ?_
  refine q_region ?_
  refine q_box (cs := [(.int .i64 p_a.Num), (.int .i64 p_a.Den)]) hF hS rfl rfl rfl fun a w b1 hF hS => ?_
  refine q_x (v := (.bool false)) hF hS (ex_assign rfl) rfl rfl fun a hF => ?_
  refine q_end (n_sq ?_)
  refine q_seq ?_
  obtain ⟨t_3, hj1, hr⟩ := bindS hr
  refine q_join (fun a w => Fr a 17 [(2, (.bool t_3))] ∧ St [] w0 w m []) ?_ ?_
  · refine q_region ?_
    refine q_x (v := (.agg #[(.int .i64 p_a.Num), (.int .i64 p_a.Den)])) hF hS (ex_loadA (vs := [(.int .i64 p_a.Num), (.int .i64 p_a.Den)]) 0 0 Try.underlying26 rfl sz26 rfl rfl rfl rfl) rfl rfl fun a hF => ?_
    obtain ⟨t_2, ht_2, hj1⟩ := bindS hj1
    refine q_call (vs := [(.agg #[(.int .i64 p_a.Num), (.int .i64 p_a.Den)])]) hF hS Try.func99 (by kernel_rfl) rfl rfl rfl (c_impl_IsFrac p_a t_2 ht_2 _ m hS.vis) ?_
    rintro a w _ rfl hF hS
    refine q_x (v := (.bool t_2)) hF hS (ex_move rfl) rfl rfl fun a hF => ?_
    rcases hc2 : (t_2) with _ | _
    · have hj1 := cond_f hc2 hj1
      refine q_skip hF (wanted_f hF rfl rfl rfl hc2 rfl) rfl fun a hF => ?_
      refine q_skip hF (wanted_f hF rfl rfl rfl hc2 rfl) rfl fun a hF => ?_
      refine q_skip hF (wanted_f hF rfl rfl rfl hc2 rfl) rfl fun a hF => ?_
      refine q_x (v := (.bool false)) hF hS (ex_pick_f rfl rfl hc2) rfl rfl fun a hF => ?_
      refine q_x (v := (.bool false)) hF hS (ex_move rfl) rfl rfl fun a hF => ?_
      refine q_skip hF (wanted_f hF rfl rfl rfl rfl rfl) rfl fun a hF => ?_
      refine q_skip hF (wanted_f hF rfl rfl rfl rfl rfl) rfl fun a hF => ?_
      refine q_skip hF (wanted_f hF rfl rfl rfl rfl rfl) rfl fun a hF => ?_
      refine q_skip hF (wanted_f hF rfl rfl rfl rfl rfl) rfl fun a hF => ?_
      refine q_skip hF (wanted_f hF rfl rfl rfl rfl rfl) rfl fun a hF => ?_
      refine q_x (v := (.bool false)) hF hS (ex_pick_f rfl rfl rfl) rfl rfl fun a hF => ?_
      refine q_x (v := (.bool false)) hF hS (ex_assign rfl) rfl rfl fun a hF => ?_
      refine q_end (n_jn ?_)
      obtain rfl := someI hj1
      exact ⟨hF.sub ⟨rfl, trivial⟩, hS.mask [false]⟩
    · have hj1 := cond_t hc2 hj1
      refine q_xg (v := (.pointer (some ⟨b1, 0, none⟩))) hF hS (ex_fieldAddr Try.underlying26 rfl sz3 rfl rfl) (wanted_t hF rfl rfl rfl hc2) rfl fun a hF => ?_
      refine q_xg (v := (.int .i64 p_a.Num)) hF hS (ex_load1 0 0 Try.underlying3 rfl rfl rfl rfl) (wanted_t hF rfl rfl rfl hc2) rfl fun a hF => ?_
      refine q_xg (v := (.bool (decide (0 < p_a.Num)))) hF hS (ex_ibin rfl rfl rfl) (wanted_t hF rfl rfl rfl hc2) rfl fun a hF => ?_
      refine q_x (v := (.bool (decide (0 < p_a.Num)))) hF hS (ex_pick_t rfl rfl hc2) rfl rfl fun a hF => ?_
      refine q_x (v := (.bool (decide (0 < p_a.Num)))) hF hS (ex_move rfl) rfl rfl fun a hF => ?_
      rcases hc3 : (decide (0 < p_a.Num)) with _ | _
      · have hj1 := cond_f hc3 hj1
        refine q_skip hF (wanted_f hF rfl rfl rfl hc3 rfl) rfl fun a hF => ?_
        refine q_skip hF (wanted_f hF rfl rfl rfl hc3 rfl) rfl fun a hF => ?_
        refine q_skip hF (wanted_f hF rfl rfl rfl hc3 rfl) rfl fun a hF => ?_
        refine q_skip hF (wanted_f hF rfl rfl rfl hc3 rfl) rfl fun a hF => ?_
        refine q_skip hF (wanted_f hF rfl rfl rfl hc3 rfl) rfl fun a hF => ?_
        refine q_x (v := (.bool false)) hF hS (ex_pick_f rfl rfl hc3) rfl rfl fun a hF => ?_
        refine q_x (v := (.bool false)) hF hS (ex_assign rfl) rfl rfl fun a hF => ?_
        refine q_end (n_jn ?_)
        obtain rfl := someI hj1
        exact ⟨hF.sub ⟨rfl, trivial⟩, hS.mask [false]⟩
      · have hj1 := cond_t hc3 hj1
        refine q_xg (v := (.pointer (some ⟨b1, 0, none⟩))) hF hS (ex_fieldAddr Try.underlying26 rfl sz3 rfl rfl) (wanted_t hF rfl rfl rfl hc3) rfl fun a hF => ?_
        refine q_xg (v := (.int .i64 p_a.Num)) hF hS (ex_load1 0 0 Try.underlying3 rfl rfl rfl rfl) (wanted_t hF rfl rfl rfl hc3) rfl fun a hF => ?_
        refine q_xg (v := (.pointer (some ⟨b1, 1, none⟩))) hF hS (ex_fieldAddr Try.underlying26 rfl sz3 rfl rfl) (wanted_t hF rfl rfl rfl hc3) rfl fun a hF => ?_
        refine q_xg (v := (.int .i64 p_a.Den)) hF hS (ex_load1 0 0 Try.underlying3 rfl rfl rfl rfl) (wanted_t hF rfl rfl rfl hc3) rfl fun a hF => ?_
        refine q_xg (v := (.bool (decide (p_a.Num < p_a.Den)))) hF hS (ex_ibin rfl rfl rfl) (wanted_t hF rfl rfl rfl hc3) rfl fun a hF => ?_
        refine q_x (v := (.bool (decide (p_a.Num < p_a.Den)))) hF hS (ex_pick_t rfl rfl hc3) rfl rfl fun a hF => ?_
        refine q_x (v := (.bool (decide (p_a.Num < p_a.Den)))) hF hS (ex_assign rfl) rfl rfl fun a hF => ?_
        refine q_end (n_jn ?_)
        obtain rfl := someI hj1
        exact ⟨hF.sub ⟨rfl, trivial⟩, hS.mask [false]⟩
  · rintro a w ⟨hF, hS⟩
    refine n_sq (q_ret ?_)
    obtain rfl := someI hr
    exact ret_of hF hS rfl (.tmp rfl .nil) rfl

theorem c_impl_isClamp (p_lo : Int) (p_hi : Int) (r : Bool) (hr : impl_isClamp p_lo p_hi = some r) (w0 : World) (m : Mem) (hv : Vis m w0) :
    Ret Try.prog 125 [(.int .i64 p_lo), (.int .i64 p_hi)] w0 (fun v _ => v = (.bool r)) := by
  unfold impl_isClamp at hr
  refine ret_start Try.func125 rfl 22 rfl rfl m hv fun a hF hS => ?_
  refine q_seq ?_
  refine q_region ?_
  refine q_x (v := (.bool false)) hF hS (ex_assign rfl) rfl rfl fun a hF => ?_
  refine q_end (n_sq ?_)
  refine q_seq ?_
  obtain ⟨t_1, hj1, hr⟩ := bindS hr
  refine q_join (fun a w => Fr a 22 [(4, (.bool t_1))] ∧ St [] w0 w m []) ?_ ?_
  · refine q_region ?_
    refine q_x (v := (.int .i64 p_lo)) hF hS (ex_move rfl) rfl rfl fun a hF => ?_
    refine q_x (v := (.bool (decide ((-1000000000) ≤ p_lo)))) hF hS (ex_ibin rfl rfl rfl) rfl rfl fun a hF => ?_
    refine q_x (v := (.bool (decide ((-1000000000) ≤ p_lo)))) hF hS (ex_move rfl) rfl rfl fun a hF => ?_
    rcases hc2 : (decide ((-1000000000) ≤ p_lo)) with _ | _
    · have hj1 := cond_f hc2 hj1
      refine q_skip hF (wanted_f hF rfl rfl rfl hc2 rfl) rfl fun a hF => ?_
      refine q_skip hF (wanted_f hF rfl rfl rfl hc2 rfl) rfl fun a hF => ?_
      refine q_skip hF (wanted_f hF rfl rfl rfl hc2 rfl) rfl fun a hF => ?_
      refine q_x (v := (.bool false)) hF hS (ex_pick_f rfl rfl hc2) rfl rfl fun a hF => ?_
      refine q_x (v := (.bool false)) hF hS (ex_move rfl) rfl rfl fun a hF => ?_
      refine q_skip hF (wanted_f hF rfl rfl rfl rfl rfl) rfl fun a hF => ?_
      refine q_skip hF (wanted_f hF rfl rfl rfl rfl rfl) rfl fun a hF => ?_
      refine q_x (v := (.bool false)) hF hS (ex_pick_f rfl rfl rfl) rfl rfl fun a hF => ?_
      refine q_x (v := (.bool false)) hF hS (ex_move rfl) rfl rfl fun a hF => ?_
      refine q_skip hF (wanted_f hF rfl rfl rfl rfl rfl) rfl fun a hF => ?_
      refine q_skip hF (wanted_f hF rfl rfl rfl rfl rfl) rfl fun a hF => ?_
      refine q_skip hF (wanted_f hF rfl rfl rfl rfl rfl) rfl fun a hF => ?_
      refine q_skip hF (wanted_f hF rfl rfl rfl rfl rfl) rfl fun a hF => ?_
      refine q_x (v := (.bool false)) hF hS (ex_pick_f rfl rfl rfl) rfl rfl fun a hF => ?_
      refine q_x (v := (.bool false)) hF hS (ex_assign rfl) rfl rfl fun a hF => ?_
      refine q_end (n_jn ?_)
      obtain rfl := someI hj1
      exact ⟨hF.sub ⟨rfl, trivial⟩, hS⟩
    · have hj1 := cond_t hc2 hj1
      refine q_xg (v := (.int .i64 p_lo)) hF hS (ex_move rfl) (wanted_t hF rfl rfl rfl hc2) rfl fun a hF => ?_
      refine q_xg (v := (.int .i64 p_hi)) hF hS (ex_move rfl) (wanted_t hF rfl rfl rfl hc2) rfl fun a hF => ?_
      refine q_xg (v := (.bool (decide (p_lo ≤ p_hi)))) hF hS (ex_ibin rfl rfl rfl) (wanted_t hF rfl rfl rfl hc2) rfl fun a hF => ?_
      refine q_x (v := (.bool (decide (p_lo ≤ p_hi)))) hF hS (ex_pick_t rfl rfl hc2) rfl rfl fun a hF => ?_
      refine q_x (v := (.bool (decide (p_lo ≤ p_hi)))) hF hS (ex_move rfl) rfl rfl fun a hF => ?_
      rcases hc3 : (decide (p_lo ≤ p_hi)) with _ | _
      · have hj1 := cond_f hc3 hj1
        refine q_skip hF (wanted_f hF rfl rfl rfl hc3 rfl) rfl fun a hF => ?_
        refine q_skip hF (wanted_f hF rfl rfl rfl hc3 rfl) rfl fun a hF => ?_
        refine q_x (v := (.bool false)) hF hS (ex_pick_f rfl rfl hc3) rfl rfl fun a hF => ?_
        refine q_x (v := (.bool false)) hF hS (ex_move rfl) rfl rfl fun a hF => ?_
        refine q_skip hF (wanted_f hF rfl rfl rfl rfl rfl) rfl fun a hF => ?_
        refine q_skip hF (wanted_f hF rfl rfl rfl rfl rfl) rfl fun a hF => ?_
        refine q_skip hF (wanted_f hF rfl rfl rfl rfl rfl) rfl fun a hF => ?_
        refine q_skip hF (wanted_f hF rfl rfl rfl rfl rfl) rfl fun a hF => ?_
        refine q_x (v := (.bool false)) hF hS (ex_pick_f rfl rfl rfl) rfl rfl fun a hF => ?_
        refine q_x (v := (.bool false)) hF hS (ex_assign rfl) rfl rfl fun a hF => ?_
        refine q_end (n_jn ?_)
        obtain rfl := someI hj1
        exact ⟨hF.sub ⟨rfl, trivial⟩, hS⟩
      · have hj1 := cond_t hc3 hj1
        refine q_xg (v := (.int .i64 p_hi)) hF hS (ex_move rfl) (wanted_t hF rfl rfl rfl hc3) rfl fun a hF => ?_
        refine q_xg (v := (.bool (decide (p_hi ≤ 1000000000)))) hF hS (ex_ibin rfl rfl rfl) (wanted_t hF rfl rfl rfl hc3) rfl fun a hF => ?_
        refine q_x (v := (.bool (decide (p_hi ≤ 1000000000)))) hF hS (ex_pick_t rfl rfl hc3) rfl rfl fun a hF => ?_
        refine q_x (v := (.bool (decide (p_hi ≤ 1000000000)))) hF hS (ex_move rfl) rfl rfl fun a hF => ?_
        rcases hc4 : (decide (p_hi ≤ 1000000000)) with _ | _
        · have hj1 := cond_f hc4 hj1
          refine q_skip hF (wanted_f hF rfl rfl rfl hc4 rfl) rfl fun a hF => ?_
          refine q_skip hF (wanted_f hF rfl rfl rfl hc4 rfl) rfl fun a hF => ?_
          refine q_skip hF (wanted_f hF rfl rfl rfl hc4 rfl) rfl fun a hF => ?_
          refine q_skip hF (wanted_f hF rfl rfl rfl hc4 rfl) rfl fun a hF => ?_
          refine q_x (v := (.bool false)) hF hS (ex_pick_f rfl rfl hc4) rfl rfl fun a hF => ?_
          refine q_x (v := (.bool false)) hF hS (ex_assign rfl) rfl rfl fun a hF => ?_
          refine q_end (n_jn ?_)
          obtain rfl := someI hj1
          exact ⟨hF.sub ⟨rfl, trivial⟩, hS⟩
        · have hj1 := cond_t hc4 hj1
          refine q_xg (v := (.int .i64 p_hi)) hF hS (ex_move rfl) (wanted_t hF rfl rfl rfl hc4) rfl fun a hF => ?_
          refine q_xg (v := (.int .i64 p_lo)) hF hS (ex_move rfl) (wanted_t hF rfl rfl rfl hc4) rfl fun a hF => ?_
          refine q_xg (v := (.int .i64 (w64 (p_hi - p_lo)))) hF hS (ex_ibin rfl rfl rfl) (wanted_t hF rfl rfl rfl hc4) rfl fun a hF => ?_
          refine q_xg (v := (.bool (decide ((w64 (p_hi - p_lo)) ≤ 12)))) hF hS (ex_ibin rfl rfl rfl) (wanted_t hF rfl rfl rfl hc4) rfl fun a hF => ?_
          refine q_x (v := (.bool (decide ((w64 (p_hi - p_lo)) ≤ 12)))) hF hS (ex_pick_t rfl rfl hc4) rfl rfl fun a hF => ?_
          refine q_x (v := (.bool (decide ((w64 (p_hi - p_lo)) ≤ 12)))) hF hS (ex_assign rfl) rfl rfl fun a hF => ?_
          refine q_end (n_jn ?_)
          obtain rfl := someI hj1
          exact ⟨hF.sub ⟨rfl, trivial⟩, hS⟩
  · rintro a w ⟨hF, hS⟩
    refine n_sq (q_ret ?_)
    obtain rfl := someI hr
    exact ret_of hF hS rfl (.tmp rfl .nil) rfl

theorem c_impl_reduced (p_n : Int) (p_d : Int) (r : impl_Frac × Bool) (hr : impl_reduced p_n p_d = some r) (w0 : World) (m : Mem) (hv : Vis m w0) :
    Ret Try.prog 106 [(.int .i64 p_n), (.int .i64 p_d)] w0 (fun v _ => v = (.tuple #[(.agg #[(.int .i64 r.1.Num), (.int .i64 r.1.Den)]), (.bool r.2)])) := by
  unfold impl_reduced at hr
  refine ret_start Try.func106 rfl 36 rfl rfl m hv fun a hF hS => ?_
  refine q_seq ?_
  refine q_region ?_
  refine q_alloc (cs := [(.int .i64 0), (.int .i64 0)]) hF hS rfl rfl rfl fun a w b1 hF hS => ?_
  refine q_x (v := (.bool false)) hF hS (ex_assign rfl) rfl rfl fun a hF => ?_
  refine q_end (n_sq ?_)
  refine q_seq ?_
  refine q_region ?_
  refine q_x (v := (.int .i64 p_n)) hF hS (ex_move rfl) rfl rfl fun a hF => ?_
  refine q_x (v := (.int .i64 p_d)) hF hS (ex_move rfl) rfl rfl fun a hF => ?_
  obtain ⟨t_2, ht_2, hr⟩ := bindS hr
  refine q_call (vs := [(.int .i64 p_n), (.int .i64 p_d)]) hF hS Try.func143 (by kernel_rfl) rfl rfl rfl (c_impl_gcdOf p_n p_d t_2 ht_2 _ m hS.vis) ?_
  rintro a w _ rfl hF hS
  refine q_x (v := (.int .i64 t_2)) hF hS (ex_assign rfl) rfl rfl fun a hF => ?_
  refine q_end (n_sq ?_)
  refine q_seq ?_
  refine e_region [] mixed fun w' hw' => ?_
  have hS := hS.below hw'
  refine e_p (v := (.int .i64 p_n)) 0 hF rfl (ex_move rfl) rfl rfl (by kernel_rfl) (by kernel_rfl) (by kernel_rfl) fun a hF => ?_
  refine e_p (v := (.int .i64 t_2)) 1 hF rfl (ex_move rfl) rfl rfl (by kernel_rfl) (by kernel_rfl) (by kernel_rfl) fun a hF => ?_
  obtain ⟨t_3, ht_3, hr⟩ := bindS hr
  refine e_p (v := (.int .i64 t_3)) 2 hF rfl (ex_quo rfl rfl ht_3) rfl rfl (by kernel_rfl) (by kernel_rfl) (by kernel_rfl) fun a hF => ?_
  refine e_p (v := (.int .i64 p_d)) 3 hF rfl (ex_move rfl) rfl rfl (by kernel_rfl) (by kernel_rfl) (by kernel_rfl) fun a hF => ?_
  refine e_p (v := (.int .i64 t_2)) 4 hF rfl (ex_move rfl) rfl rfl (by kernel_rfl) (by kernel_rfl) (by kernel_rfl) fun a hF => ?_
  obtain ⟨t_4, ht_4, hr⟩ := bindS hr
  refine e_p (v := (.int .i64 t_4)) 5 hF rfl (ex_quo rfl rfl ht_4) rfl rfl (by kernel_rfl) (by kernel_rfl) (by kernel_rfl) fun a hF => ?_
  refine e_p (v := (.int .i64 t_3)) 6 hF rfl (ex_assign rfl) rfl rfl (by kernel_rfl) (by kernel_rfl) (by kernel_rfl) fun a hF => ?_
  refine e_p (v := (.int .i64 t_4)) 7 hF rfl (ex_assign rfl) rfl rfl (by kernel_rfl) (by kernel_rfl) (by kernel_rfl) fun a hF => ?_
  refine e_end (by kernel_rfl) (n_sq ?_) _
  refine q_seq ?_
  refine q_seq ?_
  refine q_region ?_
  refine q_x (v := (.int .i64 t_4)) hF hS (ex_move rfl) rfl rfl fun a hF => ?_
  refine q_x (v := (.bool (decide (t_4 < 0)))) hF hS (ex_ibin rfl rfl rfl) rfl rfl fun a hF => ?_
  refine q_end (n_sq ?_)
  obtain ⟨j1, hj1, hr⟩ := bindS hr
  refine q_join (fun a w => ∃ n_5, ∃ d_6, j1 = (n_5, d_6) ∧ Fr a 36 [(0, (.int .i64 n_5)), (1, (.int .i64 d_6)), (4, (.pointer (some ⟨b1, 0, none⟩)))] ∧ St [] w0 w m [[⟨b1, [(.int .i64 0), (.int .i64 0)], 26⟩]]) ?_ ?_
  · rcases hc2 : (decide (t_4 < 0)) with _ | _
    · have hj1 := cond_f hc2 hj1
      refine q_cond_f hF rfl hc2 ?_
      refine q_skipc (n_jn ?_)
      obtain rfl := someI hj1
      exact ⟨_, _, rfl, hF.sub ⟨rfl, rfl, rfl, trivial⟩, hS⟩
    · have hj1 := cond_t hc2 hj1
      refine q_cond_t hF rfl hc2 ?_
      refine q_region ?_
      refine q_x (v := (.int .i64 t_3)) hF hS (ex_move rfl) rfl rfl fun a hF => ?_
      refine q_x (v := (.int .i64 (w64 (-t_3)))) hF hS (ex_neg rfl) rfl rfl fun a hF => ?_
      refine q_x (v := (.int .i64 t_4)) hF hS (ex_move rfl) rfl rfl fun a hF => ?_
      refine q_x (v := (.int .i64 (w64 (-t_4)))) hF hS (ex_neg rfl) rfl rfl fun a hF => ?_
      refine q_x (v := (.int .i64 (w64 (-t_3)))) hF hS (ex_assign rfl) rfl rfl fun a hF => ?_
      refine q_x (v := (.int .i64 (w64 (-t_4)))) hF hS (ex_assign rfl) rfl rfl fun a hF => ?_
      refine q_end (n_jn ?_)
      obtain rfl := someI hj1
      exact ⟨_, _, rfl, hF.sub ⟨rfl, rfl, rfl, trivial⟩, hS⟩
  · rintro a w ⟨n_5, d_6, rfl, hF, hS⟩
    refine n_sq ?_
    refine q_seq ?_
    refine q_seq ?_
    obtain ⟨t_7, hj3, hr⟩ := bindS hr
    refine q_join (fun a w => Fr a 36 [(0, (.int .i64 n_5)), (1, (.int .i64 d_6)), (4, (.pointer (some ⟨b1, 0, none⟩))), (31, (.bool t_7))] ∧ St [] w0 w m [[⟨b1, [(.int .i64 0), (.int .i64 0)], 26⟩]]) ?_ ?_
    · refine q_region ?_
      refine q_x (v := (.int .i64 n_5)) hF hS (ex_move rfl) rfl rfl fun a hF => ?_
      refine q_x (v := (.bool (decide (1000000000 < n_5)))) hF hS (ex_ibin rfl rfl rfl) rfl rfl fun a hF => ?_
      refine q_x (v := (.bool (decide (1000000000 < n_5)))) hF hS (ex_move rfl) rfl rfl fun a hF => ?_
      rcases hc4 : (decide (1000000000 < n_5)) with _ | _
      · have hj3 := cond_f hc4 hj3
        refine q_xg (v := (.int .i64 n_5)) hF hS (ex_move rfl) (wanted_t hF rfl rfl rfl hc4) rfl fun a hF => ?_
        refine q_xg (v := (.bool (decide (n_5 < (-1000000000))))) hF hS (ex_ibin rfl rfl rfl) (wanted_t hF rfl rfl rfl hc4) rfl fun a hF => ?_
        refine q_x (v := (.bool (decide (n_5 < (-1000000000))))) hF hS (ex_pick_f rfl rfl hc4) rfl rfl fun a hF => ?_
        refine q_x (v := (.bool (decide (n_5 < (-1000000000))))) hF hS (ex_move rfl) rfl rfl fun a hF => ?_
        rcases hc5 : (decide (n_5 < (-1000000000))) with _ | _
        · have hj3 := cond_f hc5 hj3
          refine q_xg (v := (.int .i64 d_6)) hF hS (ex_move rfl) (wanted_t hF rfl rfl rfl hc5) rfl fun a hF => ?_
          refine q_xg (v := (.bool (decide (1000000000 < d_6)))) hF hS (ex_ibin rfl rfl rfl) (wanted_t hF rfl rfl rfl hc5) rfl fun a hF => ?_
          refine q_x (v := (.bool (decide (1000000000 < d_6)))) hF hS (ex_pick_f rfl rfl hc5) rfl rfl fun a hF => ?_
          refine q_end (n_jn ?_)
          obtain rfl := someI hj3
          exact ⟨hF.sub ⟨rfl, rfl, rfl, rfl, trivial⟩, hS⟩
        · have hj3 := cond_t hc5 hj3
          refine q_skip hF (wanted_f hF rfl rfl rfl hc5 rfl) rfl fun a hF => ?_
          refine q_skip hF (wanted_f hF rfl rfl rfl hc5 rfl) rfl fun a hF => ?_
          refine q_x (v := (.bool true)) hF hS (ex_pick_t rfl rfl hc5) rfl rfl fun a hF => ?_
          refine q_end (n_jn ?_)
          obtain rfl := someI hj3
          exact ⟨hF.sub ⟨rfl, rfl, rfl, rfl, trivial⟩, hS⟩
      · have hj3 := cond_t hc4 hj3
        refine q_skip hF (wanted_f hF rfl rfl rfl hc4 rfl) rfl fun a hF => ?_
        refine q_skip hF (wanted_f hF rfl rfl rfl hc4 rfl) rfl fun a hF => ?_
        refine q_x (v := (.bool true)) hF hS (ex_pick_t rfl rfl hc4) rfl rfl fun a hF => ?_
        refine q_x (v := (.bool true)) hF hS (ex_move rfl) rfl rfl fun a hF => ?_
        refine q_skip hF (wanted_f hF rfl rfl rfl rfl rfl) rfl fun a hF => ?_
        refine q_skip hF (wanted_f hF rfl rfl rfl rfl rfl) rfl fun a hF => ?_
        refine q_x (v := (.bool true)) hF hS (ex_pick_t rfl rfl rfl) rfl rfl fun a hF => ?_
        refine q_end (n_jn ?_)
        obtain rfl := someI hj3
        exact ⟨hF.sub ⟨rfl, rfl, rfl, rfl, trivial⟩, hS⟩
    · rintro a w ⟨hF, hS⟩
      refine n_sq ?_
      rcases hc6 : (t_7) with _ | _
      · have hr := cond_f hc6 hr
        refine q_cond_f hF rfl hc6 ?_
        refine q_skipc (n_sq ?_)
        refine q_seq ?_
        refine q_region ?_
        refine q_x (v := (.int .i64 n_5)) hF hS (ex_move rfl) rfl rfl fun a hF => ?_
        refine q_x (v := (.int .i64 d_6)) hF hS (ex_move rfl) rfl rfl fun a hF => ?_
        refine q_x (v := (.agg #[(.int .i64 n_5), (.int .i64 d_6)])) hF hS (ex_build (cells := [(.int .i64 n_5), (.int .i64 d_6)]) rfl (by kernel_rfl)) rfl rfl fun a hF => ?_
        refine q_store (vs := [(.int .i64 n_5), (.int .i64 d_6)]) (cs' := [(.int .i64 n_5), (.int .i64 d_6)]) 0 0 hF hS sz26 rfl rfl rfl rfl rfl rfl rfl rfl fun a w hF hS => ?_
        refine q_x (v := (.bool true)) hF hS (ex_assign rfl) rfl rfl fun a hF => ?_
        refine q_end (n_sq (q_ret ?_))
        obtain rfl := someI hr
        exact ret_of hF hS rfl (.cellA (us := [(.int .i64 n_5), (.int .i64 d_6)]) 0 0 Try.underlying26 rfl sz26 rfl rfl rfl rfl (.tmp rfl .nil)) rfl
      · have hr := cond_t hc6 hr
        refine q_cond_t hF rfl hc6 ?_
        refine q_seq ?_
        refine q_region ?_
        refine q_x (v := (.agg #[(.int .i64 0), (.int .i64 0)])) hF hS (ex_build (cells := [(.int .i64 0), (.int .i64 0)]) rfl (by kernel_rfl)) rfl rfl fun a hF => ?_
        refine q_store (vs := [(.int .i64 0), (.int .i64 0)]) (cs' := [(.int .i64 0), (.int .i64 0)]) 0 0 hF hS sz26 rfl rfl rfl rfl rfl rfl rfl rfl fun a w hF hS => ?_
        refine q_x (v := (.bool false)) hF hS (ex_assign rfl) rfl rfl fun a hF => ?_
        refine q_end (n_sq (q_ret (r_sq ?_)))
        obtain rfl := someI hr
        exact ret_of hF hS rfl (.cellA (us := [(.int .i64 0), (.int .i64 0)]) 0 0 Try.underlying26 rfl sz26 rfl rfl rfl rfl (.tmp rfl .nil)) rfl

theorem c_impl_MulFrac (p_a : impl_Frac) (p_b : impl_Frac) (r : impl_Frac × Bool) (hr : impl_MulFrac p_a p_b = some r) (w0 : World) (m : Mem) (hv : Vis m w0) :
    Ret Try.prog 101 [(.agg #[(.int .i64 p_a.Num), (.int .i64 p_a.Den)]), (.agg #[(.int .i64 p_b.Num), (.int .i64 p_b.Den)])] w0 (fun v _ => v = (.tuple #[(.agg #[(.int .i64 r.1.Num), (.int .i64 r.1.Den)]), (.bool r.2)])) := by
  unfold impl_MulFrac at hr
  refine ret_start Try.func101 rfl 28 rfl rfl m hv fun a hF hS => ?_
  refine q_seq ?_
  refine q_region ?_
  refine q_box (cs := [(.int .i64 p_a.Num), (.int .i64 p_a.Den)]) hF hS rfl rfl rfl fun a w b1 hF hS => ?_
  refine q_box (cs := [(.int .i64 p_b.Num), (.int .i64 p_b.Den)]) hF hS rfl rfl rfl fun a w b2 hF hS => ?_
  refine q_alloc (cs := [(.int .i64 0), (.int .i64 0)]) hF hS rfl rfl rfl fun a w b3 hF hS => ?_
  refine q_x (v := (.bool false)) hF hS (ex_assign rfl) rfl rfl fun a hF => ?_
  refine q_end (n_sq ?_)
  refine q_seq ?_
  refine q_seq ?_
  obtain ⟨t_6, hj1, hr⟩ := bindS hr
  refine q_join (fun a w => Fr a 28 [(2, (.pointer (some ⟨b1, 0, none⟩))), (3, (.pointer (some ⟨b2, 0, none⟩))), (4, (.pointer (some ⟨b3, 0, none⟩))), (13, (.bool t_6))] ∧ St [] w0 w m [[⟨b3, [(.int .i64 0), (.int .i64 0)], 26⟩], [⟨b2, [(.int .i64 p_b.Num), (.int .i64 p_b.Den)], 26⟩], [⟨b1, [(.int .i64 p_a.Num), (.int .i64 p_a.Den)], 26⟩]]) ?_ ?_
  · refine q_region ?_
    refine q_x (v := (.agg #[(.int .i64 p_a.Num), (.int .i64 p_a.Den)])) hF hS (ex_loadA (vs := [(.int .i64 p_a.Num), (.int .i64 p_a.Den)]) 2 0 Try.underlying26 rfl sz26 rfl rfl rfl rfl) rfl rfl fun a hF => ?_
    obtain ⟨t_4, ht_4, hj1⟩ := bindS hj1
    refine q_call (vs := [(.agg #[(.int .i64 p_a.Num), (.int .i64 p_a.Den)])]) hF hS Try.func99 (by kernel_rfl) rfl rfl rfl (c_impl_IsFrac p_a t_4 ht_4 _ m hS.vis) ?_
    rintro a w _ rfl hF hS
    refine q_x (v := (.bool (!t_4))) hF hS (ex_not rfl) rfl rfl fun a hF => ?_
    refine q_x (v := (.bool (!t_4))) hF hS (ex_move rfl) rfl rfl fun a hF => ?_
    rcases hc2 : (!t_4) with _ | _
    · have hj1 := cond_f hc2 hj1
      refine q_xg (v := (.agg #[(.int .i64 p_b.Num), (.int .i64 p_b.Den)])) hF hS (ex_loadA (vs := [(.int .i64 p_b.Num), (.int .i64 p_b.Den)]) 1 0 Try.underlying26 rfl sz26 rfl rfl rfl rfl) (wanted_t hF rfl rfl rfl hc2) rfl fun a hF => ?_
      obtain ⟨t_5, ht_5, hj1⟩ := bindS hj1
      refine q_callg (vs := [(.agg #[(.int .i64 p_b.Num), (.int .i64 p_b.Den)])]) hF hS (wanted_t hF rfl rfl rfl hc2) Try.func99 (by kernel_rfl) rfl rfl rfl (c_impl_IsFrac p_b t_5 ht_5 _ m hS.vis) ?_
      rintro a w _ rfl hF hS
      refine q_xg (v := (.bool (!t_5))) hF hS (ex_not rfl) (wanted_t hF rfl rfl rfl hc2) rfl fun a hF => ?_
      refine q_x (v := (.bool (!t_5))) hF hS (ex_pick_f rfl rfl hc2) rfl rfl fun a hF => ?_
      refine q_end (n_jn ?_)
      obtain rfl := someI hj1
      exact ⟨hF.sub ⟨rfl, rfl, rfl, rfl, trivial⟩, hS⟩
    · have hj1 := cond_t hc2 hj1
      refine q_skip hF (wanted_f hF rfl rfl rfl hc2 rfl) rfl fun a hF => ?_
      refine q_skip hF (wanted_f hF rfl rfl rfl hc2 rfl) rfl fun a hF => ?_
      refine q_skip hF (wanted_f hF rfl rfl rfl hc2 rfl) rfl fun a hF => ?_
      refine q_x (v := (.bool true)) hF hS (ex_pick_t rfl rfl hc2) rfl rfl fun a hF => ?_
      refine q_end (n_jn ?_)
      obtain rfl := someI hj1
      exact ⟨hF.sub ⟨rfl, rfl, rfl, rfl, trivial⟩, hS⟩
  · rintro a w ⟨hF, hS⟩
    refine n_sq ?_
    rcases hc3 : (t_6) with _ | _
    · have hr := cond_f hc3 hr
      refine q_cond_f hF rfl hc3 ?_
      refine q_skipc (n_sq ?_)
      refine q_seq ?_
      refine q_region ?_
      refine q_x (v := (.pointer (some ⟨b1, 0, none⟩))) hF hS (ex_fieldAddr Try.underlying26 rfl sz3 rfl rfl) rfl rfl fun a hF => ?_
      refine q_x (v := (.int .i64 p_a.Num)) hF hS (ex_load1 2 0 Try.underlying3 rfl rfl rfl rfl) rfl rfl fun a hF => ?_
      refine q_x (v := (.pointer (some ⟨b2, 0, none⟩))) hF hS (ex_fieldAddr Try.underlying26 rfl sz3 rfl rfl) rfl rfl fun a hF => ?_
      refine q_x (v := (.int .i64 p_b.Num)) hF hS (ex_load1 1 0 Try.underlying3 rfl rfl rfl rfl) rfl rfl fun a hF => ?_
      refine q_x (v := (.int .i64 (w64 (p_a.Num * p_b.Num)))) hF hS (ex_ibin rfl rfl rfl) rfl rfl fun a hF => ?_
      refine q_x (v := (.pointer (some ⟨b1, 1, none⟩))) hF hS (ex_fieldAddr Try.underlying26 rfl sz3 rfl rfl) rfl rfl fun a hF => ?_
      refine q_x (v := (.int .i64 p_a.Den)) hF hS (ex_load1 2 0 Try.underlying3 rfl rfl rfl rfl) rfl rfl fun a hF => ?_
      refine q_x (v := (.pointer (some ⟨b2, 1, none⟩))) hF hS (ex_fieldAddr Try.underlying26 rfl sz3 rfl rfl) rfl rfl fun a hF => ?_
      refine q_x (v := (.int .i64 p_b.Den)) hF hS (ex_load1 1 0 Try.underlying3 rfl rfl rfl rfl) rfl rfl fun a hF => ?_
      refine q_x (v := (.int .i64 (w64 (p_a.Den * p_b.Den)))) hF hS (ex_ibin rfl rfl rfl) rfl rfl fun a hF => ?_
      obtain ⟨t_7, ht_7, hr⟩ := bindS hr
      refine q_call (vs := [(.int .i64 (w64 (p_a.Num * p_b.Num))), (.int .i64 (w64 (p_a.Den * p_b.Den)))]) hF hS Try.func106 (by kernel_rfl) rfl rfl rfl (c_impl_reduced (w64 (p_a.Num * p_b.Num)) (w64 (p_a.Den * p_b.Den)) t_7 ht_7 _ m hS.vis) ?_
      rintro a w _ rfl hF hS
      refine q_x (v := (.agg #[(.int .i64 t_7.1.Num), (.int .i64 t_7.1.Den)])) hF hS (ex_extract rfl rfl) rfl rfl fun a hF => ?_
      refine q_x (v := (.bool t_7.2)) hF hS (ex_extract rfl rfl) rfl rfl fun a hF => ?_
      refine q_store (vs := [(.int .i64 t_7.1.Num), (.int .i64 t_7.1.Den)]) (cs' := [(.int .i64 t_7.1.Num), (.int .i64 t_7.1.Den)]) 0 0 hF hS sz26 rfl rfl rfl rfl rfl rfl rfl rfl fun a w hF hS => ?_
      refine q_x (v := (.bool t_7.2)) hF hS (ex_assign rfl) rfl rfl fun a hF => ?_
      refine q_end (n_sq (q_ret ?_))
      obtain rfl := someI hr
      exact ret_of hF hS rfl (.cellA (us := [(.int .i64 t_7.1.Num), (.int .i64 t_7.1.Den)]) 0 0 Try.underlying26 rfl sz26 rfl rfl rfl rfl (.tmp rfl .nil)) rfl
    · have hr := cond_t hc3 hr
      refine q_cond_t hF rfl hc3 ?_
      refine q_seq ?_
      refine q_region ?_
      refine q_x (v := (.agg #[(.int .i64 0), (.int .i64 0)])) hF hS (ex_build (cells := [(.int .i64 0), (.int .i64 0)]) rfl (by kernel_rfl)) rfl rfl fun a hF => ?_
      refine q_store (vs := [(.int .i64 0), (.int .i64 0)]) (cs' := [(.int .i64 0), (.int .i64 0)]) 0 0 hF hS sz26 rfl rfl rfl rfl rfl rfl rfl rfl fun a w hF hS => ?_
      refine q_x (v := (.bool false)) hF hS (ex_assign rfl) rfl rfl fun a hF => ?_
      refine q_end (n_sq (q_ret (r_sq ?_)))
      obtain rfl := someI hr
      exact ret_of hF hS rfl (.cellA (us := [(.int .i64 0), (.int .i64 0)]) 0 0 Try.underlying26 rfl sz26 rfl rfl rfl rfl (.tmp rfl .nil)) rfl

theorem c_impl_PowFrac (p_f : impl_Frac) (p_k : Int) (r : impl_Frac × Bool) (hr : impl_PowFrac p_f p_k = some r) (w0 : World) (m : Mem) (hv : Vis m w0) :
    Ret Try.prog 113 [(.agg #[(.int .i64 p_f.Num), (.int .i64 p_f.Den)]), (.int .i64 p_k)] w0 (fun v _ => v = (.tuple #[(.agg #[(.int .i64 r.1.Num), (.int .i64 r.1.Den)]), (.bool r.2)])) := by
  unfold impl_PowFrac at hr
  refine ret_start Try.func113 rfl 37 rfl rfl m hv fun a hF hS => ?_
  refine q_seq ?_
  refine q_region ?_
  refine q_box (cs := [(.int .i64 p_f.Num), (.int .i64 p_f.Den)]) hF hS rfl rfl rfl fun a w b1 hF hS => ?_
  refine q_alloc (cs := [(.int .i64 0), (.int .i64 0)]) hF hS rfl rfl rfl fun a w b2 hF hS => ?_
  refine q_x (v := (.bool false)) hF hS (ex_assign rfl) rfl rfl fun a hF => ?_
  refine q_end (n_sq ?_)
  refine q_seq ?_
  refine q_seq ?_
  obtain ⟨t_4, hj1, hr⟩ := bindS hr
  refine q_join (fun a w => Fr a 37 [(1, (.int .i64 p_k)), (2, (.pointer (some ⟨b1, 0, none⟩))), (4, (.pointer (some ⟨b2, 0, none⟩))), (19, (.bool t_4))] ∧ St [] w0 w m [[⟨b2, [(.int .i64 0), (.int .i64 0)], 26⟩], [⟨b1, [(.int .i64 p_f.Num), (.int .i64 p_f.Den)], 26⟩]]) ?_ ?_
  · refine q_region ?_
    refine q_x (v := (.agg #[(.int .i64 p_f.Num), (.int .i64 p_f.Den)])) hF hS (ex_loadA (vs := [(.int .i64 p_f.Num), (.int .i64 p_f.Den)]) 1 0 Try.underlying26 rfl sz26 rfl rfl rfl rfl) rfl rfl fun a hF => ?_
    obtain ⟨t_3, ht_3, hj1⟩ := bindS hj1
    refine q_call (vs := [(.agg #[(.int .i64 p_f.Num), (.int .i64 p_f.Den)])]) hF hS Try.func99 (by kernel_rfl) rfl rfl rfl (c_impl_IsFrac p_f t_3 ht_3 _ m hS.vis) ?_
    rintro a w _ rfl hF hS
    refine q_x (v := (.bool (!t_3))) hF hS (ex_not rfl) rfl rfl fun a hF => ?_
    refine q_x (v := (.bool (!t_3))) hF hS (ex_move rfl) rfl rfl fun a hF => ?_
    rcases hc2 : (!t_3) with _ | _
    · have hj1 := cond_f hc2 hj1
      refine q_xg (v := (.int .i64 p_k)) hF hS (ex_move rfl) (wanted_t hF rfl rfl rfl hc2) rfl fun a hF => ?_
      refine q_xg (v := (.bool (decide (p_k < 0)))) hF hS (ex_ibin rfl rfl rfl) (wanted_t hF rfl rfl rfl hc2) rfl fun a hF => ?_
      refine q_x (v := (.bool (decide (p_k < 0)))) hF hS (ex_pick_f rfl rfl hc2) rfl rfl fun a hF => ?_
      refine q_x (v := (.bool (decide (p_k < 0)))) hF hS (ex_move rfl) rfl rfl fun a hF => ?_
      rcases hc3 : (decide (p_k < 0)) with _ | _
      · have hj1 := cond_f hc3 hj1
        refine q_xg (v := (.int .i64 p_k)) hF hS (ex_move rfl) (wanted_t hF rfl rfl rfl hc3) rfl fun a hF => ?_
        refine q_xg (v := (.bool (decide (60 < p_k)))) hF hS (ex_ibin rfl rfl rfl) (wanted_t hF rfl rfl rfl hc3) rfl fun a hF => ?_
        refine q_x (v := (.bool (decide (60 < p_k)))) hF hS (ex_pick_f rfl rfl hc3) rfl rfl fun a hF => ?_
        refine q_end (n_jn ?_)
        obtain rfl := someI hj1
        exact ⟨hF.sub ⟨rfl, rfl, rfl, rfl, trivial⟩, hS⟩
      · have hj1 := cond_t hc3 hj1
        refine q_skip hF (wanted_f hF rfl rfl rfl hc3 rfl) rfl fun a hF => ?_
        refine q_skip hF (wanted_f hF rfl rfl rfl hc3 rfl) rfl fun a hF => ?_
        refine q_x (v := (.bool true)) hF hS (ex_pick_t rfl rfl hc3) rfl rfl fun a hF => ?_
        refine q_end (n_jn ?_)
        obtain rfl := someI hj1
        exact ⟨hF.sub ⟨rfl, rfl, rfl, rfl, trivial⟩, hS⟩
    · have hj1 := cond_t hc2 hj1
      refine q_skip hF (wanted_f hF rfl rfl rfl hc2 rfl) rfl fun a hF => ?_
      refine q_skip hF (wanted_f hF rfl rfl rfl hc2 rfl) rfl fun a hF => ?_
      refine q_x (v := (.bool true)) hF hS (ex_pick_t rfl rfl hc2) rfl rfl fun a hF => ?_
      refine q_x (v := (.bool true)) hF hS (ex_move rfl) rfl rfl fun a hF => ?_
      refine q_skip hF (wanted_f hF rfl rfl rfl rfl rfl) rfl fun a hF => ?_
      refine q_skip hF (wanted_f hF rfl rfl rfl rfl rfl) rfl fun a hF => ?_
      refine q_x (v := (.bool true)) hF hS (ex_pick_t rfl rfl rfl) rfl rfl fun a hF => ?_
      refine q_end (n_jn ?_)
      obtain rfl := someI hj1
      exact ⟨hF.sub ⟨rfl, rfl, rfl, rfl, trivial⟩, hS⟩
  · rintro a w ⟨hF, hS⟩
    refine n_sq ?_
    rcases hc4 : (t_4) with _ | _
    · have hr := cond_f hc4 hr
      refine q_cond_f hF rfl hc4 ?_
      refine q_skipc (n_sq ?_)
      refine q_seq ?_
      refine q_region ?_
      refine q_x (v := (.agg #[(.int .i64 1), (.int .i64 1)])) hF hS (ex_build (cells := [(.int .i64 1), (.int .i64 1)]) rfl (by kernel_rfl)) rfl rfl fun a hF => ?_
      refine q_alloc (cs := [(.int .i64 0), (.int .i64 0)]) hF hS rfl rfl rfl fun a w b5 hF hS => ?_
      refine q_store (vs := [(.int .i64 1), (.int .i64 1)]) (cs' := [(.int .i64 1), (.int .i64 1)]) 0 0 hF hS sz26 rfl rfl rfl rfl rfl rfl rfl rfl fun a w hF hS => ?_
      refine q_end (n_sq ?_)
      refine q_seq ?_
      refine q_seq ?_
      refine q_region ?_
      refine q_x (v := (.int .i64 p_k)) hF hS (ex_move rfl) rfl rfl fun a hF => ?_
      refine q_x (v := (.int .i64 0)) hF hS (ex_move rfl) rfl rfl fun a hF => ?_
      refine q_end (n_sq ?_)
      refine q_block ?_
      obtain ⟨o5, hl5, hr⟩ := bindS hr
      refine q_loop (fun (s : Int × impl_Frac) a w => ∃ t_6, ∃ p_7, s = (t_6, p_7) ∧ Fr a 37 [(2, (.pointer (some ⟨b1, 0, none⟩))), (4, (.pointer (some ⟨b2, 0, none⟩))), (6, (.pointer (some ⟨b5, 0, none⟩))), (22, (.int .i64 p_k)), (23, (.int .i64 t_6))] ∧ St [] w0 w m [[⟨b5, [(.int .i64 p_7.Num), (.int .i64 p_7.Den)], 26⟩], [⟨b2, [(.int .i64 0), (.int .i64 0)], 26⟩], [⟨b1, [(.int .i64 p_f.Num), (.int .i64 p_f.Den)], 26⟩]]) (fun (o : (impl_Frac) ⊕ (impl_Frac × Bool)) e a w => ∃ p_10, o = .inl p_10 ∧ e = .exit 0 ∧ Fr a 37 [(4, (.pointer (some ⟨b2, 0, none⟩))), (6, (.pointer (some ⟨b5, 0, none⟩)))] ∧ St [] w0 w m [[⟨b5, [(.int .i64 p_10.Num), (.int .i64 p_10.Den)], 26⟩], [⟨b2, [(.int .i64 0), (.int .i64 0)], 26⟩]]) hl5 ⟨_, _, rfl, hF.sub ⟨rfl, rfl, rfl, rfl, rfl, trivial⟩, hS⟩ ?_ ?_
      · clear hF hS
        rintro s a w st ⟨t_6, p_7, rfl, hF, hS⟩ hb5
        unfold impl_PowFrac_l1 at hb5
        refine q_seq ?_
        refine q_region ?_
        refine q_x (v := (.bool (decide (t_6 < p_k)))) hF hS (ex_ibin rfl rfl rfl) rfl rfl fun a hF => ?_
        refine q_end (n_sq ?_)
        refine q_seq ?_
        rcases hc6 : (decide (t_6 < p_k)) with _ | _
        · have hb5 := cond_f hc6 hb5
          refine q_cond_f hF rfl hc6 ?_
          refine q_exit (x_sq ?_)
          obtain rfl := someI hb5
          exact ⟨nofun, .inl ⟨_, rfl, rfl, hF.sub ⟨rfl, rfl, trivial⟩, hS.mask [true, true, false]⟩⟩
        · have hb5 := cond_t hc6 hb5
          refine q_cond_t hF rfl hc6 ?_
          refine q_skipc (n_sq ?_)
          refine q_seq ?_
          refine q_block ?_
          refine q_seq ?_
          refine q_region ?_
          refine q_x (v := (.agg #[(.int .i64 p_7.Num), (.int .i64 p_7.Den)])) hF hS (ex_loadA (vs := [(.int .i64 p_7.Num), (.int .i64 p_7.Den)]) 0 0 Try.underlying26 rfl sz26 rfl rfl rfl rfl) rfl rfl fun a hF => ?_
          refine q_x (v := (.agg #[(.int .i64 p_f.Num), (.int .i64 p_f.Den)])) hF hS (ex_loadA (vs := [(.int .i64 p_f.Num), (.int .i64 p_f.Den)]) 2 0 Try.underlying26 rfl sz26 rfl rfl rfl rfl) rfl rfl fun a hF => ?_
          obtain ⟨t_8, ht_8, hb5⟩ := bindS hb5
          refine q_call (vs := [(.agg #[(.int .i64 p_7.Num), (.int .i64 p_7.Den)]), (.agg #[(.int .i64 p_f.Num), (.int .i64 p_f.Den)])]) hF hS Try.func101 (by kernel_rfl) rfl rfl rfl (c_impl_MulFrac p_7 p_f t_8 ht_8 _ m hS.vis) ?_
          rintro a w _ rfl hF hS
          refine q_x (v := (.tuple #[(.agg #[(.int .i64 t_8.1.Num), (.int .i64 t_8.1.Den)]), (.bool t_8.2)])) hF hS (ex_move rfl) rfl rfl fun a hF => ?_
          refine q_x (v := (.agg #[(.int .i64 t_8.1.Num), (.int .i64 t_8.1.Den)])) hF hS (ex_extract rfl rfl) rfl rfl fun a hF => ?_
          refine q_x (v := (.bool t_8.2)) hF hS (ex_extract rfl rfl) rfl rfl fun a hF => ?_
          refine q_alloc (cs := [(.int .i64 0), (.int .i64 0)]) hF hS rfl rfl rfl fun a w b9 hF hS => ?_
          refine q_store (vs := [(.int .i64 t_8.1.Num), (.int .i64 t_8.1.Den)]) (cs' := [(.int .i64 t_8.1.Num), (.int .i64 t_8.1.Den)]) 0 0 hF hS sz26 rfl rfl rfl rfl rfl rfl rfl rfl fun a w hF hS => ?_
          refine q_x (v := (.bool t_8.2)) hF hS (ex_assign rfl) rfl rfl fun a hF => ?_
          refine q_end (n_sq ?_)
          refine q_seq ?_
          refine q_seq ?_
          refine q_region ?_
          refine q_x (v := (.bool t_8.2)) hF hS (ex_move rfl) rfl rfl fun a hF => ?_
          refine q_x (v := (.bool (!t_8.2))) hF hS (ex_not rfl) rfl rfl fun a hF => ?_
          refine q_end (n_sq ?_)
          rcases hc7 : (!t_8.2) with _ | _
          · have hb5 := cond_f hc7 hb5
            refine q_cond_f hF rfl hc7 ?_
            refine q_skipc (n_sq ?_)
            refine q_region ?_
            refine q_x (v := (.agg #[(.int .i64 t_8.1.Num), (.int .i64 t_8.1.Den)])) hF hS (ex_loadA (vs := [(.int .i64 t_8.1.Num), (.int .i64 t_8.1.Den)]) 0 0 Try.underlying26 rfl sz26 rfl rfl rfl rfl) rfl rfl fun a hF => ?_
            refine q_store (vs := [(.int .i64 t_8.1.Num), (.int .i64 t_8.1.Den)]) (cs' := [(.int .i64 t_8.1.Num), (.int .i64 t_8.1.Den)]) 1 0 hF hS sz26 rfl rfl rfl rfl rfl rfl rfl rfl fun a w hF hS => ?_
            refine q_end (n_ib (n_sq ?_))
            refine q_region ?_
            refine q_x (v := (.int .i64 (w64 (t_6 + 1)))) hF hS (ex_ibin rfl rfl rfl) rfl rfl fun a hF => ?_
            refine q_x (v := (.int .i64 (w64 (t_6 + 1)))) hF hS (ex_move rfl) rfl rfl fun a hF => ?_
            refine q_end ?_
            obtain rfl := someI hb5
            exact ⟨rfl, _, _, rfl, hF.sub ⟨rfl, rfl, rfl, rfl, rfl, trivial⟩, hS.mask [false, true, true, true]⟩
          · have hb5 := cond_t hc7 hb5
            refine q_cond_t hF rfl hc7 ?_
            refine q_seq ?_
            refine q_region ?_
            refine q_x (v := (.agg #[(.int .i64 0), (.int .i64 0)])) hF hS (ex_build (cells := [(.int .i64 0), (.int .i64 0)]) rfl (by kernel_rfl)) rfl rfl fun a hF => ?_
            refine q_store (vs := [(.int .i64 0), (.int .i64 0)]) (cs' := [(.int .i64 0), (.int .i64 0)]) 2 0 hF hS sz26 rfl rfl rfl rfl rfl rfl rfl rfl fun a w hF hS => ?_
            refine q_x (v := (.bool false)) hF hS (ex_assign rfl) rfl rfl fun a hF => ?_
            refine q_end (n_sq (q_ret (r_sq (r_ib (r_sq ?_)))))
            obtain rfl := someI hb5
            refine ⟨nofun, .inr fun ho => ?_⟩
            subst ho
            refine r_ib (r_sq ?_)
            obtain rfl := someI hr
            exact ret_of hF hS rfl (.cellA (us := [(.int .i64 0), (.int .i64 0)]) 2 0 Try.underlying26 rfl sz26 rfl rfl rfl rfl (.tmp rfl .nil)) rfl
      · rintro e a w ⟨p_10, rfl, rfl, hF, hS⟩
        refine x_ib (n_sq ?_)
        refine q_seq ?_
        refine q_region ?_
        refine q_x (v := (.agg #[(.int .i64 p_10.Num), (.int .i64 p_10.Den)])) hF hS (ex_loadA (vs := [(.int .i64 p_10.Num), (.int .i64 p_10.Den)]) 0 0 Try.underlying26 rfl sz26 rfl rfl rfl rfl) rfl rfl fun a hF => ?_
        refine q_store (vs := [(.int .i64 p_10.Num), (.int .i64 p_10.Den)]) (cs' := [(.int .i64 p_10.Num), (.int .i64 p_10.Den)]) 1 0 hF hS sz26 rfl rfl rfl rfl rfl rfl rfl rfl fun a w hF hS => ?_
        refine q_x (v := (.bool true)) hF hS (ex_assign rfl) rfl rfl fun a hF => ?_
        refine q_end (n_sq (q_ret ?_))
        obtain rfl := someI hr
        exact ret_of hF hS rfl (.cellA (us := [(.int .i64 p_10.Num), (.int .i64 p_10.Den)]) 1 0 Try.underlying26 rfl sz26 rfl rfl rfl rfl (.tmp rfl .nil)) rfl
    · have hr := cond_t hc4 hr
      refine q_cond_t hF rfl hc4 ?_
      refine q_seq ?_
      refine q_region ?_
      refine q_x (v := (.agg #[(.int .i64 0), (.int .i64 0)])) hF hS (ex_build (cells := [(.int .i64 0), (.int .i64 0)]) rfl (by kernel_rfl)) rfl rfl fun a hF => ?_
      refine q_store (vs := [(.int .i64 0), (.int .i64 0)]) (cs' := [(.int .i64 0), (.int .i64 0)]) 0 0 hF hS sz26 rfl rfl rfl rfl rfl rfl rfl rfl fun a w hF hS => ?_
      refine q_x (v := (.bool false)) hF hS (ex_assign rfl) rfl rfl fun a hF => ?_
      refine q_end (n_sq (q_ret (r_sq ?_)))
      obtain rfl := someI hr
      exact ret_of hF hS rfl (.cellA (us := [(.int .i64 0), (.int .i64 0)]) 0 0 Try.underlying26 rfl sz26 rfl rfl rfl rfl (.tmp rfl .nil)) rfl

theorem c_impl_AddFrac (p_a : impl_Frac) (p_b : impl_Frac) (r : impl_Frac × Bool) (hr : impl_AddFrac p_a p_b = some r) (w0 : World) (m : Mem) (hv : Vis m w0) :
    Ret Try.prog 122 [(.agg #[(.int .i64 p_a.Num), (.int .i64 p_a.Den)]), (.agg #[(.int .i64 p_b.Num), (.int .i64 p_b.Den)])] w0 (fun v _ => v = (.tuple #[(.agg #[(.int .i64 r.1.Num), (.int .i64 r.1.Den)]), (.bool r.2)])) := by
  unfold impl_AddFrac at hr
  refine ret_start Try.func122 rfl 34 rfl rfl m hv fun a hF hS => ?_
  refine q_seq ?_
  refine q_region ?_
  refine q_box (cs := [(.int .i64 p_a.Num), (.int .i64 p_a.Den)]) hF hS rfl rfl rfl fun a w b1 hF hS => ?_
  refine q_box (cs := [(.int .i64 p_b.Num), (.int .i64 p_b.Den)]) hF hS rfl rfl rfl fun a w b2 hF hS => ?_
  refine q_alloc (cs := [(.int .i64 0), (.int .i64 0)]) hF hS rfl rfl rfl fun a w b3 hF hS => ?_
  refine q_x (v := (.bool false)) hF hS (ex_assign rfl) rfl rfl fun a hF => ?_
  refine q_end (n_sq ?_)
  refine q_seq ?_
  refine q_seq ?_
  obtain ⟨t_6, hj1, hr⟩ := bindS hr
  refine q_join (fun a w => Fr a 34 [(2, (.pointer (some ⟨b1, 0, none⟩))), (3, (.pointer (some ⟨b2, 0, none⟩))), (4, (.pointer (some ⟨b3, 0, none⟩))), (13, (.bool t_6))] ∧ St [] w0 w m [[⟨b3, [(.int .i64 0), (.int .i64 0)], 26⟩], [⟨b2, [(.int .i64 p_b.Num), (.int .i64 p_b.Den)], 26⟩], [⟨b1, [(.int .i64 p_a.Num), (.int .i64 p_a.Den)], 26⟩]]) ?_ ?_
  · refine q_region ?_
    refine q_x (v := (.agg #[(.int .i64 p_a.Num), (.int .i64 p_a.Den)])) hF hS (ex_loadA (vs := [(.int .i64 p_a.Num), (.int .i64 p_a.Den)]) 2 0 Try.underlying26 rfl sz26 rfl rfl rfl rfl) rfl rfl fun a hF => ?_
    obtain ⟨t_4, ht_4, hj1⟩ := bindS hj1
    refine q_call (vs := [(.agg #[(.int .i64 p_a.Num), (.int .i64 p_a.Den)])]) hF hS Try.func99 (by kernel_rfl) rfl rfl rfl (c_impl_IsFrac p_a t_4 ht_4 _ m hS.vis) ?_
    rintro a w _ rfl hF hS
    refine q_x (v := (.bool (!t_4))) hF hS (ex_not rfl) rfl rfl fun a hF => ?_
    refine q_x (v := (.bool (!t_4))) hF hS (ex_move rfl) rfl rfl fun a hF => ?_
    rcases hc2 : (!t_4) with _ | _
    · have hj1 := cond_f hc2 hj1
      refine q_xg (v := (.agg #[(.int .i64 p_b.Num), (.int .i64 p_b.Den)])) hF hS (ex_loadA (vs := [(.int .i64 p_b.Num), (.int .i64 p_b.Den)]) 1 0 Try.underlying26 rfl sz26 rfl rfl rfl rfl) (wanted_t hF rfl rfl rfl hc2) rfl fun a hF => ?_
      obtain ⟨t_5, ht_5, hj1⟩ := bindS hj1
      refine q_callg (vs := [(.agg #[(.int .i64 p_b.Num), (.int .i64 p_b.Den)])]) hF hS (wanted_t hF rfl rfl rfl hc2) Try.func99 (by kernel_rfl) rfl rfl rfl (c_impl_IsFrac p_b t_5 ht_5 _ m hS.vis) ?_
      rintro a w _ rfl hF hS
      refine q_xg (v := (.bool (!t_5))) hF hS (ex_not rfl) (wanted_t hF rfl rfl rfl hc2) rfl fun a hF => ?_
      refine q_x (v := (.bool (!t_5))) hF hS (ex_pick_f rfl rfl hc2) rfl rfl fun a hF => ?_
      refine q_end (n_jn ?_)
      obtain rfl := someI hj1
      exact ⟨hF.sub ⟨rfl, rfl, rfl, rfl, trivial⟩, hS⟩
    · have hj1 := cond_t hc2 hj1
      refine q_skip hF (wanted_f hF rfl rfl rfl hc2 rfl) rfl fun a hF => ?_
      refine q_skip hF (wanted_f hF rfl rfl rfl hc2 rfl) rfl fun a hF => ?_
      refine q_skip hF (wanted_f hF rfl rfl rfl hc2 rfl) rfl fun a hF => ?_
      refine q_x (v := (.bool true)) hF hS (ex_pick_t rfl rfl hc2) rfl rfl fun a hF => ?_
      refine q_end (n_jn ?_)
      obtain rfl := someI hj1
      exact ⟨hF.sub ⟨rfl, rfl, rfl, rfl, trivial⟩, hS⟩
  · rintro a w ⟨hF, hS⟩
    refine n_sq ?_
    rcases hc3 : (t_6) with _ | _
    · have hr := cond_f hc3 hr
      refine q_cond_f hF rfl hc3 ?_
      refine q_skipc (n_sq ?_)
      refine q_seq ?_
      refine q_region ?_
      refine q_x (v := (.pointer (some ⟨b1, 0, none⟩))) hF hS (ex_fieldAddr Try.underlying26 rfl sz3 rfl rfl) rfl rfl fun a hF => ?_
      refine q_x (v := (.int .i64 p_a.Num)) hF hS (ex_load1 2 0 Try.underlying3 rfl rfl rfl rfl) rfl rfl fun a hF => ?_
      refine q_x (v := (.pointer (some ⟨b2, 1, none⟩))) hF hS (ex_fieldAddr Try.underlying26 rfl sz3 rfl rfl) rfl rfl fun a hF => ?_
      refine q_x (v := (.int .i64 p_b.Den)) hF hS (ex_load1 1 0 Try.underlying3 rfl rfl rfl rfl) rfl rfl fun a hF => ?_
      refine q_x (v := (.int .i64 (w64 (p_a.Num * p_b.Den)))) hF hS (ex_ibin rfl rfl rfl) rfl rfl fun a hF => ?_
      refine q_x (v := (.pointer (some ⟨b2, 0, none⟩))) hF hS (ex_fieldAddr Try.underlying26 rfl sz3 rfl rfl) rfl rfl fun a hF => ?_
      refine q_x (v := (.int .i64 p_b.Num)) hF hS (ex_load1 1 0 Try.underlying3 rfl rfl rfl rfl) rfl rfl fun a hF => ?_
      refine q_x (v := (.pointer (some ⟨b1, 1, none⟩))) hF hS (ex_fieldAddr Try.underlying26 rfl sz3 rfl rfl) rfl rfl fun a hF => ?_
      refine q_x (v := (.int .i64 p_a.Den)) hF hS (ex_load1 2 0 Try.underlying3 rfl rfl rfl rfl) rfl rfl fun a hF => ?_
      refine q_x (v := (.int .i64 (w64 (p_b.Num * p_a.Den)))) hF hS (ex_ibin rfl rfl rfl) rfl rfl fun a hF => ?_
      refine q_x (v := (.int .i64 (w64 ((w64 (p_a.Num * p_b.Den)) + (w64 (p_b.Num * p_a.Den)))))) hF hS (ex_ibin rfl rfl rfl) rfl rfl fun a hF => ?_
      refine q_x (v := (.pointer (some ⟨b1, 1, none⟩))) hF hS (ex_fieldAddr Try.underlying26 rfl sz3 rfl rfl) rfl rfl fun a hF => ?_
      refine q_x (v := (.int .i64 p_a.Den)) hF hS (ex_load1 2 0 Try.underlying3 rfl rfl rfl rfl) rfl rfl fun a hF => ?_
      refine q_x (v := (.pointer (some ⟨b2, 1, none⟩))) hF hS (ex_fieldAddr Try.underlying26 rfl sz3 rfl rfl) rfl rfl fun a hF => ?_
      refine q_x (v := (.int .i64 p_b.Den)) hF hS (ex_load1 1 0 Try.underlying3 rfl rfl rfl rfl) rfl rfl fun a hF => ?_
      refine q_x (v := (.int .i64 (w64 (p_a.Den * p_b.Den)))) hF hS (ex_ibin rfl rfl rfl) rfl rfl fun a hF => ?_
      obtain ⟨t_7, ht_7, hr⟩ := bindS hr
      refine q_call (vs := [(.int .i64 (w64 ((w64 (p_a.Num * p_b.Den)) + (w64 (p_b.Num * p_a.Den))))), (.int .i64 (w64 (p_a.Den * p_b.Den)))]) hF hS Try.func106 (by kernel_rfl) rfl rfl rfl (c_impl_reduced (w64 ((w64 (p_a.Num * p_b.Den)) + (w64 (p_b.Num * p_a.Den)))) (w64 (p_a.Den * p_b.Den)) t_7 ht_7 _ m hS.vis) ?_
      rintro a w _ rfl hF hS
      refine q_x (v := (.agg #[(.int .i64 t_7.1.Num), (.int .i64 t_7.1.Den)])) hF hS (ex_extract rfl rfl) rfl rfl fun a hF => ?_
      refine q_x (v := (.bool t_7.2)) hF hS (ex_extract rfl rfl) rfl rfl fun a hF => ?_
      refine q_store (vs := [(.int .i64 t_7.1.Num), (.int .i64 t_7.1.Den)]) (cs' := [(.int .i64 t_7.1.Num), (.int .i64 t_7.1.Den)]) 0 0 hF hS sz26 rfl rfl rfl rfl rfl rfl rfl rfl fun a w hF hS => ?_
      refine q_x (v := (.bool t_7.2)) hF hS (ex_assign rfl) rfl rfl fun a hF => ?_
      refine q_end (n_sq (q_ret ?_))
      obtain rfl := someI hr
      exact ret_of hF hS rfl (.cellA (us := [(.int .i64 t_7.1.Num), (.int .i64 t_7.1.Den)]) 0 0 Try.underlying26 rfl sz26 rfl rfl rfl rfl (.tmp rfl .nil)) rfl
    · have hr := cond_t hc3 hr
      refine q_cond_t hF rfl hc3 ?_
      refine q_seq ?_
      refine q_region ?_
      refine q_x (v := (.agg #[(.int .i64 0), (.int .i64 0)])) hF hS (ex_build (cells := [(.int .i64 0), (.int .i64 0)]) rfl (by kernel_rfl)) rfl rfl fun a hF => ?_
      refine q_store (vs := [(.int .i64 0), (.int .i64 0)]) (cs' := [(.int .i64 0), (.int .i64 0)]) 0 0 hF hS sz26 rfl rfl rfl rfl rfl rfl rfl rfl fun a w hF hS => ?_
      refine q_x (v := (.bool false)) hF hS (ex_assign rfl) rfl rfl fun a hF => ?_
      refine q_end (n_sq (q_ret (r_sq ?_)))
      obtain rfl := someI hr
      exact ret_of hF hS rfl (.cellA (us := [(.int .i64 0), (.int .i64 0)]) 0 0 Try.underlying26 rfl sz26 rfl rfl rfl rfl (.tmp rfl .nil)) rfl

theorem c_impl_moreOne (p_a : impl_Frac) (r : impl_Frac × Bool) (hr : impl_moreOne p_a = some r) (w0 : World) (m : Mem) (hv : Vis m w0) :
    Ret Try.prog 136 [(.agg #[(.int .i64 p_a.Num), (.int .i64 p_a.Den)])] w0 (fun v _ => v = (.tuple #[(.agg #[(.int .i64 r.1.Num), (.int .i64 r.1.Den)]), (.bool r.2)])) := by
  unfold impl_moreOne at hr
  refine ret_start Try.func136 rfl 9 rfl rfl m hv fun a hF hS => ?_
  refine q_seq ?_
  refine q_region ?_
  refine q_box (cs := [(.int .i64 p_a.Num), (.int .i64 p_a.Den)]) hF hS rfl rfl rfl fun a w b1 hF hS => ?_
  refine q_alloc (cs := [(.int .i64 0), (.int .i64 0)]) hF hS rfl rfl rfl fun a w b2 hF hS => ?_
  refine q_x (v := (.bool false)) hF hS (ex_assign rfl) rfl rfl fun a hF => ?_
  refine q_end (n_sq ?_)
  refine q_seq ?_
  refine q_region ?_
  refine q_x (v := (.agg #[(.int .i64 1), (.int .i64 1)])) hF hS (ex_build (cells := [(.int .i64 1), (.int .i64 1)]) rfl (by kernel_rfl)) rfl rfl fun a hF => ?_
  refine q_x (v := (.agg #[(.int .i64 p_a.Num), (.int .i64 p_a.Den)])) hF hS (ex_loadA (vs := [(.int .i64 p_a.Num), (.int .i64 p_a.Den)]) 1 0 Try.underlying26 rfl sz26 rfl rfl rfl rfl) rfl rfl fun a hF => ?_
  obtain ⟨t_3, ht_3, hr⟩ := bindS hr
  refine q_call (vs := [(.agg #[(.int .i64 1), (.int .i64 1)]), (.agg #[(.int .i64 p_a.Num), (.int .i64 p_a.Den)])]) hF hS Try.func122 (by kernel_rfl) rfl rfl rfl (c_impl_AddFrac (impl_Frac.mk 1 1) p_a t_3 ht_3 _ m hS.vis) ?_
  rintro a w _ rfl hF hS
  refine q_x (v := (.agg #[(.int .i64 t_3.1.Num), (.int .i64 t_3.1.Den)])) hF hS (ex_extract rfl rfl) rfl rfl fun a hF => ?_
  refine q_x (v := (.bool t_3.2)) hF hS (ex_extract rfl rfl) rfl rfl fun a hF => ?_
  refine q_store (vs := [(.int .i64 t_3.1.Num), (.int .i64 t_3.1.Den)]) (cs' := [(.int .i64 t_3.1.Num), (.int .i64 t_3.1.Den)]) 0 0 hF hS sz26 rfl rfl rfl rfl rfl rfl rfl rfl fun a w hF hS => ?_
  refine q_x (v := (.bool t_3.2)) hF hS (ex_assign rfl) rfl rfl fun a hF => ?_
  refine q_end (n_sq (q_ret ?_))
  obtain rfl := someI hr
  exact ret_of hF hS rfl (.cellA (us := [(.int .i64 t_3.1.Num), (.int .i64 t_3.1.Den)]) 0 0 Try.underlying26 rfl sz26 rfl rfl rfl rfl (.tmp rfl .nil)) rfl

theorem c_impl_DivFrac (p_a : impl_Frac) (p_b : impl_Frac) (r : impl_Frac × Bool) (hr : impl_DivFrac p_a p_b = some r) (w0 : World) (m : Mem) (hv : Vis m w0) :
    Ret Try.prog 75 [(.agg #[(.int .i64 p_a.Num), (.int .i64 p_a.Den)]), (.agg #[(.int .i64 p_b.Num), (.int .i64 p_b.Den)])] w0 (fun v _ => v = (.tuple #[(.agg #[(.int .i64 r.1.Num), (.int .i64 r.1.Den)]), (.bool r.2)])) := by
  unfold impl_DivFrac at hr
  refine ret_start Try.func75 rfl 33 rfl rfl m hv fun a hF hS => ?_
  refine q_seq ?_
  refine q_region ?_
  refine q_box (cs := [(.int .i64 p_a.Num), (.int .i64 p_a.Den)]) hF hS rfl rfl rfl fun a w b1 hF hS => ?_
  refine q_box (cs := [(.int .i64 p_b.Num), (.int .i64 p_b.Den)]) hF hS rfl rfl rfl fun a w b2 hF hS => ?_
  refine q_alloc (cs := [(.int .i64 0), (.int .i64 0)]) hF hS rfl rfl rfl fun a w b3 hF hS => ?_
  refine q_x (v := (.bool false)) hF hS (ex_assign rfl) rfl rfl fun a hF => ?_
  refine q_end (n_sq ?_)
  refine q_seq ?_
  refine q_seq ?_
  obtain ⟨t_6, hj1, hr⟩ := bindS hr
  refine q_join (fun a w => Fr a 33 [(2, (.pointer (some ⟨b1, 0, none⟩))), (3, (.pointer (some ⟨b2, 0, none⟩))), (4, (.pointer (some ⟨b3, 0, none⟩))), (18, (.bool t_6))] ∧ St [] w0 w m [[⟨b3, [(.int .i64 0), (.int .i64 0)], 26⟩], [⟨b2, [(.int .i64 p_b.Num), (.int .i64 p_b.Den)], 26⟩], [⟨b1, [(.int .i64 p_a.Num), (.int .i64 p_a.Den)], 26⟩]]) ?_ ?_
  · refine q_region ?_
    refine q_x (v := (.agg #[(.int .i64 p_a.Num), (.int .i64 p_a.Den)])) hF hS (ex_loadA (vs := [(.int .i64 p_a.Num), (.int .i64 p_a.Den)]) 2 0 Try.underlying26 rfl sz26 rfl rfl rfl rfl) rfl rfl fun a hF => ?_
    obtain ⟨t_4, ht_4, hj1⟩ := bindS hj1
    refine q_call (vs := [(.agg #[(.int .i64 p_a.Num), (.int .i64 p_a.Den)])]) hF hS Try.func99 (by kernel_rfl) rfl rfl rfl (c_impl_IsFrac p_a t_4 ht_4 _ m hS.vis) ?_
    rintro a w _ rfl hF hS
    refine q_x (v := (.bool (!t_4))) hF hS (ex_not rfl) rfl rfl fun a hF => ?_
    refine q_x (v := (.bool (!t_4))) hF hS (ex_move rfl) rfl rfl fun a hF => ?_
    rcases hc2 : (!t_4) with _ | _
    · have hj1 := cond_f hc2 hj1
      refine q_xg (v := (.agg #[(.int .i64 p_b.Num), (.int .i64 p_b.Den)])) hF hS (ex_loadA (vs := [(.int .i64 p_b.Num), (.int .i64 p_b.Den)]) 1 0 Try.underlying26 rfl sz26 rfl rfl rfl rfl) (wanted_t hF rfl rfl rfl hc2) rfl fun a hF => ?_
      obtain ⟨t_5, ht_5, hj1⟩ := bindS hj1
      refine q_callg (vs := [(.agg #[(.int .i64 p_b.Num), (.int .i64 p_b.Den)])]) hF hS (wanted_t hF rfl rfl rfl hc2) Try.func99 (by kernel_rfl) rfl rfl rfl (c_impl_IsFrac p_b t_5 ht_5 _ m hS.vis) ?_
      rintro a w _ rfl hF hS
      refine q_xg (v := (.bool (!t_5))) hF hS (ex_not rfl) (wanted_t hF rfl rfl rfl hc2) rfl fun a hF => ?_
      refine q_x (v := (.bool (!t_5))) hF hS (ex_pick_f rfl rfl hc2) rfl rfl fun a hF => ?_
      refine q_x (v := (.bool (!t_5))) hF hS (ex_move rfl) rfl rfl fun a hF => ?_
      rcases hc3 : (!t_5) with _ | _
      · have hj1 := cond_f hc3 hj1
        refine q_xg (v := (.pointer (some ⟨b2, 0, none⟩))) hF hS (ex_fieldAddr Try.underlying26 rfl sz3 rfl rfl) (wanted_t hF rfl rfl rfl hc3) rfl fun a hF => ?_
        refine q_xg (v := (.int .i64 p_b.Num)) hF hS (ex_load1 1 0 Try.underlying3 rfl rfl rfl rfl) (wanted_t hF rfl rfl rfl hc3) rfl fun a hF => ?_
        refine q_xg (v := (.bool (p_b.Num == 0))) hF hS (ex_ibin rfl rfl rfl) (wanted_t hF rfl rfl rfl hc3) rfl fun a hF => ?_
        refine q_x (v := (.bool (p_b.Num == 0))) hF hS (ex_pick_f rfl rfl hc3) rfl rfl fun a hF => ?_
        refine q_end (n_jn ?_)
        obtain rfl := someI hj1
        exact ⟨hF.sub ⟨rfl, rfl, rfl, rfl, trivial⟩, hS⟩
      · have hj1 := cond_t hc3 hj1
        refine q_skip hF (wanted_f hF rfl rfl rfl hc3 rfl) rfl fun a hF => ?_
        refine q_skip hF (wanted_f hF rfl rfl rfl hc3 rfl) rfl fun a hF => ?_
        refine q_skip hF (wanted_f hF rfl rfl rfl hc3 rfl) rfl fun a hF => ?_
        refine q_x (v := (.bool true)) hF hS (ex_pick_t rfl rfl hc3) rfl rfl fun a hF => ?_
        refine q_end (n_jn ?_)
        obtain rfl := someI hj1
        exact ⟨hF.sub ⟨rfl, rfl, rfl, rfl, trivial⟩, hS⟩
    · have hj1 := cond_t hc2 hj1
      refine q_skip hF (wanted_f hF rfl rfl rfl hc2 rfl) rfl fun a hF => ?_
      refine q_skip hF (wanted_f hF rfl rfl rfl hc2 rfl) rfl fun a hF => ?_
      refine q_skip hF (wanted_f hF rfl rfl rfl hc2 rfl) rfl fun a hF => ?_
      refine q_x (v := (.bool true)) hF hS (ex_pick_t rfl rfl hc2) rfl rfl fun a hF => ?_
      refine q_x (v := (.bool true)) hF hS (ex_move rfl) rfl rfl fun a hF => ?_
      refine q_skip hF (wanted_f hF rfl rfl rfl rfl rfl) rfl fun a hF => ?_
      refine q_skip hF (wanted_f hF rfl rfl rfl rfl rfl) rfl fun a hF => ?_
      refine q_skip hF (wanted_f hF rfl rfl rfl rfl rfl) rfl fun a hF => ?_
      refine q_x (v := (.bool true)) hF hS (ex_pick_t rfl rfl rfl) rfl rfl fun a hF => ?_
      refine q_end (n_jn ?_)
      obtain rfl := someI hj1
      exact ⟨hF.sub ⟨rfl, rfl, rfl, rfl, trivial⟩, hS⟩
  · rintro a w ⟨hF, hS⟩
    refine n_sq ?_
    rcases hc4 : (t_6) with _ | _
    · have hr := cond_f hc4 hr
      refine q_cond_f hF rfl hc4 ?_
      refine q_skipc (n_sq ?_)
      refine q_seq ?_
      refine q_region ?_
      refine q_x (v := (.pointer (some ⟨b1, 0, none⟩))) hF hS (ex_fieldAddr Try.underlying26 rfl sz3 rfl rfl) rfl rfl fun a hF => ?_
      refine q_x (v := (.int .i64 p_a.Num)) hF hS (ex_load1 2 0 Try.underlying3 rfl rfl rfl rfl) rfl rfl fun a hF => ?_
      refine q_x (v := (.pointer (some ⟨b2, 1, none⟩))) hF hS (ex_fieldAddr Try.underlying26 rfl sz3 rfl rfl) rfl rfl fun a hF => ?_
      refine q_x (v := (.int .i64 p_b.Den)) hF hS (ex_load1 1 0 Try.underlying3 rfl rfl rfl rfl) rfl rfl fun a hF => ?_
      refine q_x (v := (.int .i64 (w64 (p_a.Num * p_b.Den)))) hF hS (ex_ibin rfl rfl rfl) rfl rfl fun a hF => ?_
      refine q_x (v := (.pointer (some ⟨b1, 1, none⟩))) hF hS (ex_fieldAddr Try.underlying26 rfl sz3 rfl rfl) rfl rfl fun a hF => ?_
      refine q_x (v := (.int .i64 p_a.Den)) hF hS (ex_load1 2 0 Try.underlying3 rfl rfl rfl rfl) rfl rfl fun a hF => ?_
      refine q_x (v := (.pointer (some ⟨b2, 0, none⟩))) hF hS (ex_fieldAddr Try.underlying26 rfl sz3 rfl rfl) rfl rfl fun a hF => ?_
      refine q_x (v := (.int .i64 p_b.Num)) hF hS (ex_load1 1 0 Try.underlying3 rfl rfl rfl rfl) rfl rfl fun a hF => ?_
      refine q_x (v := (.int .i64 (w64 (p_a.Den * p_b.Num)))) hF hS (ex_ibin rfl rfl rfl) rfl rfl fun a hF => ?_
      obtain ⟨t_7, ht_7, hr⟩ := bindS hr
      refine q_call (vs := [(.int .i64 (w64 (p_a.Num * p_b.Den))), (.int .i64 (w64 (p_a.Den * p_b.Num)))]) hF hS Try.func106 (by kernel_rfl) rfl rfl rfl (c_impl_reduced (w64 (p_a.Num * p_b.Den)) (w64 (p_a.Den * p_b.Num)) t_7 ht_7 _ m hS.vis) ?_
      rintro a w _ rfl hF hS
      refine q_x (v := (.agg #[(.int .i64 t_7.1.Num), (.int .i64 t_7.1.Den)])) hF hS (ex_extract rfl rfl) rfl rfl fun a hF => ?_
      refine q_x (v := (.bool t_7.2)) hF hS (ex_extract rfl rfl) rfl rfl fun a hF => ?_
      refine q_store (vs := [(.int .i64 t_7.1.Num), (.int .i64 t_7.1.Den)]) (cs' := [(.int .i64 t_7.1.Num), (.int .i64 t_7.1.Den)]) 0 0 hF hS sz26 rfl rfl rfl rfl rfl rfl rfl rfl fun a w hF hS => ?_
      refine q_x (v := (.bool t_7.2)) hF hS (ex_assign rfl) rfl rfl fun a hF => ?_
      refine q_end (n_sq (q_ret ?_))
      obtain rfl := someI hr
      exact ret_of hF hS rfl (.cellA (us := [(.int .i64 t_7.1.Num), (.int .i64 t_7.1.Den)]) 0 0 Try.underlying26 rfl sz26 rfl rfl rfl rfl (.tmp rfl .nil)) rfl
    · have hr := cond_t hc4 hr
      refine q_cond_t hF rfl hc4 ?_
      refine q_seq ?_
      refine q_region ?_
      refine q_x (v := (.agg #[(.int .i64 0), (.int .i64 0)])) hF hS (ex_build (cells := [(.int .i64 0), (.int .i64 0)]) rfl (by kernel_rfl)) rfl rfl fun a hF => ?_
      refine q_store (vs := [(.int .i64 0), (.int .i64 0)]) (cs' := [(.int .i64 0), (.int .i64 0)]) 0 0 hF hS sz26 rfl rfl rfl rfl rfl rfl rfl rfl fun a w hF hS => ?_
      refine q_x (v := (.bool false)) hF hS (ex_assign rfl) rfl rfl fun a hF => ?_
      refine q_end (n_sq (q_ret (r_sq ?_)))
      obtain rfl := someI hr
      exact ret_of hF hS rfl (.cellA (us := [(.int .i64 0), (.int .i64 0)]) 0 0 Try.underlying26 rfl sz26 rfl rfl rfl rfl (.tmp rfl .nil)) rfl

theorem c_impl_geoTail (p_a : impl_Frac) (p_k : Int) (r : impl_Frac × Bool) (hr : impl_geoTail p_a p_k = some r) (w0 : World) (m : Mem) (hv : Vis m w0) :
    Ret Try.prog 100 [(.agg #[(.int .i64 p_a.Num), (.int .i64 p_a.Den)]), (.int .i64 p_k)] w0 (fun v _ => v = (.tuple #[(.agg #[(.int .i64 r.1.Num), (.int .i64 r.1.Den)]), (.bool r.2)])) := by
  unfold impl_geoTail at hr
  refine ret_start Try.func100 rfl 31 rfl rfl m hv fun a hF hS => ?_
  refine q_seq ?_
  refine q_region ?_
  refine q_box (cs := [(.int .i64 p_a.Num), (.int .i64 p_a.Den)]) hF hS rfl rfl rfl fun a w b1 hF hS => ?_
  refine q_alloc (cs := [(.int .i64 0), (.int .i64 0)]) hF hS rfl rfl rfl fun a w b2 hF hS => ?_
  refine q_x (v := (.bool false)) hF hS (ex_assign rfl) rfl rfl fun a hF => ?_
  refine q_end (n_sq ?_)
  refine q_seq ?_
  refine q_region ?_
  refine q_x (v := (.agg #[(.int .i64 p_a.Num), (.int .i64 p_a.Den)])) hF hS (ex_loadA (vs := [(.int .i64 p_a.Num), (.int .i64 p_a.Den)]) 1 0 Try.underlying26 rfl sz26 rfl rfl rfl rfl) rfl rfl fun a hF => ?_
  refine q_x (v := (.int .i64 p_k)) hF hS (ex_move rfl) rfl rfl fun a hF => ?_
  obtain ⟨t_3, ht_3, hr⟩ := bindS hr
  refine q_call (vs := [(.agg #[(.int .i64 p_a.Num), (.int .i64 p_a.Den)]), (.int .i64 p_k)]) hF hS Try.func113 (by kernel_rfl) rfl rfl rfl (c_impl_PowFrac p_a p_k t_3 ht_3 _ m hS.vis) ?_
  rintro a w _ rfl hF hS
  refine q_x (v := (.tuple #[(.agg #[(.int .i64 t_3.1.Num), (.int .i64 t_3.1.Den)]), (.bool t_3.2)])) hF hS (ex_move rfl) rfl rfl fun a hF => ?_
  refine q_x (v := (.agg #[(.int .i64 t_3.1.Num), (.int .i64 t_3.1.Den)])) hF hS (ex_extract rfl rfl) rfl rfl fun a hF => ?_
  refine q_x (v := (.bool t_3.2)) hF hS (ex_extract rfl rfl) rfl rfl fun a hF => ?_
  refine q_alloc (cs := [(.int .i64 0), (.int .i64 0)]) hF hS rfl rfl rfl fun a w b4 hF hS => ?_
  refine q_store (vs := [(.int .i64 t_3.1.Num), (.int .i64 t_3.1.Den)]) (cs' := [(.int .i64 t_3.1.Num), (.int .i64 t_3.1.Den)]) 0 0 hF hS sz26 rfl rfl rfl rfl rfl rfl rfl rfl fun a w hF hS => ?_
  refine q_x (v := (.bool t_3.2)) hF hS (ex_assign rfl) rfl rfl fun a hF => ?_
  refine q_end (n_sq ?_)
  refine q_seq ?_
  refine q_seq ?_
  refine q_region ?_
  refine q_x (v := (.bool t_3.2)) hF hS (ex_move rfl) rfl rfl fun a hF => ?_
  refine q_x (v := (.bool (!t_3.2))) hF hS (ex_not rfl) rfl rfl fun a hF => ?_
  refine q_end (n_sq ?_)
  rcases hc1 : (!t_3.2) with _ | _
  · have hr := cond_f hc1 hr
    refine q_cond_f hF rfl hc1 ?_
    refine q_skipc (n_sq ?_)
    refine q_seq ?_
    refine q_region ?_
    refine q_x (v := (.agg #[(.int .i64 p_a.Num), (.int .i64 p_a.Den)])) hF hS (ex_loadA (vs := [(.int .i64 p_a.Num), (.int .i64 p_a.Den)]) 2 0 Try.underlying26 rfl sz26 rfl rfl rfl rfl) rfl rfl fun a hF => ?_
    obtain ⟨t_5, ht_5, hr⟩ := bindS hr
    refine q_call (vs := [(.agg #[(.int .i64 p_a.Num), (.int .i64 p_a.Den)])]) hF hS Try.func136 (by kernel_rfl) rfl rfl rfl (c_impl_moreOne p_a t_5 ht_5 _ m hS.vis) ?_
    rintro a w _ rfl hF hS
    refine q_x (v := (.tuple #[(.agg #[(.int .i64 t_5.1.Num), (.int .i64 t_5.1.Den)]), (.bool t_5.2)])) hF hS (ex_move rfl) rfl rfl fun a hF => ?_
    refine q_x (v := (.agg #[(.int .i64 t_5.1.Num), (.int .i64 t_5.1.Den)])) hF hS (ex_extract rfl rfl) rfl rfl fun a hF => ?_
    refine q_x (v := (.bool t_5.2)) hF hS (ex_extract rfl rfl) rfl rfl fun a hF => ?_
    refine q_alloc (cs := [(.int .i64 0), (.int .i64 0)]) hF hS rfl rfl rfl fun a w b6 hF hS => ?_
    refine q_store (vs := [(.int .i64 t_5.1.Num), (.int .i64 t_5.1.Den)]) (cs' := [(.int .i64 t_5.1.Num), (.int .i64 t_5.1.Den)]) 0 0 hF hS sz26 rfl rfl rfl rfl rfl rfl rfl rfl fun a w hF hS => ?_
    refine q_x (v := (.bool t_5.2)) hF hS (ex_assign rfl) rfl rfl fun a hF => ?_
    refine q_end (n_sq ?_)
    refine q_seq ?_
    refine q_seq ?_
    refine q_region ?_
    refine q_x (v := (.bool t_5.2)) hF hS (ex_move rfl) rfl rfl fun a hF => ?_
    refine q_x (v := (.bool (!t_5.2))) hF hS (ex_not rfl) rfl rfl fun a hF => ?_
    refine q_end (n_sq ?_)
    rcases hc2 : (!t_5.2) with _ | _
    · have hr := cond_f hc2 hr
      refine q_cond_f hF rfl hc2 ?_
      refine q_skipc (n_sq ?_)
      refine q_seq ?_
      refine q_region ?_
      refine q_x (v := (.agg #[(.int .i64 t_3.1.Num), (.int .i64 t_3.1.Den)])) hF hS (ex_loadA (vs := [(.int .i64 t_3.1.Num), (.int .i64 t_3.1.Den)]) 1 0 Try.underlying26 rfl sz26 rfl rfl rfl rfl) rfl rfl fun a hF => ?_
      refine q_x (v := (.agg #[(.int .i64 t_5.1.Num), (.int .i64 t_5.1.Den)])) hF hS (ex_loadA (vs := [(.int .i64 t_5.1.Num), (.int .i64 t_5.1.Den)]) 0 0 Try.underlying26 rfl sz26 rfl rfl rfl rfl) rfl rfl fun a hF => ?_
      obtain ⟨t_7, ht_7, hr⟩ := bindS hr
      refine q_call (vs := [(.agg #[(.int .i64 t_3.1.Num), (.int .i64 t_3.1.Den)]), (.agg #[(.int .i64 t_5.1.Num), (.int .i64 t_5.1.Den)])]) hF hS Try.func75 (by kernel_rfl) rfl rfl rfl (c_impl_DivFrac t_3.1 t_5.1 t_7 ht_7 _ m hS.vis) ?_
      rintro a w _ rfl hF hS
      refine q_x (v := (.agg #[(.int .i64 t_7.1.Num), (.int .i64 t_7.1.Den)])) hF hS (ex_extract rfl rfl) rfl rfl fun a hF => ?_
      refine q_x (v := (.bool t_7.2)) hF hS (ex_extract rfl rfl) rfl rfl fun a hF => ?_
      refine q_store (vs := [(.int .i64 t_7.1.Num), (.int .i64 t_7.1.Den)]) (cs' := [(.int .i64 t_7.1.Num), (.int .i64 t_7.1.Den)]) 2 0 hF hS sz26 rfl rfl rfl rfl rfl rfl rfl rfl fun a w hF hS => ?_
      refine q_x (v := (.bool t_7.2)) hF hS (ex_assign rfl) rfl rfl fun a hF => ?_
      refine q_end (n_sq (q_ret ?_))
      obtain rfl := someI hr
      exact ret_of hF hS rfl (.cellA (us := [(.int .i64 t_7.1.Num), (.int .i64 t_7.1.Den)]) 2 0 Try.underlying26 rfl sz26 rfl rfl rfl rfl (.tmp rfl .nil)) rfl
    · have hr := cond_t hc2 hr
      refine q_cond_t hF rfl hc2 ?_
      refine q_seq ?_
      refine q_region ?_
      refine q_x (v := (.agg #[(.int .i64 0), (.int .i64 0)])) hF hS (ex_build (cells := [(.int .i64 0), (.int .i64 0)]) rfl (by kernel_rfl)) rfl rfl fun a hF => ?_
      refine q_store (vs := [(.int .i64 0), (.int .i64 0)]) (cs' := [(.int .i64 0), (.int .i64 0)]) 2 0 hF hS sz26 rfl rfl rfl rfl rfl rfl rfl rfl fun a w hF hS => ?_
      refine q_x (v := (.bool false)) hF hS (ex_assign rfl) rfl rfl fun a hF => ?_
      refine q_end (n_sq (q_ret (r_sq ?_)))
      obtain rfl := someI hr
      exact ret_of hF hS rfl (.cellA (us := [(.int .i64 0), (.int .i64 0)]) 2 0 Try.underlying26 rfl sz26 rfl rfl rfl rfl (.tmp rfl .nil)) rfl
  · have hr := cond_t hc1 hr
    refine q_cond_t hF rfl hc1 ?_
    refine q_seq ?_
    refine q_region ?_
    refine q_x (v := (.agg #[(.int .i64 0), (.int .i64 0)])) hF hS (ex_build (cells := [(.int .i64 0), (.int .i64 0)]) rfl (by kernel_rfl)) rfl rfl fun a hF => ?_
    refine q_store (vs := [(.int .i64 0), (.int .i64 0)]) (cs' := [(.int .i64 0), (.int .i64 0)]) 1 0 hF hS sz26 rfl rfl rfl rfl rfl rfl rfl rfl fun a w hF hS => ?_
    refine q_x (v := (.bool false)) hF hS (ex_assign rfl) rfl rfl fun a hF => ?_
    refine q_end (n_sq (q_ret (r_sq ?_)))
    obtain rfl := someI hr
    exact ret_of hF hS rfl (.cellA (us := [(.int .i64 0), (.int .i64 0)]) 1 0 Try.underlying26 rfl sz26 rfl rfl rfl rfl (.tmp rfl .nil)) rfl

theorem c_impl_lessOne (p_a : impl_Frac) (r : impl_Frac) (hr : impl_lessOne p_a = some r) (w0 : World) (m : Mem) (hv : Vis m w0) :
    Ret Try.prog 137 [(.agg #[(.int .i64 p_a.Num), (.int .i64 p_a.Den)])] w0 (fun v _ => v = (.agg #[(.int .i64 r.Num), (.int .i64 r.Den)])) := by
  unfold impl_lessOne at hr
  refine ret_start Try.func137 rfl 11 rfl rfl m hv fun a hF hS => ?_
  refine q_seq ?_
  refine q_region ?_
  refine q_box (cs := [(.int .i64 p_a.Num), (.int .i64 p_a.Den)]) hF hS rfl rfl rfl fun a w b1 hF hS => ?_
  refine q_alloc (cs := [(.int .i64 0), (.int .i64 0)]) hF hS rfl rfl rfl fun a w b2 hF hS => ?_
  refine q_end (n_sq ?_)
  refine q_seq ?_
  refine q_region ?_
  refine q_x (v := (.pointer (some ⟨b1, 1, none⟩))) hF hS (ex_fieldAddr Try.underlying26 rfl sz3 rfl rfl) rfl rfl fun a hF => ?_
  refine q_x (v := (.int .i64 p_a.Den)) hF hS (ex_load1 1 0 Try.underlying3 rfl rfl rfl rfl) rfl rfl fun a hF => ?_
  refine q_x (v := (.pointer (some ⟨b1, 0, none⟩))) hF hS (ex_fieldAddr Try.underlying26 rfl sz3 rfl rfl) rfl rfl fun a hF => ?_
  refine q_x (v := (.int .i64 p_a.Num)) hF hS (ex_load1 1 0 Try.underlying3 rfl rfl rfl rfl) rfl rfl fun a hF => ?_
  refine q_x (v := (.int .i64 (w64 (p_a.Den - p_a.Num)))) hF hS (ex_ibin rfl rfl rfl) rfl rfl fun a hF => ?_
  refine q_x (v := (.pointer (some ⟨b1, 1, none⟩))) hF hS (ex_fieldAddr Try.underlying26 rfl sz3 rfl rfl) rfl rfl fun a hF => ?_
  refine q_x (v := (.int .i64 p_a.Den)) hF hS (ex_load1 1 0 Try.underlying3 rfl rfl rfl rfl) rfl rfl fun a hF => ?_
  refine q_x (v := (.agg #[(.int .i64 (w64 (p_a.Den - p_a.Num))), (.int .i64 p_a.Den)])) hF hS (ex_build (cells := [(.int .i64 (w64 (p_a.Den - p_a.Num))), (.int .i64 p_a.Den)]) rfl (by kernel_rfl)) rfl rfl fun a hF => ?_
  refine q_store (vs := [(.int .i64 (w64 (p_a.Den - p_a.Num))), (.int .i64 p_a.Den)]) (cs' := [(.int .i64 (w64 (p_a.Den - p_a.Num))), (.int .i64 p_a.Den)]) 0 0 hF hS sz26 rfl rfl rfl rfl rfl rfl rfl rfl fun a w hF hS => ?_
  refine q_end (n_sq (q_ret ?_))
  obtain rfl := someI hr
  exact ret_of hF hS rfl (.cellA (us := [(.int .i64 (w64 (p_a.Den - p_a.Num))), (.int .i64 p_a.Den)]) 0 0 Try.underlying26 rfl sz26 rfl rfl rfl rfl .nil) rfl

theorem c_impl_geoMass (p_a : impl_Frac) (p_k : Int) (r : impl_Frac × Bool) (hr : impl_geoMass p_a p_k = some r) (w0 : World) (m : Mem) (hv : Vis m w0) :
    Ret Try.prog 89 [(.agg #[(.int .i64 p_a.Num), (.int .i64 p_a.Den)]), (.int .i64 p_k)] w0 (fun v _ => v = (.tuple #[(.agg #[(.int .i64 r.1.Num), (.int .i64 r.1.Den)]), (.bool r.2)])) := by
  unfold impl_geoMass at hr
  refine ret_start Try.func89 rfl 42 rfl rfl m hv fun a hF hS => ?_
  refine q_seq ?_
  refine q_region ?_
  refine q_box (cs := [(.int .i64 p_a.Num), (.int .i64 p_a.Den)]) hF hS rfl rfl rfl fun a w b1 hF hS => ?_
  refine q_alloc (cs := [(.int .i64 0), (.int .i64 0)]) hF hS rfl rfl rfl fun a w b2 hF hS => ?_
  refine q_x (v := (.bool false)) hF hS (ex_assign rfl) rfl rfl fun a hF => ?_
  refine q_end (n_sq ?_)
  refine q_seq ?_
  refine q_region ?_
  refine q_x (v := (.agg #[(.int .i64 p_a.Num), (.int .i64 p_a.Den)])) hF hS (ex_loadA (vs := [(.int .i64 p_a.Num), (.int .i64 p_a.Den)]) 1 0 Try.underlying26 rfl sz26 rfl rfl rfl rfl) rfl rfl fun a hF => ?_
  obtain ⟨t_3, ht_3, hr⟩ := bindS hr
  refine q_call (vs := [(.agg #[(.int .i64 p_a.Num), (.int .i64 p_a.Den)])]) hF hS Try.func136 (by kernel_rfl) rfl rfl rfl (c_impl_moreOne p_a t_3 ht_3 _ m hS.vis) ?_
  rintro a w _ rfl hF hS
  refine q_x (v := (.tuple #[(.agg #[(.int .i64 t_3.1.Num), (.int .i64 t_3.1.Den)]), (.bool t_3.2)])) hF hS (ex_move rfl) rfl rfl fun a hF => ?_
  refine q_x (v := (.agg #[(.int .i64 t_3.1.Num), (.int .i64 t_3.1.Den)])) hF hS (ex_extract rfl rfl) rfl rfl fun a hF => ?_
  refine q_x (v := (.bool t_3.2)) hF hS (ex_extract rfl rfl) rfl rfl fun a hF => ?_
  refine q_alloc (cs := [(.int .i64 0), (.int .i64 0)]) hF hS rfl rfl rfl fun a w b4 hF hS => ?_
  refine q_store (vs := [(.int .i64 t_3.1.Num), (.int .i64 t_3.1.Den)]) (cs' := [(.int .i64 t_3.1.Num), (.int .i64 t_3.1.Den)]) 0 0 hF hS sz26 rfl rfl rfl rfl rfl rfl rfl rfl fun a w hF hS => ?_
  refine q_x (v := (.bool t_3.2)) hF hS (ex_assign rfl) rfl rfl fun a hF => ?_
  refine q_end (n_sq ?_)
  refine q_seq ?_
  refine q_seq ?_
  refine q_region ?_
  refine q_x (v := (.bool t_3.2)) hF hS (ex_move rfl) rfl rfl fun a hF => ?_
  refine q_x (v := (.bool (!t_3.2))) hF hS (ex_not rfl) rfl rfl fun a hF => ?_
  refine q_end (n_sq ?_)
  rcases hc1 : (!t_3.2) with _ | _
  · have hr := cond_f hc1 hr
    refine q_cond_f hF rfl hc1 ?_
    refine q_skipc (n_sq ?_)
    refine q_seq ?_
    obtain ⟨j2, hj2, hr⟩ := bindS hr
    refine q_join (fun a w => ∃ b9, ∃ ok_10, ∃ c_11, j2 = (ok_10, c_11) ∧ Fr a 42 [(1, (.int .i64 p_k)), (2, (.pointer (some ⟨b1, 0, none⟩))), (4, (.pointer (some ⟨b2, 0, none⟩))), (7, (.bool ok_10)), (8, (.pointer (some ⟨b9, 0, none⟩)))] ∧ St [] w0 w m [[⟨b9, [(.int .i64 c_11.Num), (.int .i64 c_11.Den)], 26⟩], [⟨b2, [(.int .i64 0), (.int .i64 0)], 26⟩], [⟨b1, [(.int .i64 p_a.Num), (.int .i64 p_a.Den)], 26⟩]]) ?_ ?_
    · refine e_region [8] mixed fun w' hw' => ?_
      have hS := hS.below hw'
      refine e_x (v := (.agg #[(.int .i64 p_a.Num), (.int .i64 p_a.Den)])) 0 hF hS rfl (ex_loadA (vs := [(.int .i64 p_a.Num), (.int .i64 p_a.Den)]) 2 0 Try.underlying26 rfl sz26 rfl rfl rfl rfl) rfl rfl (by kernel_rfl) (by kernel_rfl) (by kernel_rfl) (by kernel_rfl) fun a hF => ?_
      refine e_x (v := (.agg #[(.int .i64 t_3.1.Num), (.int .i64 t_3.1.Den)])) 2 hF hS rfl (ex_loadA (vs := [(.int .i64 t_3.1.Num), (.int .i64 t_3.1.Den)]) 0 0 Try.underlying26 rfl sz26 rfl rfl rfl rfl) rfl rfl (by kernel_rfl) (by kernel_rfl) (by kernel_rfl) (by kernel_rfl) fun a hF => ?_
      obtain ⟨t_7, ht_7, hj2⟩ := bindS hj2
      obtain ⟨t_8, ht_8, hj2⟩ := bindS hj2
      refine e_all [1, 7] (by kernel_rfl) rfl ⟨?_, ?_, trivial⟩
      · refine e_call (vs := [(.agg #[(.int .i64 p_a.Num), (.int .i64 p_a.Den)])]) hF hS rfl Try.func137 (by kernel_rfl) rfl rfl rfl (c_impl_lessOne p_a t_7 ht_7 _ m hS.vis) ?_
        rintro a w _ rfl hF hS
        refine e_all [3, 7] (by kernel_rfl) rfl ⟨?_, ?_, trivial⟩
        · refine e_call (vs := [(.agg #[(.int .i64 t_7.Num), (.int .i64 t_7.Den)]), (.agg #[(.int .i64 t_3.1.Num), (.int .i64 t_3.1.Den)])]) hF hS rfl Try.func75 (by kernel_rfl) rfl rfl rfl (c_impl_DivFrac t_7 t_3.1 t_8 ht_8 _ m hS.vis) ?_
          rintro a w _ rfl hF hS
          refine e_p (v := (.tuple #[(.agg #[(.int .i64 t_8.1.Num), (.int .i64 t_8.1.Den)]), (.bool t_8.2)])) 4 hF rfl (ex_move rfl) rfl rfl (by kernel_rfl) (by kernel_rfl) (by kernel_rfl) fun a hF => ?_
          refine e_p (v := (.agg #[(.int .i64 t_8.1.Num), (.int .i64 t_8.1.Den)])) 5 hF rfl (ex_extract rfl rfl) rfl rfl (by kernel_rfl) (by kernel_rfl) (by kernel_rfl) fun a hF => ?_
          refine e_p (v := (.bool t_8.2)) 6 hF rfl (ex_extract rfl rfl) rfl rfl (by kernel_rfl) (by kernel_rfl) (by kernel_rfl) fun a hF => ?_
          refine e_one 7 (by kernel_rfl) ?_
          refine e_alloc (cs := [(.int .i64 0), (.int .i64 0)]) hF hS rfl rfl rfl rfl fun a w b9 hF hS => ?_
          refine e_one 8 (by kernel_rfl) ?_
          refine e_store (vs := [(.int .i64 t_8.1.Num), (.int .i64 t_8.1.Den)]) (cs' := [(.int .i64 t_8.1.Num), (.int .i64 t_8.1.Den)]) 0 0 hF hS rfl rfl sz26 rfl rfl rfl rfl rfl rfl rfl rfl fun a w hF hS => ?_
          refine e_p (v := (.bool t_8.2)) 9 hF rfl (ex_assign rfl) rfl rfl (by kernel_rfl) (by kernel_rfl) (by kernel_rfl) fun a hF => ?_
          refine e_end (by kernel_rfl) (n_jn ?_) _
          obtain rfl := someI hj2
          exact ⟨b9, _, _, rfl, hF.sub ⟨rfl, rfl, rfl, rfl, rfl, trivial⟩, hS.mask [true, false, true, true]⟩
        · refine e_alloc (cs := [(.int .i64 0), (.int .i64 0)]) hF hS rfl rfl rfl rfl fun a w b9 hF hS => ?_
          refine e_one 3 (by kernel_rfl) ?_
          refine e_call (vs := [(.agg #[(.int .i64 t_7.Num), (.int .i64 t_7.Den)]), (.agg #[(.int .i64 t_3.1.Num), (.int .i64 t_3.1.Den)])]) hF hS rfl Try.func75 (by kernel_rfl) rfl rfl rfl (c_impl_DivFrac t_7 t_3.1 t_8 ht_8 _ m hS.vis) ?_
          rintro a w _ rfl hF hS
          refine e_p (v := (.tuple #[(.agg #[(.int .i64 t_8.1.Num), (.int .i64 t_8.1.Den)]), (.bool t_8.2)])) 4 hF rfl (ex_move rfl) rfl rfl (by kernel_rfl) (by kernel_rfl) (by kernel_rfl) fun a hF => ?_
          refine e_p (v := (.agg #[(.int .i64 t_8.1.Num), (.int .i64 t_8.1.Den)])) 5 hF rfl (ex_extract rfl rfl) rfl rfl (by kernel_rfl) (by kernel_rfl) (by kernel_rfl) fun a hF => ?_
          refine e_p (v := (.bool t_8.2)) 6 hF rfl (ex_extract rfl rfl) rfl rfl (by kernel_rfl) (by kernel_rfl) (by kernel_rfl) fun a hF => ?_
          refine e_one 8 (by kernel_rfl) ?_
          refine e_store (vs := [(.int .i64 t_8.1.Num), (.int .i64 t_8.1.Den)]) (cs' := [(.int .i64 t_8.1.Num), (.int .i64 t_8.1.Den)]) 0 0 hF hS rfl rfl sz26 rfl rfl rfl rfl rfl rfl rfl rfl fun a w hF hS => ?_
          refine e_p (v := (.bool t_8.2)) 9 hF rfl (ex_assign rfl) rfl rfl (by kernel_rfl) (by kernel_rfl) (by kernel_rfl) fun a hF => ?_
          refine e_end (by kernel_rfl) (n_jn ?_) _
          obtain rfl := someI hj2
          exact ⟨b9, _, _, rfl, hF.sub ⟨rfl, rfl, rfl, rfl, rfl, trivial⟩, hS.mask [true, false, true, true]⟩
      · refine e_alloc (cs := [(.int .i64 0), (.int .i64 0)]) hF hS rfl rfl rfl rfl fun a w b9 hF hS => ?_
        refine e_one 1 (by kernel_rfl) ?_
        refine e_call (vs := [(.agg #[(.int .i64 p_a.Num), (.int .i64 p_a.Den)])]) hF hS rfl Try.func137 (by kernel_rfl) rfl rfl rfl (c_impl_lessOne p_a t_7 ht_7 _ m hS.vis) ?_
        rintro a w _ rfl hF hS
        refine e_one 3 (by kernel_rfl) ?_
        refine e_call (vs := [(.agg #[(.int .i64 t_7.Num), (.int .i64 t_7.Den)]), (.agg #[(.int .i64 t_3.1.Num), (.int .i64 t_3.1.Den)])]) hF hS rfl Try.func75 (by kernel_rfl) rfl rfl rfl (c_impl_DivFrac t_7 t_3.1 t_8 ht_8 _ m hS.vis) ?_
        rintro a w _ rfl hF hS
        refine e_p (v := (.tuple #[(.agg #[(.int .i64 t_8.1.Num), (.int .i64 t_8.1.Den)]), (.bool t_8.2)])) 4 hF rfl (ex_move rfl) rfl rfl (by kernel_rfl) (by kernel_rfl) (by kernel_rfl) fun a hF => ?_
        refine e_p (v := (.agg #[(.int .i64 t_8.1.Num), (.int .i64 t_8.1.Den)])) 5 hF rfl (ex_extract rfl rfl) rfl rfl (by kernel_rfl) (by kernel_rfl) (by kernel_rfl) fun a hF => ?_
        refine e_p (v := (.bool t_8.2)) 6 hF rfl (ex_extract rfl rfl) rfl rfl (by kernel_rfl) (by kernel_rfl) (by kernel_rfl) fun a hF => ?_
        refine e_one 8 (by kernel_rfl) ?_
        refine e_store (vs := [(.int .i64 t_8.1.Num), (.int .i64 t_8.1.Den)]) (cs' := [(.int .i64 t_8.1.Num), (.int .i64 t_8.1.Den)]) 0 0 hF hS rfl rfl sz26 rfl rfl rfl rfl rfl rfl rfl rfl fun a w hF hS => ?_
        refine e_p (v := (.bool t_8.2)) 9 hF rfl (ex_assign rfl) rfl rfl (by kernel_rfl) (by kernel_rfl) (by kernel_rfl) fun a hF => ?_
        refine e_end (by kernel_rfl) (n_jn ?_) _
        obtain rfl := someI hj2
        exact ⟨b9, _, _, rfl, hF.sub ⟨rfl, rfl, rfl, rfl, rfl, trivial⟩, hS.mask [true, false, true, true]⟩
    · rintro a w ⟨b9, ok_10, c_11, rfl, hF, hS⟩
      refine n_sq ?_
      refine q_seq ?_
      refine q_seq ?_
      refine q_region ?_
      refine q_x (v := (.bool ok_10)) hF hS (ex_move rfl) rfl rfl fun a hF => ?_
      refine q_x (v := (.bool (!ok_10))) hF hS (ex_not rfl) rfl rfl fun a hF => ?_
      refine q_end (n_sq ?_)
      rcases hc3 : (!ok_10) with _ | _
      · have hr := cond_f hc3 hr
        refine q_cond_f hF rfl hc3 ?_
        refine q_skipc (n_sq ?_)
        refine q_seq ?_
        refine q_region ?_
        refine q_x (v := (.agg #[(.int .i64 p_a.Num), (.int .i64 p_a.Den)])) hF hS (ex_loadA (vs := [(.int .i64 p_a.Num), (.int .i64 p_a.Den)]) 2 0 Try.underlying26 rfl sz26 rfl rfl rfl rfl) rfl rfl fun a hF => ?_
        refine q_x (v := (.int .i64 p_k)) hF hS (ex_move rfl) rfl rfl fun a hF => ?_
        obtain ⟨t_12, ht_12, hr⟩ := bindS hr
        refine q_call (vs := [(.agg #[(.int .i64 p_a.Num), (.int .i64 p_a.Den)]), (.int .i64 p_k)]) hF hS Try.func113 (by kernel_rfl) rfl rfl rfl (c_impl_PowFrac p_a p_k t_12 ht_12 _ m hS.vis) ?_
        rintro a w _ rfl hF hS
        refine q_x (v := (.tuple #[(.agg #[(.int .i64 t_12.1.Num), (.int .i64 t_12.1.Den)]), (.bool t_12.2)])) hF hS (ex_move rfl) rfl rfl fun a hF => ?_
        refine q_x (v := (.agg #[(.int .i64 t_12.1.Num), (.int .i64 t_12.1.Den)])) hF hS (ex_extract rfl rfl) rfl rfl fun a hF => ?_
        refine q_x (v := (.bool t_12.2)) hF hS (ex_extract rfl rfl) rfl rfl fun a hF => ?_
        refine q_alloc (cs := [(.int .i64 0), (.int .i64 0)]) hF hS rfl rfl rfl fun a w b13 hF hS => ?_
        refine q_store (vs := [(.int .i64 t_12.1.Num), (.int .i64 t_12.1.Den)]) (cs' := [(.int .i64 t_12.1.Num), (.int .i64 t_12.1.Den)]) 0 0 hF hS sz26 rfl rfl rfl rfl rfl rfl rfl rfl fun a w hF hS => ?_
        refine q_x (v := (.bool t_12.2)) hF hS (ex_assign rfl) rfl rfl fun a hF => ?_
        refine q_end (n_sq ?_)
        refine q_seq ?_
        refine q_seq ?_
        refine q_region ?_
        refine q_x (v := (.bool t_12.2)) hF hS (ex_move rfl) rfl rfl fun a hF => ?_
        refine q_x (v := (.bool (!t_12.2))) hF hS (ex_not rfl) rfl rfl fun a hF => ?_
        refine q_end (n_sq ?_)
        rcases hc4 : (!t_12.2) with _ | _
        · have hr := cond_f hc4 hr
          refine q_cond_f hF rfl hc4 ?_
          refine q_skipc (n_sq ?_)
          refine q_seq ?_
          refine q_region ?_
          refine q_x (v := (.agg #[(.int .i64 c_11.Num), (.int .i64 c_11.Den)])) hF hS (ex_loadA (vs := [(.int .i64 c_11.Num), (.int .i64 c_11.Den)]) 1 0 Try.underlying26 rfl sz26 rfl rfl rfl rfl) rfl rfl fun a hF => ?_
          refine q_x (v := (.agg #[(.int .i64 t_12.1.Num), (.int .i64 t_12.1.Den)])) hF hS (ex_loadA (vs := [(.int .i64 t_12.1.Num), (.int .i64 t_12.1.Den)]) 0 0 Try.underlying26 rfl sz26 rfl rfl rfl rfl) rfl rfl fun a hF => ?_
          obtain ⟨t_14, ht_14, hr⟩ := bindS hr
          refine q_call (vs := [(.agg #[(.int .i64 c_11.Num), (.int .i64 c_11.Den)]), (.agg #[(.int .i64 t_12.1.Num), (.int .i64 t_12.1.Den)])]) hF hS Try.func101 (by kernel_rfl) rfl rfl rfl (c_impl_MulFrac c_11 t_12.1 t_14 ht_14 _ m hS.vis) ?_
          rintro a w _ rfl hF hS
          refine q_x (v := (.agg #[(.int .i64 t_14.1.Num), (.int .i64 t_14.1.Den)])) hF hS (ex_extract rfl rfl) rfl rfl fun a hF => ?_
          refine q_x (v := (.bool t_14.2)) hF hS (ex_extract rfl rfl) rfl rfl fun a hF => ?_
          refine q_store (vs := [(.int .i64 t_14.1.Num), (.int .i64 t_14.1.Den)]) (cs' := [(.int .i64 t_14.1.Num), (.int .i64 t_14.1.Den)]) 2 0 hF hS sz26 rfl rfl rfl rfl rfl rfl rfl rfl fun a w hF hS => ?_
          refine q_x (v := (.bool t_14.2)) hF hS (ex_assign rfl) rfl rfl fun a hF => ?_
          refine q_end (n_sq (q_ret ?_))
          obtain rfl := someI hr
          exact ret_of hF hS rfl (.cellA (us := [(.int .i64 t_14.1.Num), (.int .i64 t_14.1.Den)]) 2 0 Try.underlying26 rfl sz26 rfl rfl rfl rfl (.tmp rfl .nil)) rfl
        · have hr := cond_t hc4 hr
          refine q_cond_t hF rfl hc4 ?_
          refine q_seq ?_
          refine q_region ?_
          refine q_x (v := (.agg #[(.int .i64 0), (.int .i64 0)])) hF hS (ex_build (cells := [(.int .i64 0), (.int .i64 0)]) rfl (by kernel_rfl)) rfl rfl fun a hF => ?_
          refine q_store (vs := [(.int .i64 0), (.int .i64 0)]) (cs' := [(.int .i64 0), (.int .i64 0)]) 2 0 hF hS sz26 rfl rfl rfl rfl rfl rfl rfl rfl fun a w hF hS => ?_
          refine q_x (v := (.bool false)) hF hS (ex_assign rfl) rfl rfl fun a hF => ?_
          refine q_end (n_sq (q_ret (r_sq ?_)))
          obtain rfl := someI hr
          exact ret_of hF hS rfl (.cellA (us := [(.int .i64 0), (.int .i64 0)]) 2 0 Try.underlying26 rfl sz26 rfl rfl rfl rfl (.tmp rfl .nil)) rfl
      · have hr := cond_t hc3 hr
        refine q_cond_t hF rfl hc3 ?_
        refine q_seq ?_
        refine q_region ?_
        refine q_x (v := (.agg #[(.int .i64 0), (.int .i64 0)])) hF hS (ex_build (cells := [(.int .i64 0), (.int .i64 0)]) rfl (by kernel_rfl)) rfl rfl fun a hF => ?_
        refine q_store (vs := [(.int .i64 0), (.int .i64 0)]) (cs' := [(.int .i64 0), (.int .i64 0)]) 1 0 hF hS sz26 rfl rfl rfl rfl rfl rfl rfl rfl fun a w hF hS => ?_
        refine q_x (v := (.bool false)) hF hS (ex_assign rfl) rfl rfl fun a hF => ?_
        refine q_end (n_sq (q_ret (r_sq ?_)))
        obtain rfl := someI hr
        exact ret_of hF hS rfl (.cellA (us := [(.int .i64 0), (.int .i64 0)]) 1 0 Try.underlying26 rfl sz26 rfl rfl rfl rfl (.tmp rfl .nil)) rfl
  · have hr := cond_t hc1 hr
    refine q_cond_t hF rfl hc1 ?_
    refine q_seq ?_
    refine q_region ?_
    refine q_x (v := (.agg #[(.int .i64 0), (.int .i64 0)])) hF hS (ex_build (cells := [(.int .i64 0), (.int .i64 0)]) rfl (by kernel_rfl)) rfl rfl fun a hF => ?_
    refine q_store (vs := [(.int .i64 0), (.int .i64 0)]) (cs' := [(.int .i64 0), (.int .i64 0)]) 1 0 hF hS sz26 rfl rfl rfl rfl rfl rfl rfl rfl fun a w hF hS => ?_
    refine q_x (v := (.bool false)) hF hS (ex_assign rfl) rfl rfl fun a hF => ?_
    refine q_end (n_sq (q_ret (r_sq ?_)))
    obtain rfl := someI hr
    exact ret_of hF hS rfl (.cellA (us := [(.int .i64 0), (.int .i64 0)]) 1 0 Try.underlying26 rfl sz26 rfl rfl rfl rfl (.tmp rfl .nil)) rfl

end Go.Proofs.Ytkgmphgbmjbfhaa
