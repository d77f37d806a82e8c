/- The walks of the functions: each returns what its plain function says. -/
import Derived.Test.YtnmimeojimfogaaWalks3
namespace Go.Proofs.Ytnmimeojimfogaa
open Go.Gx Go.Gx.F Go.RowKit
set_option linter.all false
set_option maxRecDepth 10000


theorem c_laws_pSameTable (p_a : impl_Table) (p_b : impl_Table) (r : Bool) (hr : laws_pSameTable p_a p_b = some r) (w0 : World) (m : Mem) (hv : Vis m w0) (s1 : Sl) (h1 : Rd m s1 p_a.Vars) (s2 : Sl) (h2 : Rd m s2 p_a.Where) (s3 : Sl) (h3 : Rd m s3 p_b.Vars) (s4 : Sl) (h4 : Rd m s4 p_b.Where) :
  Ret Try.prog 9 [(.agg #[(.int .i64 p_a.Level), s1.v, s2.v, (.int .i64 p_a.Sum)]), (.agg #[(.int .i64 p_b.Level), s3.v, s4.v, (.int .i64 p_b.Sum)])] w0 (fun v _ => v = (.bool r)) := by
 unfold laws_pSameTable at hr
 refine ret_start Try.func9 rfl 31 rfl rfl m hv fun a hF hS => q_seq (q_region (q_box (cs := [(.int .i64 p_a.Level), s1.v, s2.v, (.int .i64 p_a.Sum)]) hF hS rfl rfl rfl fun a w b5 hF hS => q_box (cs := [(.int .i64 p_b.Level), s3.v, s4.v, (.int .i64 p_b.Sum)]) hF hS rfl rfl rfl fun a w b6 hF hS => q_x (v := (.bool false)) hF hS (ex_assign rfl) rfl rfl fun a hF => q_end (n_sq (q_seq ?_))))
 obtain ⟨t_9, hj1, hr⟩ := bindS hr
 refine q_join (fun a w => Fr a 31 [(4, (.bool t_9))] ∧ St [] w0 w m []) ?_ ?_
 ·refine q_region (q_x (v := (.pointer (some ⟨b5, 0, none⟩))) hF hS (ex_fieldAddr Try.underlying29 rfl sz3 rfl rfl) rfl rfl fun a hF => q_x (v := (.int .i64 p_a.Level)) hF hS (ex_load1 1 0 Try.underlying3 rfl rfl rfl rfl) rfl rfl fun a hF => q_x (v := (.pointer (some ⟨b6, 0, none⟩))) hF hS (ex_fieldAddr Try.underlying29 rfl sz3 rfl rfl) rfl rfl fun a hF => q_x (v := (.int .i64 p_b.Level)) hF hS (ex_load1 0 0 Try.underlying3 rfl rfl rfl rfl) rfl rfl fun a hF => q_x (v := (.bool (p_a.Level == p_b.Level))) hF hS (ex_ibin rfl rfl rfl) rfl rfl fun a hF => q_x (v := (.bool (p_a.Level == p_b.Level))) hF hS (ex_move rfl) rfl rfl fun a hF => ?_)
  rcases bcase (p_a.Level == p_b.Level) with hc2 | hc2
  ·have hj1 := cond_f hc2 hj1
   refine q_skip hF (wanted_f hF rfl rfl rfl hc2 rfl) rfl fun a hF => q_skip hF (wanted_f hF rfl rfl rfl hc2 rfl) rfl fun a hF => q_skip hF (wanted_f hF rfl rfl rfl hc2 rfl) rfl fun a hF => q_skip hF (wanted_f hF rfl rfl rfl hc2 rfl) rfl fun a hF => q_skip hF (wanted_f hF rfl rfl rfl hc2 rfl) rfl fun a hF => q_x (v := (.bool false)) hF hS (ex_pick_f rfl rfl hc2) rfl rfl fun a hF => q_x (v := (.bool false)) hF hS (ex_move rfl) rfl rfl fun a hF => q_skip hF (wanted_f hF rfl rfl rfl rfl rfl) rfl fun a hF => q_skip hF (wanted_f hF rfl rfl rfl rfl rfl) rfl fun a hF => q_skip hF (wanted_f hF rfl rfl rfl rfl rfl) rfl fun a hF => q_skip hF (wanted_f hF rfl rfl rfl rfl rfl) rfl fun a hF => q_skip hF (wanted_f hF rfl rfl rfl rfl rfl) rfl fun a hF => q_x (v := (.bool false)) hF hS (ex_pick_f rfl rfl rfl) rfl rfl fun a hF => q_x (v := (.bool false)) hF hS (ex_move rfl) rfl rfl fun a hF => q_skip hF (wanted_f hF rfl rfl rfl rfl rfl) rfl fun a hF => q_skip hF (wanted_f hF rfl rfl rfl rfl rfl) rfl fun a hF => q_skip hF (wanted_f hF rfl rfl rfl rfl rfl) rfl fun a hF => q_skip hF (wanted_f hF rfl rfl rfl rfl rfl) rfl fun a hF => q_skip hF (wanted_f hF rfl rfl rfl rfl rfl) rfl fun a hF => q_x (v := (.bool false)) hF hS (ex_pick_f rfl rfl rfl) rfl rfl fun a hF => q_x (v := (.bool false)) hF hS (ex_assign rfl) rfl rfl fun a hF => q_end (n_jn ?_)
   obtain rfl := someI hj1
   exact ⟨hF.sub ⟨rfl, trivial⟩, hS.mask [false, false]⟩
  ·have hj1 := cond_t hc2 hj1
   refine q_xg (v := (.pointer (some ⟨b5, 1, none⟩))) hF hS (ex_fieldAddr Try.underlying29 rfl sz24 rfl rfl) (wanted_t hF rfl rfl rfl hc2) rfl fun a hF => q_xg (v := s1.v) hF hS (ex_load1 1 0 Try.underlying24 rfl rfl rfl rfl) (wanted_t hF rfl rfl rfl hc2) rfl fun a hF => q_xg (v := (.pointer (some ⟨b6, 1, none⟩))) hF hS (ex_fieldAddr Try.underlying29 rfl sz24 rfl rfl) (wanted_t hF rfl rfl rfl hc2) rfl fun a hF => q_xg (v := s3.v) hF hS (ex_load1 0 0 Try.underlying24 rfl rfl rfl rfl) (wanted_t hF rfl rfl rfl hc2) rfl fun a hF => ?_
   obtain ⟨t_7, ht_7, hj1⟩ := bindS hj1
   refine q_callg (vs := [s1.v, s3.v]) hF hS (wanted_t hF rfl rfl rfl hc2) Try.func17 (by kernel_rfl) rfl rfl rfl (c_laws_sameInts p_a.Vars p_b.Vars t_7 ht_7 _ m hS.vis s1 h1 s3 h3) ?_
   rintro a w _ rfl hF hS
   refine q_x (v := (.bool t_7)) hF hS (ex_pick_t rfl rfl hc2) rfl rfl fun a hF => q_x (v := (.bool t_7)) hF hS (ex_move rfl) rfl rfl fun a hF => ?_
   rcases bcase (t_7) with hc3 | hc3
   ·have hj1 := cond_f hc3 hj1
    refine q_skip hF (wanted_f hF rfl rfl rfl hc3 rfl) rfl fun a hF => q_skip hF (wanted_f hF rfl rfl rfl hc3 rfl) rfl fun a hF => q_skip hF (wanted_f hF rfl rfl rfl hc3 rfl) rfl fun a hF => q_skip hF (wanted_f hF rfl rfl rfl hc3 rfl) rfl fun a hF => q_skip hF (wanted_f hF rfl rfl rfl hc3 rfl) rfl fun a hF => q_x (v := (.bool false)) hF hS (ex_pick_f rfl rfl hc3) rfl rfl fun a hF => q_x (v := (.bool false)) hF hS (ex_move rfl) rfl rfl fun a hF => q_skip hF (wanted_f hF rfl rfl rfl rfl rfl) rfl fun a hF => q_skip hF (wanted_f hF rfl rfl rfl rfl rfl) rfl fun a hF => q_skip hF (wanted_f hF rfl rfl rfl rfl rfl) rfl fun a hF => q_skip hF (wanted_f hF rfl rfl rfl rfl rfl) rfl fun a hF => q_skip hF (wanted_f hF rfl rfl rfl rfl rfl) rfl fun a hF => q_x (v := (.bool false)) hF hS (ex_pick_f rfl rfl rfl) rfl rfl fun a hF => q_x (v := (.bool false)) hF hS (ex_assign rfl) rfl rfl fun a hF => q_end (n_jn ?_)
    obtain rfl := someI hj1
    exact ⟨hF.sub ⟨rfl, trivial⟩, hS.mask [false, false]⟩
   ·have hj1 := cond_t hc3 hj1
    refine q_xg (v := (.pointer (some ⟨b5, 2, none⟩))) hF hS (ex_fieldAddr Try.underlying29 rfl sz24 rfl rfl) (wanted_t hF rfl rfl rfl hc3) rfl fun a hF => q_xg (v := s2.v) hF hS (ex_load1 1 0 Try.underlying24 rfl rfl rfl rfl) (wanted_t hF rfl rfl rfl hc3) rfl fun a hF => q_xg (v := (.pointer (some ⟨b6, 2, none⟩))) hF hS (ex_fieldAddr Try.underlying29 rfl sz24 rfl rfl) (wanted_t hF rfl rfl rfl hc3) rfl fun a hF => q_xg (v := s4.v) hF hS (ex_load1 0 0 Try.underlying24 rfl rfl rfl rfl) (wanted_t hF rfl rfl rfl hc3) rfl fun a hF => ?_
    obtain ⟨t_8, ht_8, hj1⟩ := bindS hj1
    refine q_callg (vs := [s2.v, s4.v]) hF hS (wanted_t hF rfl rfl rfl hc3) Try.func17 (by kernel_rfl) rfl rfl rfl (c_laws_sameInts p_a.Where p_b.Where t_8 ht_8 _ m hS.vis s2 h2 s4 h4) ?_
    rintro a w _ rfl hF hS
    refine q_x (v := (.bool t_8)) hF hS (ex_pick_t rfl rfl hc3) rfl rfl fun a hF => q_x (v := (.bool t_8)) hF hS (ex_move rfl) rfl rfl fun a hF => ?_
    rcases bcase (t_8) with hc4 | hc4
    ·have hj1 := cond_f hc4 hj1
     refine q_skip hF (wanted_f hF rfl rfl rfl hc4 rfl) rfl fun a hF => q_skip hF (wanted_f hF rfl rfl rfl hc4 rfl) rfl fun a hF => q_skip hF (wanted_f hF rfl rfl rfl hc4 rfl) rfl fun a hF => q_skip hF (wanted_f hF rfl rfl rfl hc4 rfl) rfl fun a hF => q_skip hF (wanted_f hF rfl rfl rfl hc4 rfl) rfl fun a hF => q_x (v := (.bool false)) hF hS (ex_pick_f rfl rfl hc4) rfl rfl fun a hF => q_x (v := (.bool false)) hF hS (ex_assign rfl) rfl rfl fun a hF => q_end (n_jn ?_)
     obtain rfl := someI hj1
     exact ⟨hF.sub ⟨rfl, trivial⟩, hS.mask [false, false]⟩
    ·have hj1 := cond_t hc4 hj1
     refine q_xg (v := (.pointer (some ⟨b5, 3, none⟩))) hF hS (ex_fieldAddr Try.underlying29 rfl sz3 rfl rfl) (wanted_t hF rfl rfl rfl hc4) rfl fun a hF => q_xg (v := (.int .i64 p_a.Sum)) hF hS (ex_load1 1 0 Try.underlying3 rfl rfl rfl rfl) (wanted_t hF rfl rfl rfl hc4) rfl fun a hF => q_xg (v := (.pointer (some ⟨b6, 3, none⟩))) hF hS (ex_fieldAddr Try.underlying29 rfl sz3 rfl rfl) (wanted_t hF rfl rfl rfl hc4) rfl fun a hF => q_xg (v := (.int .i64 p_b.Sum)) hF hS (ex_load1 0 0 Try.underlying3 rfl rfl rfl rfl) (wanted_t hF rfl rfl rfl hc4) rfl fun a hF => q_xg (v := (.bool (p_a.Sum == p_b.Sum))) hF hS (ex_ibin rfl rfl rfl) (wanted_t hF rfl rfl rfl hc4) rfl fun a hF => q_x (v := (.bool (p_a.Sum == p_b.Sum))) hF hS (ex_pick_t rfl rfl hc4) rfl rfl fun a hF => q_x (v := (.bool (p_a.Sum == p_b.Sum))) hF hS (ex_assign rfl) rfl rfl fun a hF => q_end (n_jn ?_)
     obtain rfl := someI hj1
     exact ⟨hF.sub ⟨rfl, trivial⟩, hS.mask [false, false]⟩
 ·rintro a w ⟨hF, hS⟩
  refine n_sq (q_ret ?_)
  obtain rfl := someI hr
  exact ret_of hF hS rfl (.tmp rfl .nil) rfl

theorem c_impl_FollowsFrom (p_g : impl_Geo) (p_s : List impl_Variable) (p_t : impl_Table) (p_u : impl_Table) (r : Bool × Bool) (hr : impl_FollowsFrom p_g p_s p_t p_u = some r) (w0 : World) (m : Mem) (hv : Vis m w0) (s1 : Sl) (h1 : Rd m s1 p_g.Parents) (s2 : Sl) (h2 : Rd m s2 p_s) (s3 : Sl) (h3 : Rd m s3 p_t.Vars) (s4 : Sl) (h4 : Rd m s4 p_t.Where) (s5 : Sl) (h5 : Rd m s5 p_u.Vars) (s6 : Sl) (h6 : Rd m s6 p_u.Where) :
  Ret Try.prog 10 [(.agg #[s1.v]), s2.v, (.agg #[(.int .i64 p_t.Level), s3.v, s4.v, (.int .i64 p_t.Sum)]), (.agg #[(.int .i64 p_u.Level), s5.v, s6.v, (.int .i64 p_u.Sum)])] w0 (fun v _ => v = (.tuple #[(.bool r.1), (.bool r.2)])) := by
 unfold impl_FollowsFrom at hr
 refine ret_start Try.func10 rfl 27 rfl rfl m hv fun a hF hS => q_seq (q_region (q_box (cs := [s1.v]) hF hS rfl rfl rfl fun a w b7 hF hS => q_box (cs := [(.int .i64 p_t.Level), s3.v, s4.v, (.int .i64 p_t.Sum)]) hF hS rfl rfl rfl fun a w b8 hF hS => q_box (cs := [(.int .i64 p_u.Level), s5.v, s6.v, (.int .i64 p_u.Sum)]) hF hS rfl rfl rfl fun a w b9 hF hS => q_x (v := (.bool false)) hF hS (ex_assign rfl) rfl rfl fun a hF => q_x (v := (.bool false)) hF hS (ex_assign rfl) rfl rfl fun a hF => q_end (n_sq (q_seq (q_seq ?_)))))
 obtain ⟨t_12, hj1, hr⟩ := bindS hr
 refine q_join (fun a w => Fr a 27 [(1, s2.v), (4, (.pointer (some ⟨b7, 0, none⟩))), (6, (.pointer (some ⟨b8, 0, none⟩))), (7, (.pointer (some ⟨b9, 0, none⟩))), (21, (.bool t_12))] ∧ St [] w0 w m [[⟨b9, [(.int .i64 p_u.Level), s5.v, s6.v, (.int .i64 p_u.Sum)], 29⟩], [⟨b8, [(.int .i64 p_t.Level), s3.v, s4.v, (.int .i64 p_t.Sum)], 29⟩], [⟨b7, [s1.v], 26⟩]]) ?_ ?_
 ·refine q_region (q_x (v := (.agg #[s1.v])) hF hS (ex_loadA (vs := [s1.v]) 2 0 Try.underlying26 rfl sz26 rfl rfl rfl rfl) rfl rfl fun a hF => q_x (v := s2.v) hF hS (ex_move rfl) rfl rfl fun a hF => q_x (v := (.agg #[(.int .i64 p_t.Level), s3.v, s4.v, (.int .i64 p_t.Sum)])) hF hS (ex_loadA (vs := [(.int .i64 p_t.Level), s3.v, s4.v, (.int .i64 p_t.Sum)]) 1 0 Try.underlying29 rfl sz29 rfl rfl rfl rfl) rfl rfl fun a hF => ?_)
  obtain ⟨t_10, ht_10, hj1⟩ := bindS hj1
  refine q_call (vs := [(.agg #[s1.v]), s2.v, (.agg #[(.int .i64 p_t.Level), s3.v, s4.v, (.int .i64 p_t.Sum)])]) hF hS Try.func29 (by kernel_rfl) rfl rfl rfl (c_impl_areTabled p_g p_s p_t t_10 ht_10 _ m hS.vis s1 h1 s2 h2 s3 h3 s4 h4) ?_
  rintro a w _ rfl hF hS
  refine q_x (v := (.bool (!t_10))) hF hS (ex_not rfl) rfl rfl fun a hF => q_x (v := (.bool (!t_10))) hF hS (ex_move rfl) rfl rfl fun a hF => ?_
  rcases bcase (!t_10) with hc2 | hc2
  ·have hj1 := cond_f hc2 hj1
   refine q_xg (v := (.agg #[s1.v])) hF hS (ex_loadA (vs := [s1.v]) 2 0 Try.underlying26 rfl sz26 rfl rfl rfl rfl) (wanted_t hF rfl rfl rfl hc2) rfl fun a hF => q_xg (v := s2.v) hF hS (ex_move rfl) (wanted_t hF rfl rfl rfl hc2) rfl fun a hF => q_xg (v := (.agg #[(.int .i64 p_u.Level), s5.v, s6.v, (.int .i64 p_u.Sum)])) hF hS (ex_loadA (vs := [(.int .i64 p_u.Level), s5.v, s6.v, (.int .i64 p_u.Sum)]) 0 0 Try.underlying29 rfl sz29 rfl rfl rfl rfl) (wanted_t hF rfl rfl rfl hc2) rfl fun a hF => ?_
   obtain ⟨t_11, ht_11, hj1⟩ := bindS hj1
   refine q_callg (vs := [(.agg #[s1.v]), s2.v, (.agg #[(.int .i64 p_u.Level), s5.v, s6.v, (.int .i64 p_u.Sum)])]) hF hS (wanted_t hF rfl rfl rfl hc2) Try.func30 (by kernel_rfl) rfl rfl rfl (c_impl_isTable p_g p_s p_u t_11 ht_11 _ m hS.vis s1 h1 s2 h2 s5 h5 s6 h6) ?_
   rintro a w _ rfl hF hS
   refine q_xg (v := (.bool (!t_11))) hF hS (ex_not rfl) (wanted_t hF rfl rfl rfl hc2) rfl fun a hF => q_x (v := (.bool (!t_11))) hF hS (ex_pick_f rfl rfl hc2) rfl rfl fun a hF => q_end (n_jn ?_)
   obtain rfl := someI hj1
   exact ⟨hF.sub ⟨rfl, rfl, rfl, rfl, rfl, trivial⟩, hS⟩
  ·have hj1 := cond_t hc2 hj1
   refine q_skip hF (wanted_f hF rfl rfl rfl hc2 rfl) rfl fun a hF => q_skip hF (wanted_f hF rfl rfl rfl hc2 rfl) rfl fun a hF => q_skip hF (wanted_f hF rfl rfl rfl hc2 rfl) rfl fun a hF => q_skip hF (wanted_f hF rfl rfl rfl hc2 rfl) rfl fun a hF => q_skip hF (wanted_f hF rfl rfl rfl hc2 rfl) rfl fun a hF => q_x (v := (.bool true)) hF hS (ex_pick_t rfl rfl hc2) rfl rfl fun a hF => q_end (n_jn ?_)
   obtain rfl := someI hj1
   exact ⟨hF.sub ⟨rfl, rfl, rfl, rfl, rfl, trivial⟩, hS⟩
 ·rintro a w ⟨hF, hS⟩
  refine n_sq ?_
  rcases bcase (t_12) with hc3 | hc3
  ·have hr := cond_f hc3 hr
   refine q_cond_f hF rfl hc3 (q_skipc (n_sq (q_seq (q_region (q_x (v := (.agg #[s1.v])) hF hS (ex_loadA (vs := [s1.v]) 2 0 Try.underlying26 rfl sz26 rfl rfl rfl rfl) rfl rfl fun a hF => q_x (v := s2.v) hF hS (ex_move rfl) rfl rfl fun a hF => q_x (v := (.agg #[(.int .i64 p_t.Level), s3.v, s4.v, (.int .i64 p_t.Sum)])) hF hS (ex_loadA (vs := [(.int .i64 p_t.Level), s3.v, s4.v, (.int .i64 p_t.Sum)]) 1 0 Try.underlying29 rfl sz29 rfl rfl rfl rfl) rfl rfl fun a hF => q_x (v := (.agg #[(.int .i64 p_u.Level), s5.v, s6.v, (.int .i64 p_u.Sum)])) hF hS (ex_loadA (vs := [(.int .i64 p_u.Level), s5.v, s6.v, (.int .i64 p_u.Sum)]) 0 0 Try.underlying29 rfl sz29 rfl rfl rfl rfl) rfl rfl fun a hF => ?_)))))
   obtain ⟨t_13, ht_13, hr⟩ := bindS hr
   refine q_call (vs := [(.agg #[s1.v]), s2.v, (.agg #[(.int .i64 p_t.Level), s3.v, s4.v, (.int .i64 p_t.Sum)]), (.agg #[(.int .i64 p_u.Level), s5.v, s6.v, (.int .i64 p_u.Sum)])]) hF hS Try.func34 (by kernel_rfl) rfl rfl rfl (c_impl_followsFrom p_g p_s p_t p_u t_13 ht_13 _ m hS.vis s1 h1 s2 h2 s3 h3 s4 h4 s5 h5 s6 h6) ?_
   rintro a w _ rfl hF hS
   refine q_x (v := (.bool t_13)) hF hS (ex_assign rfl) rfl rfl fun a hF => q_x (v := (.bool true)) hF hS (ex_assign rfl) rfl rfl fun a hF => q_end (n_sq (q_ret ?_))
   obtain rfl := someI hr
   exact ret_of hF hS rfl (.tmp rfl (.tmp rfl .nil)) rfl
  ·have hr := cond_t hc3 hr
   refine q_cond_t hF rfl hc3 (q_seq (q_region (q_x (v := (.bool false)) hF hS (ex_assign rfl) rfl rfl fun a hF => q_x (v := (.bool false)) hF hS (ex_assign rfl) rfl rfl fun a hF => q_end (n_sq (q_ret (r_sq ?_))))))
   obtain rfl := someI hr
   exact ret_of hF hS rfl (.tmp rfl (.tmp rfl .nil)) rfl

theorem c_spec_l1Cur_tables (p_c : spec_l1Cur) (p_g : impl_Geo) (p_s : List impl_Variable) (r : (List impl_Table) × spec_l1Cur) (hr : spec_l1Cur_tables p_c p_g p_s = some r) (w0 : World) (m : Mem) (b_p_c : Nat) (s1 : Sl) (h1 : Rd m s1 p_c.code) (s2 : Sl) (h2 : Rd m s2 p_g.Parents) (s3 : Sl) (h3 : Rd m s3 p_s) (X : List Nat) (hS : St X w0 w0 m [[⟨b_p_c, [s1.v, (.int .i64 p_c.at_), (.int .u64 p_c.seed.v)], 65⟩]]) :
  RetX Try.prog 98 [(.pointer (some ⟨b_p_c, 0, none⟩)), (.agg #[s2.v]), s3.v] w0 (fun v w => ∃ (m' : Mem) (q0' : Piece) (s0' : Sl), v = s0'.v ∧ MLe X w0.heap.size m m' ∧ St X w0 w m' [[⟨b_p_c, [s1.v, (.int .i64 r.2.at_), (.int .u64 r.2.seed.v)], 65⟩], q0'] ∧ OwnL m' 29 q0' s0' r.1 ∧ r.2.code = p_c.code) := by
 unfold spec_l1Cur_tables at hr
 refine ret_startX Try.func98 rfl 49 rfl rfl fun a hF => q_seq (q_region (q_box (cs := [s2.v]) hF hS rfl rfl rfl fun a w b4 hF hS => q_x (v := nilS.v) hF hS (ex_assign rfl) rfl rfl fun a hF => q_end (n_sq (q_seq (q_region (q_x (v := nilS.v) hF hS (ex_assign rfl) rfl rfl fun a hF => q_end (n_sq (q_seq (q_seq (q_region (q_x (v := (.pointer (some ⟨b_p_c, 0, none⟩))) hF hS (ex_move rfl) rfl rfl fun a hF => ?_)))))))))))
 have hS : St _ _ _ _ [[⟨b_p_c, [s1.v, (.int .i64 p_c.at_), (.int .u64 p_c.seed.v)], 65⟩], [⟨b4, [s2.v], 26⟩]] := hS.sel [1, 0] (by decide)
 have hS5 : St _ _ _ _ ([[⟨b_p_c, [s1.v, (.int .i64 p_c.at_), (.int .u64 p_c.seed.v)], 65⟩]] ++ [[⟨b4, [s2.v], 26⟩]]) := hS
 have hE5 := hS5.enter
 obtain ⟨t_6, ht_6, hr⟩ := bindS hr
 refine q_do rfl fun _ hK => wp_callX (vs := [(.pointer (some ⟨b_p_c, 0, none⟩)), (.int .i64 5)]) hF Try.func53 (by kernel_rfl) rfl rfl rfl (c_spec_l1Cur_pick p_c 5 t_6 ht_6 _ m b_p_c s1 h1 _ hE5) fun a w _ hR hF => hK _ _ ?_
 obtain ⟨rfl, hR5, hk7⟩ := hR
 have hS : St _ _ _ _ [[⟨b_p_c, [s1.v, (.int .i64 t_6.2.at_), (.int .u64 t_6.2.seed.v)], 65⟩], [⟨b4, [s2.v], 26⟩]] := hS5.leaveF hR5
 have h7 : Rd m s1 t_6.2.code := by rw [hk7]; exact h1
 refine q_x (v := (.int .i64 t_6.1)) hF hS (ex_assign rfl) rfl rfl fun a hF => q_end (n_sq (q_block ?_))
 obtain ⟨o1, hl1, hr⟩ := bindS hr
 refine q_loop (fun (s : (List impl_Table) × Int × spec_l1Cur) a w => ∃ (m13 : Mem), ∃ (q9 : Piece), ∃ (s9 : Sl), ∃ l_8, ∃ k_10, ∃ p_c_11, s = (l_8, k_10, p_c_11) ∧ Fr a 49 [(0, (.pointer (some ⟨b_p_c, 0, none⟩))), (2, s3.v), (4, (.pointer (some ⟨b4, 0, none⟩))), (7, s9.v), (8, (.int .i64 k_10))] ∧ St X w0 w m13 [q9, [⟨b_p_c, [s1.v, (.int .i64 p_c_11.at_), (.int .u64 p_c_11.seed.v)], 65⟩], [⟨b4, [s2.v], 26⟩]] ∧ MLe X w0.heap.size m m13 ∧ OwnL m13 29 q9 s9 l_8 ∧ Rd m13 s1 p_c_11.code ∧ p_c_11.code = p_c.code) (fun (o : (List impl_Table) × spec_l1Cur) e a w => ∃ (m28 : Mem), ∃ (q25 : Piece), ∃ (s25 : Sl), ∃ l_24, ∃ p_c_26, o = (l_24, p_c_26) ∧ e = .exit 0 ∧ Fr a 49 [(0, (.pointer (some ⟨b_p_c, 0, none⟩))), (2, s3.v), (4, (.pointer (some ⟨b4, 0, none⟩))), (7, s25.v)] ∧ St X w0 w m28 [q25, [⟨b_p_c, [s1.v, (.int .i64 p_c_26.at_), (.int .u64 p_c_26.seed.v)], 65⟩], [⟨b4, [s2.v], 26⟩]] ∧ MLe X w0.heap.size m m28 ∧ OwnL m28 29 q25 s25 l_24 ∧ Rd m28 s1 p_c_26.code ∧ p_c_26.code = p_c.code) hl1 ⟨m, [], nilS, _, _, _, rfl, hF.sub ⟨rfl, rfl, rfl, rfl, rfl, trivial⟩, hS.sel [2, 0, 1] (by decide), (MLe.refl _ _), (OwnL.nil (α := impl_Table) m 29), h7, hk7⟩ ?_ ?_
 ·clear hF hS
  rintro s a w st ⟨m13, q9, s9, l_8, k_10, p_c_11, rfl, hF, hS, hm13, h9, h12, h12k⟩ hb1
  unfold spec_l1Cur_tables_l1 at hb1
  refine q_seq (q_seq (q_region (q_x (v := (.int .i64 k_10)) hF hS (ex_move rfl) rfl rfl fun a hF => q_x (v := (.bool (decide (0 < k_10)))) hF hS (ex_ibin rfl rfl rfl) rfl rfl fun a hF => q_end (n_sq ?_))))
  rcases bcase (decide (0 < k_10)) with hc2 | hc2
  ·have hb1 := cond_f hc2 hb1
   refine q_cond_f hF rfl hc2 (q_exit (x_sq ?_))
   obtain rfl := someI hb1
   exact ⟨nofun, .inl ⟨m13, q9, s9, _, _, rfl, rfl, hF.sub ⟨rfl, rfl, rfl, rfl, trivial⟩, hS, hm13, h9, h12, h12k⟩⟩
  ·have hb1 := cond_t hc2 hb1
   refine q_cond_t hF rfl hc2 (q_skipc (n_sq (q_seq (q_block (q_region (q_x (v := s9.v) hF hS (ex_move rfl) rfl rfl fun a hF => q_x (v := (.pointer (some ⟨b_p_c, 0, none⟩))) hF hS (ex_move rfl) rfl rfl fun a hF => q_x (v := (.agg #[s2.v])) hF hS (ex_loadA (vs := [s2.v]) 2 0 Try.underlying26 rfl sz26 rfl rfl rfl rfl) rfl rfl fun a hF => q_x (v := s3.v) hF hS (ex_move rfl) rfl rfl fun a hF => ?_))))))
   have hS : St _ _ _ _ [[⟨b_p_c, [s1.v, (.int .i64 p_c_11.at_), (.int .u64 p_c_11.seed.v)], 65⟩], q9, [⟨b4, [s2.v], 26⟩]] := hS.sel [1, 0, 2] (by decide)
   have hS14 : St _ _ _ _ ([[⟨b_p_c, [s1.v, (.int .i64 p_c_11.at_), (.int .u64 p_c_11.seed.v)], 65⟩]] ++ [q9, [⟨b4, [s2.v], 26⟩]]) := hS
   have hE14 := hS14.enter
   obtain ⟨t_15, ht_15, hb1⟩ := bindS hb1
   refine q_do rfl fun _ hK => wp_callX (vs := [(.pointer (some ⟨b_p_c, 0, none⟩)), (.agg #[s2.v]), s3.v]) hF Try.func76 (by kernel_rfl) rfl rfl rfl (c_spec_l1Cur_table p_c_11 p_g p_s t_15 ht_15 _ m13 b_p_c s1 h12 s2 (h2.mono hm13.le) s3 (h3.mono hm13.le) _ hE14) fun a w _ hR hF => hK _ _ ?_
   obtain ⟨q16, q17, s16, s17, rfl, hR14, h16, h17, hk18⟩ := hR
   have hS : St _ _ _ _ [[⟨b_p_c, [s1.v, (.int .i64 t_15.2.at_), (.int .u64 t_15.2.seed.v)], 65⟩], q16, q17, q9, [⟨b4, [s2.v], 26⟩]] := hS14.leaveF hR14
   have h18 : Rd m13 s1 t_15.2.code := by rw [hk18]; exact h12
   have hS : St _ _ _ _ [q16, [⟨b_p_c, [s1.v, (.int .i64 t_15.2.at_), (.int .u64 t_15.2.seed.v)], 65⟩], q17, q9, [⟨b4, [s2.v], 26⟩]] := hS.sel [1, 0, 2, 3, 4] (by decide)
   obtain ⟨m20, hm20, hS, hz20⟩ := hS.freeze
   have h20 := h16.froz hm20.le hz20
   have hS : St _ _ _ _ [q17, [⟨b_p_c, [s1.v, (.int .i64 t_15.2.at_), (.int .u64 t_15.2.seed.v)], 65⟩], q9, [⟨b4, [s2.v], 26⟩]] := hS.sel [1, 0, 2, 3] (by decide)
   obtain ⟨m21, hm21, hS, hz21⟩ := hS.freeze
   have h21 := (h17.mono hm20.le).froz hm21.le hz21
   refine q_do rfl fun _ hK => wp_buildSlice' (l := ([t_15.1] : List impl_Table)) (cells := [(.int .i64 t_15.1.Level), s16.v, s17.v, (.int .i64 t_15.1.Sum)]) hF hS Try.underlying37 inf29 rfl rfl (by kernel_rfl) rfl rfl rfl ⟨⟨s16, s17, rfl, (h20.mono hm21.le), h21⟩, rfl⟩ rfl rfl fun a w q19 s19 hF hS h19 _ => hK _ _ ?_
   have hS : St _ _ _ _ [q9, q19, [⟨b_p_c, [s1.v, (.int .i64 t_15.2.at_), (.int .u64 t_15.2.seed.v)], 65⟩], [⟨b4, [s2.v], 26⟩]] := hS.sel [2, 0, 1, 3] (by decide)
   obtain ⟨l_22, hl_22, hb1⟩ := bindS hb1
   refine q_do rfl fun _ hK => wp_append hF hS ((h9.mono hm20.le).mono hm21.le) Try.underlying37 inf29 rfl rfl rfl rfl (h19.vw hS (j := 1) rfl) rfl (by decide) hl_22 rfl fun a w q23 s23 hF hS h23 => hK _ _ (q_x (v := s23.v) hF hS (ex_assign rfl) rfl rfl fun a hF => q_end (n_ib (n_sq (q_region (q_x (v := (.int .i64 k_10)) hF hS (ex_move rfl) rfl rfl fun a hF => q_x (v := (.int .i64 (w64 (k_10 - 1)))) hF hS (ex_ibin rfl rfl rfl) rfl rfl fun a hF => q_x (v := (.int .i64 (w64 (k_10 - 1)))) hF hS (ex_assign rfl) rfl rfl fun a hF => q_end ?_)))))
   obtain rfl := someI hb1
   exact ⟨rfl, m21, q23, s23, _, _, _, rfl, hF.sub ⟨rfl, rfl, rfl, rfl, rfl, trivial⟩, hS.mask [true, false, true, true], ((hm13.trans hm20).trans hm21), h23, ((h18.mono hm20.le).mono hm21.le), (hk18.trans h12k)⟩
 ·rintro e a w ⟨m28, q25, s25, l_24, p_c_26, rfl, rfl, hF, hS, hm28, h25, h27, h27k⟩
  refine x_ib (n_sq ?_)
  refine q_seq (q_seq (q_region (q_x (v := (.pointer (some ⟨b_p_c, 0, none⟩))) hF hS (ex_move rfl) rfl rfl fun a hF => ?_)))
  have hS : St _ _ _ _ [[⟨b_p_c, [s1.v, (.int .i64 p_c_26.at_), (.int .u64 p_c_26.seed.v)], 65⟩], q25, [⟨b4, [s2.v], 26⟩]] := hS.sel [1, 0, 2] (by decide)
  have hS29 : St _ _ _ _ ([[⟨b_p_c, [s1.v, (.int .i64 p_c_26.at_), (.int .u64 p_c_26.seed.v)], 65⟩]] ++ [q25, [⟨b4, [s2.v], 26⟩]]) := hS
  have hE29 := hS29.enter
  obtain ⟨t_30, ht_30, hr⟩ := bindS hr
  refine q_do rfl fun _ hK => wp_callX (vs := [(.pointer (some ⟨b_p_c, 0, none⟩)), (.int .i64 30)]) hF Try.func53 (by kernel_rfl) rfl rfl rfl (c_spec_l1Cur_pick p_c_26 30 t_30 ht_30 _ m28 b_p_c s1 h27 _ hE29) fun a w _ hR hF => hK _ _ ?_
  obtain ⟨rfl, hR29, hk31⟩ := hR
  have hS : St _ _ _ _ [[⟨b_p_c, [s1.v, (.int .i64 t_30.2.at_), (.int .u64 t_30.2.seed.v)], 65⟩], q25, [⟨b4, [s2.v], 26⟩]] := hS29.leaveF hR29
  have h31 : Rd m28 s1 t_30.2.code := by rw [hk31]; exact h27
  refine q_end (n_sq (q_block (q_seq (q_region (q_x (v := (.bool (t_30.1 == 0))) hF hS (ex_ibin rfl rfl rfl) rfl rfl fun a hF => q_x (v := (.bool (t_30.1 == 0))) hF hS (ex_assign rfl) rfl rfl fun a hF => q_end (n_sq ?_))))))
  obtain ⟨j3, hj3, hr⟩ := bindS hr
  refine q_join (fun a w => ∃ (m74 : Mem), ∃ (q71 : Piece), ∃ (s71 : Sl), ∃ l_70, ∃ p_c_72, j3 = (l_70, p_c_72) ∧ Fr a 49 [(7, s71.v)] ∧ St X w0 w m74 [q71, [⟨b_p_c, [s1.v, (.int .i64 p_c_72.at_), (.int .u64 p_c_72.seed.v)], 65⟩]] ∧ MLe X w0.heap.size m28 m74 ∧ OwnL m74 29 q71 s71 l_70 ∧ Rd m74 s1 p_c_72.code ∧ p_c_72.code = p_c.code) ?_ ?_
  ·rcases bcase (t_30.1 == 0) with hc4 | hc4
   ·have hj3 := cond_f hc4 hj3
    refine q_cond_f hF rfl hc4 (q_seq (q_region (q_x (v := (.bool (t_30.1 == 1))) hF hS (ex_ibin rfl rfl rfl) rfl rfl fun a hF => q_x (v := (.bool (t_30.1 == 1))) hF hS (ex_assign rfl) rfl rfl fun a hF => q_end (n_sq ?_))))
    obtain ⟨j5, hj5, hj3⟩ := bindS hj3
    refine q_join (fun a w => ∃ (m46 : Mem), ∃ (q43 : Piece), ∃ (s43 : Sl), ∃ l_42, ∃ p_c_44, j5 = (l_42, p_c_44) ∧ Fr a 49 [(7, s43.v)] ∧ St X w0 w m46 [q43, [⟨b_p_c, [s1.v, (.int .i64 p_c_44.at_), (.int .u64 p_c_44.seed.v)], 65⟩]] ∧ MLe X w0.heap.size m28 m46 ∧ OwnL m46 29 q43 s43 l_42 ∧ Rd m46 s1 p_c_44.code ∧ p_c_44.code = p_c.code) ?_ ?_
    ·rcases bcase (t_30.1 == 1) with hc6 | hc6
     ·have hj5 := cond_f hc6 hj5
      refine q_cond_f hF rfl hc6 (q_skipc (n_jn ?_))
      obtain rfl := someI hj5
      exact ⟨m28, q25, s25, _, _, rfl, hF.sub ⟨rfl, trivial⟩, hS.sel [1, 0] (by decide), (MLe.refl _ _), h25, h31, (hk31.trans h27k)⟩
     ·have hj5 := cond_t hc6 hj5
      refine q_cond_t hF rfl hc6 (q_region (q_x (v := s25.v) hF hS (ex_move rfl) rfl rfl fun a hF => q_x (v := (.pointer (some ⟨b_p_c, 0, none⟩))) hF hS (ex_move rfl) rfl rfl fun a hF => q_x (v := (.agg #[s2.v])) hF hS (ex_loadA (vs := [s2.v]) 2 0 Try.underlying26 rfl sz26 rfl rfl rfl rfl) rfl rfl fun a hF => q_x (v := s3.v) hF hS (ex_move rfl) rfl rfl fun a hF => ?_))
      have hS32 : St _ _ _ _ ([[⟨b_p_c, [s1.v, (.int .i64 t_30.2.at_), (.int .u64 t_30.2.seed.v)], 65⟩]] ++ [q25, [⟨b4, [s2.v], 26⟩]]) := hS
      have hE32 := hS32.enter
      obtain ⟨t_33, ht_33, hj5⟩ := bindS hj5
      refine q_do rfl fun _ hK => wp_callX (vs := [(.pointer (some ⟨b_p_c, 0, none⟩)), (.agg #[s2.v]), s3.v]) hF Try.func41 (by kernel_rfl) rfl rfl rfl (c_spec_l1Cur_anyTable t_30.2 p_g p_s t_33 ht_33 _ m28 b_p_c s1 h31 s2 (h2.mono hm28.le) s3 (h3.mono hm28.le) _ hE32) fun a w _ hR hF => hK _ _ ?_
      obtain ⟨q34, q35, s34, s35, rfl, hR32, h34, h35, hk36⟩ := hR
      have hS : St _ _ _ _ [[⟨b_p_c, [s1.v, (.int .i64 t_33.2.at_), (.int .u64 t_33.2.seed.v)], 65⟩], q34, q35, q25, [⟨b4, [s2.v], 26⟩]] := hS32.leaveF hR32
      have h36 : Rd m28 s1 t_33.2.code := by rw [hk36]; exact h31
      have hS : St _ _ _ _ [q34, [⟨b_p_c, [s1.v, (.int .i64 t_33.2.at_), (.int .u64 t_33.2.seed.v)], 65⟩], q35, q25, [⟨b4, [s2.v], 26⟩]] := hS.sel [1, 0, 2, 3, 4] (by decide)
      obtain ⟨m38, hm38, hS, hz38⟩ := hS.freeze
      have h38 := h34.froz hm38.le hz38
      have hS : St _ _ _ _ [q35, [⟨b_p_c, [s1.v, (.int .i64 t_33.2.at_), (.int .u64 t_33.2.seed.v)], 65⟩], q25, [⟨b4, [s2.v], 26⟩]] := hS.sel [1, 0, 2, 3] (by decide)
      obtain ⟨m39, hm39, hS, hz39⟩ := hS.freeze
      have h39 := (h35.mono hm38.le).froz hm39.le hz39
      refine q_do rfl fun _ hK => wp_buildSlice' (l := ([t_33.1] : List impl_Table)) (cells := [(.int .i64 t_33.1.Level), s34.v, s35.v, (.int .i64 t_33.1.Sum)]) hF hS Try.underlying37 inf29 rfl rfl (by kernel_rfl) rfl rfl rfl ⟨⟨s34, s35, rfl, (h38.mono hm39.le), h39⟩, rfl⟩ rfl rfl fun a w q37 s37 hF hS h37 _ => hK _ _ ?_
      have hS : St _ _ _ _ [q25, q37, [⟨b_p_c, [s1.v, (.int .i64 t_33.2.at_), (.int .u64 t_33.2.seed.v)], 65⟩], [⟨b4, [s2.v], 26⟩]] := hS.sel [2, 0, 1, 3] (by decide)
      obtain ⟨l_40, hl_40, hj5⟩ := bindS hj5
      refine q_do rfl fun _ hK => wp_append hF hS ((h25.mono hm38.le).mono hm39.le) Try.underlying37 inf29 rfl rfl rfl rfl (h37.vw hS (j := 1) rfl) rfl (by decide) hl_40 rfl fun a w q41 s41 hF hS h41 => hK _ _ (q_x (v := s41.v) hF hS (ex_assign rfl) rfl rfl fun a hF => q_end (n_jn ?_))
      obtain rfl := someI hj5
      exact ⟨m39, q41, s41, _, _, rfl, hF.sub ⟨rfl, trivial⟩, hS.mask [true, false, true, false], (hm38.trans hm39), h41, ((h36.mono hm38.le).mono hm39.le), (hk36.trans (hk31.trans h27k))⟩
    ·rintro a w ⟨m46, q43, s43, l_42, p_c_44, rfl, hF, hS, hm46, h43, h45, h45k⟩
     refine n_jn ?_
     obtain rfl := someI hj3
     exact ⟨m46, q43, s43, _, _, rfl, hF.sub ⟨rfl, trivial⟩, hS, hm46, h43, h45, h45k⟩
   ·have hj3 := cond_t hc4 hj3
    refine q_cond_t hF rfl hc4 (q_block ?_)
    obtain ⟨o7, hl7, hj3⟩ := bindS hj3
    refine q_loop (fun (s : (List impl_Table) × spec_l1Cur) a w => ∃ (m51 : Mem), ∃ (q48 : Piece), ∃ (s48 : Sl), ∃ l_47, ∃ p_c_49, s = (l_47, p_c_49) ∧ Fr a 49 [(0, (.pointer (some ⟨b_p_c, 0, none⟩))), (2, s3.v), (4, (.pointer (some ⟨b4, 0, none⟩))), (7, s48.v)] ∧ St X w0 w m51 [q48, [⟨b_p_c, [s1.v, (.int .i64 p_c_49.at_), (.int .u64 p_c_49.seed.v)], 65⟩], [⟨b4, [s2.v], 26⟩]] ∧ MLe X w0.heap.size m28 m51 ∧ OwnL m51 29 q48 s48 l_47 ∧ Rd m51 s1 p_c_49.code ∧ p_c_49.code = p_c.code) (fun (o : (List impl_Table) × spec_l1Cur) e a w => ∃ (m69 : Mem), ∃ (q66 : Piece), ∃ (s66 : Sl), ∃ l_65, ∃ p_c_67, o = (l_65, p_c_67) ∧ e = .exit 3 ∧ Fr a 49 [(7, s66.v)] ∧ St X w0 w m69 [q66, [⟨b_p_c, [s1.v, (.int .i64 p_c_67.at_), (.int .u64 p_c_67.seed.v)], 65⟩]] ∧ MLe X w0.heap.size m28 m69 ∧ OwnL m69 29 q66 s66 l_65 ∧ Rd m69 s1 p_c_67.code ∧ p_c_67.code = p_c.code) hl7 ⟨m28, q25, s25, _, _, rfl, hF.sub ⟨rfl, rfl, rfl, rfl, trivial⟩, hS.sel [1, 0, 2] (by decide), (MLe.refl _ _), h25, h31, (hk31.trans h27k)⟩ ?_ ?_
    ·clear hF hS
     rintro s a w st ⟨m51, q48, s48, l_47, p_c_49, rfl, hF, hS, hm51, h48, h50, h50k⟩ hb7
     unfold spec_l1Cur_tables_l2 at hb7
     refine q_seq (q_seq (q_region (q_x (v := s48.v) hF hS (ex_move rfl) rfl rfl fun a hF => q_x (v := (.int .i64 (goLen l_47))) hF hS (ex_len Try.underlying37 rfl h48.len) rfl rfl fun a hF => q_x (v := (.pointer (some ⟨b_p_c, 0, none⟩))) hF hS (ex_move rfl) rfl rfl fun a hF => ?_)))
     have hS : St _ _ _ _ [[⟨b_p_c, [s1.v, (.int .i64 p_c_49.at_), (.int .u64 p_c_49.seed.v)], 65⟩], q48, [⟨b4, [s2.v], 26⟩]] := hS.sel [1, 0, 2] (by decide)
     have hS52 : St _ _ _ _ ([[⟨b_p_c, [s1.v, (.int .i64 p_c_49.at_), (.int .u64 p_c_49.seed.v)], 65⟩]] ++ [q48, [⟨b4, [s2.v], 26⟩]]) := hS
     have hE52 := hS52.enter
     obtain ⟨t_53, ht_53, hb7⟩ := bindS hb7
     refine q_do rfl fun _ hK => wp_callX (vs := [(.pointer (some ⟨b_p_c, 0, none⟩)), (.int .i64 2)]) hF Try.func53 (by kernel_rfl) rfl rfl rfl (c_spec_l1Cur_pick p_c_49 2 t_53 ht_53 _ m51 b_p_c s1 h50 _ hE52) fun a w _ hR hF => hK _ _ ?_
     obtain ⟨rfl, hR52, hk54⟩ := hR
     have hS : St _ _ _ _ [[⟨b_p_c, [s1.v, (.int .i64 t_53.2.at_), (.int .u64 t_53.2.seed.v)], 65⟩], q48, [⟨b4, [s2.v], 26⟩]] := hS52.leaveF hR52
     have h54 : Rd m51 s1 t_53.2.code := by rw [hk54]; exact h50
     refine q_x (v := (.int .i64 (w64 (20 + t_53.1)))) hF hS (ex_ibin rfl rfl rfl) rfl rfl fun a hF => q_x (v := (.bool (decide ((goLen l_47) < (w64 (20 + t_53.1)))))) hF hS (ex_ibin rfl rfl rfl) rfl rfl fun a hF => q_end (n_sq ?_)
     rcases bcase (decide ((goLen l_47) < (w64 (20 + t_53.1)))) with hc8 | hc8
     ·have hb7 := cond_f hc8 hb7
      refine q_cond_f hF rfl hc8 (q_exit (x_sq ?_))
      obtain rfl := someI hb7
      exact ⟨nofun, .inl ⟨m51, q48, s48, _, _, rfl, rfl, hF.sub ⟨rfl, trivial⟩, hS.sel [1, 0] (by decide), hm51, h48, h54, (hk54.trans h50k)⟩⟩
     ·have hb7 := cond_t hc8 hb7
      refine q_cond_t hF rfl hc8 (q_skipc (n_sq (q_block (q_region (q_x (v := s48.v) hF hS (ex_move rfl) rfl rfl fun a hF => q_x (v := (.pointer (some ⟨b_p_c, 0, none⟩))) hF hS (ex_move rfl) rfl rfl fun a hF => q_x (v := (.agg #[s2.v])) hF hS (ex_loadA (vs := [s2.v]) 2 0 Try.underlying26 rfl sz26 rfl rfl rfl rfl) rfl rfl fun a hF => q_x (v := s3.v) hF hS (ex_move rfl) rfl rfl fun a hF => ?_)))))
      have hS55 : St _ _ _ _ ([[⟨b_p_c, [s1.v, (.int .i64 t_53.2.at_), (.int .u64 t_53.2.seed.v)], 65⟩]] ++ [q48, [⟨b4, [s2.v], 26⟩]]) := hS
      have hE55 := hS55.enter
      obtain ⟨t_56, ht_56, hb7⟩ := bindS hb7
      refine q_do rfl fun _ hK => wp_callX (vs := [(.pointer (some ⟨b_p_c, 0, none⟩)), (.agg #[s2.v]), s3.v]) hF Try.func76 (by kernel_rfl) rfl rfl rfl (c_spec_l1Cur_table t_53.2 p_g p_s t_56 ht_56 _ m51 b_p_c s1 h54 s2 ((h2.mono hm28.le).mono hm51.le) s3 ((h3.mono hm28.le).mono hm51.le) _ hE55) fun a w _ hR hF => hK _ _ ?_
      obtain ⟨q57, q58, s57, s58, rfl, hR55, h57, h58, hk59⟩ := hR
      have hS : St _ _ _ _ [[⟨b_p_c, [s1.v, (.int .i64 t_56.2.at_), (.int .u64 t_56.2.seed.v)], 65⟩], q57, q58, q48, [⟨b4, [s2.v], 26⟩]] := hS55.leaveF hR55
      have h59 : Rd m51 s1 t_56.2.code := by rw [hk59]; exact h54
      have hS : St _ _ _ _ [q57, [⟨b_p_c, [s1.v, (.int .i64 t_56.2.at_), (.int .u64 t_56.2.seed.v)], 65⟩], q58, q48, [⟨b4, [s2.v], 26⟩]] := hS.sel [1, 0, 2, 3, 4] (by decide)
      obtain ⟨m61, hm61, hS, hz61⟩ := hS.freeze
      have h61 := h57.froz hm61.le hz61
      have hS : St _ _ _ _ [q58, [⟨b_p_c, [s1.v, (.int .i64 t_56.2.at_), (.int .u64 t_56.2.seed.v)], 65⟩], q48, [⟨b4, [s2.v], 26⟩]] := hS.sel [1, 0, 2, 3] (by decide)
      obtain ⟨m62, hm62, hS, hz62⟩ := hS.freeze
      have h62 := (h58.mono hm61.le).froz hm62.le hz62
      refine q_do rfl fun _ hK => wp_buildSlice' (l := ([t_56.1] : List impl_Table)) (cells := [(.int .i64 t_56.1.Level), s57.v, s58.v, (.int .i64 t_56.1.Sum)]) hF hS Try.underlying37 inf29 rfl rfl (by kernel_rfl) rfl rfl rfl ⟨⟨s57, s58, rfl, (h61.mono hm62.le), h62⟩, rfl⟩ rfl rfl fun a w q60 s60 hF hS h60 _ => hK _ _ ?_
      have hS : St _ _ _ _ [q48, q60, [⟨b_p_c, [s1.v, (.int .i64 t_56.2.at_), (.int .u64 t_56.2.seed.v)], 65⟩], [⟨b4, [s2.v], 26⟩]] := hS.sel [2, 0, 1, 3] (by decide)
      obtain ⟨l_63, hl_63, hb7⟩ := bindS hb7
      refine q_do rfl fun _ hK => wp_append hF hS ((h48.mono hm61.le).mono hm62.le) Try.underlying37 inf29 rfl rfl rfl rfl (h60.vw hS (j := 1) rfl) rfl (by decide) hl_63 rfl fun a w q64 s64 hF hS h64 => hK _ _ (q_x (v := s64.v) hF hS (ex_assign rfl) rfl rfl fun a hF => q_end (n_ib ?_))
      obtain rfl := someI hb7
      exact ⟨rfl, m62, q64, s64, _, _, rfl, hF.sub ⟨rfl, rfl, rfl, rfl, trivial⟩, hS.mask [true, false, true, true], ((hm51.trans hm61).trans hm62), h64, ((h59.mono hm61.le).mono hm62.le), (hk59.trans (hk54.trans h50k))⟩
    ·rintro e a w ⟨m69, q66, s66, l_65, p_c_67, rfl, rfl, hF, hS, hm69, h66, h68, h68k⟩
     refine x_ib (n_jn ?_)
     obtain rfl := someI hj3
     exact ⟨m69, q66, s66, _, _, rfl, hF.sub ⟨rfl, trivial⟩, hS, hm69, h66, h68, h68k⟩
  ·rintro a w ⟨m74, q71, s71, l_70, p_c_72, rfl, hF, hS, hm74, h71, h73, h73k⟩
   refine n_ib (n_sq ?_)
   refine q_seq (q_region (q_x (v := s71.v) hF hS (ex_move rfl) rfl rfl fun a hF => q_x (v := s71.v) hF hS (ex_assign rfl) rfl rfl fun a hF => q_end (n_sq (q_ret ?_))))
   obtain rfl := someI hr
   exact ret_ofX hF hS rfl (.tmp rfl .nil) ⟨m74, q71, s71, rfl, (hm28.trans hm74), hS.sel [1, 0] (by decide), h71, h73k⟩

theorem c_spec_DrawPlanText (p_code : List (K .u8)) (r : impl_Geo × (List impl_Variable) × (List impl_Table)) (hr : spec_DrawPlanText p_code = some r) (w0 : World) (m : Mem) (hv : Vis m w0) (s1 : Sl) (h1 : Rd m s1 p_code) :
  Ret Try.prog 74 [s1.v] w0 (fun v w => ∃ (m' : Mem) (q2' : Piece) (s0' : Sl) (s1' : Sl) (s2' : Sl), v = (.tuple #[(.agg #[s0'.v]), s1'.v, s2'.v]) ∧ MLe [] w0.heap.size m m' ∧ St [] w0 w m' [q2'] ∧ Rd m' s0' r.1.Parents ∧ Rd m' s1' r.2.1 ∧ OwnL m' 29 q2' s2' r.2.2) := by
 unfold spec_DrawPlanText at hr
 refine ret_start Try.func74 rfl 24 rfl rfl m hv fun a hF hS => q_seq (q_region (q_alloc (cs := [nilS.v]) hF hS rfl rfl rfl fun a w b2 hF hS => q_x (v := nilS.v) hF hS (ex_assign rfl) rfl rfl fun a hF => q_x (v := nilS.v) hF hS (ex_assign rfl) rfl rfl fun a hF => q_end (n_sq (q_seq (q_region (q_x (v := s1.v) hF hS (ex_move rfl) rfl rfl fun a hF => q_x (v := (.agg #[s1.v, (.int .i64 0), (.int .u64 0)])) hF hS (ex_build (cells := [s1.v, (.int .i64 0), (.int .u64 0)]) rfl (by kernel_rfl)) rfl rfl fun a hF => q_box (cs := [s1.v, (.int .i64 0), (.int .u64 0)]) hF hS rfl rfl rfl fun a w b3 hF hS => q_x (v := (.pointer (some ⟨b3, 0, none⟩))) hF hS (ex_assign rfl) rfl rfl fun a hF => q_end (n_sq (q_seq (q_region (q_x (v := (.pointer (some ⟨b3, 0, none⟩))) hF hS (ex_move rfl) rfl rfl fun a hF => ?_))))))))))
 have hS4 : St _ _ _ _ ([[⟨b3, [s1.v, (.int .i64 0), (.int .u64 0)], 65⟩]] ++ [[⟨b2, [nilS.v], 26⟩]]) := hS
 have hE4 := hS4.enter
 obtain ⟨t_5, ht_5, hr⟩ := bindS hr
 refine q_do rfl fun _ hK => wp_callX (vs := [(.pointer (some ⟨b3, 0, none⟩))]) hF Try.func54 (by kernel_rfl) rfl rfl rfl (c_spec_l1Cur_anySurvey (spec_l1Cur.mk p_code 0 (⟨0⟩ : K .u64)) t_5 ht_5 _ m b3 s1 h1 _ hE4) fun a w _ hR hF => hK _ _ ?_
 obtain ⟨m4', q6, q8, s6, s7, s8, rfl, hm4, hR4, h6, h7, h8, hk9⟩ := hR
 have hS : St _ _ _ _ [[⟨b3, [s1.v, (.int .i64 t_5.2.2.2.at_), (.int .u64 t_5.2.2.2.seed.v)], 65⟩], q6, q8, [⟨b2, [nilS.v], 26⟩]] := hS4.leave hR4 hm4
 have hm4 := MLe.weakX hS4 hm4
 have h9 : Rd m4' s1 t_5.2.2.2.code := by rw [hk9]; exact (h1.mono hm4.le)
 refine q_x (v := (.tuple #[(.agg #[s6.v]), s7.v, s8.v])) hF hS (ex_move rfl) rfl rfl fun a hF => q_x (v := (.agg #[s6.v])) hF hS (ex_extract rfl rfl) rfl rfl fun a hF => q_x (v := s7.v) hF hS (ex_extract rfl rfl) rfl rfl fun a hF => q_x (v := s8.v) hF hS (ex_extract rfl rfl) rfl rfl fun a hF => q_alloc (cs := [nilS.v]) hF hS rfl rfl rfl fun a w b10 hF hS => q_store (vs := [s6.v]) (cs' := [s6.v]) 0 0 hF hS sz26 rfl rfl rfl rfl rfl rfl rfl rfl fun a w hF hS => q_x (v := s7.v) hF hS (ex_assign rfl) rfl rfl fun a hF => q_x (v := s8.v) hF hS (ex_assign rfl) rfl rfl fun a hF => q_end (n_sq (q_seq (e_region ⟨[5, 6], [b10]⟩ mixed fun w' hw' => ?_)))
 have hS := hS.below hw'
 refine e_xb (v := (.agg #[s6.v])) 0 0 hF hS (.head _) rfl rfl (ex_loadA (vs := [s6.v]) 0 0 Try.underlying26 rfl sz26 rfl rfl rfl rfl) rfl rfl (by kernel_rfl) (by kernel_rfl) (by kernel_rfl) fun a hF => e_p (v := s7.v) 1 hF rfl (ex_move rfl) rfl rfl (by kernel_rfl) (by kernel_rfl) (by kernel_rfl) fun a hF => e_p (v := (.pointer (some ⟨b3, 0, none⟩))) 2 hF rfl (ex_move rfl) rfl rfl (by kernel_rfl) (by kernel_rfl) (by kernel_rfl) fun a hF => e_xb (v := (.agg #[s6.v])) 3 0 hF hS (.head _) rfl rfl (ex_loadA (vs := [s6.v]) 0 0 Try.underlying26 rfl sz26 rfl rfl rfl rfl) rfl rfl (by kernel_rfl) (by kernel_rfl) (by kernel_rfl) fun a hF => e_p (v := s7.v) 4 hF rfl (ex_move rfl) rfl rfl (by kernel_rfl) (by kernel_rfl) (by kernel_rfl) fun a hF => e_one 5 (by kernel_rfl) ?_
 have hS : St _ _ _ _ [q6, [⟨b10, [s6.v], 26⟩], [⟨b3, [s1.v, (.int .i64 t_5.2.2.2.at_), (.int .u64 t_5.2.2.2.seed.v)], 65⟩], q8, [⟨b2, [nilS.v], 26⟩]] := hS.sel [2, 0, 1, 3, 4] (by decide)
 obtain ⟨m11, hm11, hS, hz11⟩ := hS.freeze
 have h11 := h6.froz hm11.le hz11
 have hS : St _ _ _ _ [[⟨b3, [s1.v, (.int .i64 t_5.2.2.2.at_), (.int .u64 t_5.2.2.2.seed.v)], 65⟩], [⟨b10, [s6.v], 26⟩], q8, [⟨b2, [nilS.v], 26⟩]] := hS.sel [1, 0, 2, 3] (by decide)
 have hS12 : St _ _ _ _ ([[⟨b3, [s1.v, (.int .i64 t_5.2.2.2.at_), (.int .u64 t_5.2.2.2.seed.v)], 65⟩]] ++ [[⟨b10, [s6.v], 26⟩], q8, [⟨b2, [nilS.v], 26⟩]]) := hS
 have hE12 := hS12.enter
 obtain ⟨t_13, ht_13, hr⟩ := bindS hr
 have hSo := hS
 refine e_opl rfl rfl rfl fun _ hK => wp_callX (vs := [(.pointer (some ⟨b3, 0, none⟩)), (.agg #[s6.v]), s7.v]) hF Try.func98 (by kernel_rfl) rfl rfl rfl (c_spec_l1Cur_tables t_5.2.2.2 t_5.1 t_5.2.1 t_13 ht_13 _ m11 b3 s1 (h9.mono hm11.le) s6 h11 s7 (h7.mono hm11.le) _ hE12) fun a w _ hR hF => hK _ _ ?_
 obtain ⟨m12', q14, s14, rfl, hm12, hR12, h14, hk15⟩ := hR
 have hS : St _ _ _ _ [[⟨b3, [s1.v, (.int .i64 t_13.2.at_), (.int .u64 t_13.2.seed.v)], 65⟩], q14, [⟨b10, [s6.v], 26⟩], q8, [⟨b2, [nilS.v], 26⟩]] := hS12.leave hR12 hm12
 have hm12 := MLe.weakX hS12 hm12
 have h15 : Rd m12' s1 t_13.2.code := by rw [hk15]; exact ((h9.mono hm11.le).mono hm12.le)
 refine ⟨kpC hSo hS 1 2 rfl rfl kpN, ?_⟩
 refine e_one 6 (by kernel_rfl) ?_
 have hSo := hS
 refine e_store (vs := [s6.v]) (cs' := [s6.v]) 4 0 hF hS rfl rfl sz26 rfl rfl rfl rfl rfl rfl rfl rfl fun a w hF hS => ⟨kpC hSo hS 2 2 rfl rfl kpN, ?_⟩
 refine e_p (v := s7.v) 7 hF rfl (ex_assign rfl) rfl rfl (by kernel_rfl) (by kernel_rfl) (by kernel_rfl) fun a hF => e_p (v := s14.v) 8 hF rfl (ex_assign rfl) rfl rfl (by kernel_rfl) (by kernel_rfl) (by kernel_rfl) fun a hF => e_end (by kernel_rfl) (n_sq (q_ret ?_)) _
 obtain rfl := someI hr
 exact ret_of hF hS rfl (.cellA (us := [s6.v]) 4 0 Try.underlying26 rfl sz26 rfl rfl rfl rfl (.tmp rfl (.tmp rfl .nil))) ⟨m12', q14, s6, s7, s14, rfl, ((hm4.trans hm11).trans hm12), hS.sel [1] (by decide), (h11.mono hm12.le), ((h7.mono hm11.le).mono hm12.le), h14⟩

theorem c_spec_DrawSourcesIn (p_code : List (K .u8)) (r : impl_Geo × (List impl_Variable) × (List impl_Table)) (hr : spec_DrawSourcesIn p_code = some r) (w0 : World) (m : Mem) (hv : Vis m w0) (s1 : Sl) (h1 : Rd m s1 p_code) :
  Ret Try.prog 38 [s1.v] w0 (fun v w => ∃ (m' : Mem) (q2' : Piece) (s0' : Sl) (s1' : Sl) (s2' : Sl), v = (.tuple #[(.agg #[s0'.v]), s1'.v, s2'.v]) ∧ MLe [] w0.heap.size m m' ∧ St [] w0 w m' [q2'] ∧ Rd m' s0' r.1.Parents ∧ Rd m' s1' r.2.1 ∧ OwnL m' 29 q2' s2' r.2.2) := by
 unfold spec_DrawSourcesIn at hr
 refine ret_start Try.func38 rfl 38 rfl rfl m hv fun a hF hS => q_seq (q_region (q_alloc (cs := [nilS.v]) hF hS rfl rfl rfl fun a w b2 hF hS => q_x (v := nilS.v) hF hS (ex_assign rfl) rfl rfl fun a hF => q_x (v := nilS.v) hF hS (ex_assign rfl) rfl rfl fun a hF => q_end (n_sq (q_seq (q_region (q_x (v := s1.v) hF hS (ex_move rfl) rfl rfl fun a hF => q_x (v := (.agg #[s1.v, (.int .i64 0), (.int .u64 0)])) hF hS (ex_build (cells := [s1.v, (.int .i64 0), (.int .u64 0)]) rfl (by kernel_rfl)) rfl rfl fun a hF => q_box (cs := [s1.v, (.int .i64 0), (.int .u64 0)]) hF hS rfl rfl rfl fun a w b3 hF hS => q_x (v := (.pointer (some ⟨b3, 0, none⟩))) hF hS (ex_assign rfl) rfl rfl fun a hF => q_end (n_sq (q_seq (q_region (q_x (v := s1.v) hF hS (ex_move rfl) rfl rfl fun a hF => ?_))))))))))
 obtain ⟨t_4, ht_4, hr⟩ := bindS hr
 refine q_call (vs := [s1.v]) hF hS Try.func74 (by kernel_rfl) rfl rfl rfl (c_spec_DrawPlanText p_code t_4 ht_4 _ m hS.vis s1 h1) ?_
 have hT := hS
 rintro a w _ ⟨m5, q8, s6, s7, s8, rfl, hm5, hR5, h6, h7, h8⟩ hF hS2
 have hS : St _ _ _ _ [q8, [⟨b3, [s1.v, (.int .i64 0), (.int .u64 0)], 65⟩], [⟨b2, [nilS.v], 26⟩]] := hS.join hR5 hm5
 have hm5 := MLe.weakX (O0 := []) hT hm5
 refine q_x (v := (.tuple #[(.agg #[s6.v]), s7.v, s8.v])) hF hS (ex_move rfl) rfl rfl fun a hF => q_x (v := (.agg #[s6.v])) hF hS (ex_extract rfl rfl) rfl rfl fun a hF => q_x (v := s7.v) hF hS (ex_extract rfl rfl) rfl rfl fun a hF => q_x (v := s8.v) hF hS (ex_extract rfl rfl) rfl rfl fun a hF => q_alloc (cs := [nilS.v]) hF hS rfl rfl rfl fun a w b9 hF hS => q_store (vs := [s6.v]) (cs' := [s6.v]) 0 0 hF hS sz26 rfl rfl rfl rfl rfl rfl rfl rfl fun a w hF hS => q_x (v := s7.v) hF hS (ex_assign rfl) rfl rfl fun a hF => q_x (v := s8.v) hF hS (ex_assign rfl) rfl rfl fun a hF => q_end (n_sq (q_seq (q_seq ?_)))
 obtain ⟨j1, hj1, hr⟩ := bindS hr
 refine q_join (fun a w => ∃ t_13, ∃ t_14, j1 = (t_13, t_14) ∧ Fr a 38 [(2, (.pointer (some ⟨b2, 0, none⟩))), (5, (.pointer (some ⟨b3, 0, none⟩))), (6, (.pointer (some ⟨b9, 0, none⟩))), (7, s7.v), (8, s8.v), (24, (.bool t_13))] ∧ St [] w0 w m5 [q8, [⟨b9, [s6.v], 26⟩], [⟨b3, [s1.v, (.int .i64 t_14.at_), (.int .u64 t_14.seed.v)], 65⟩], [⟨b2, [nilS.v], 26⟩]] ∧ Rd m5 s1 t_14.code ∧ t_14.code = p_code) ?_ ?_
 ·refine q_region (q_x (v := s8.v) hF hS (ex_move rfl) rfl rfl fun a hF => q_x (v := (.int .i64 (goLen t_4.2.2))) hF hS (ex_len Try.underlying37 rfl h8.len) rfl rfl fun a hF => q_x (v := (.bool (decide (0 < (goLen t_4.2.2))))) hF hS (ex_ibin rfl rfl rfl) rfl rfl fun a hF => q_x (v := (.bool (decide (0 < (goLen t_4.2.2))))) hF hS (ex_move rfl) rfl rfl fun a hF => ?_)
  rcases bcase (decide (0 < (goLen t_4.2.2))) with hc2 | hc2
  ·have hj1 := cond_f hc2 hj1
   refine q_skip hF (wanted_f hF rfl rfl rfl hc2 rfl) rfl fun a hF => q_skip hF (wanted_f hF rfl rfl rfl hc2 rfl) rfl fun a hF => q_x (v := (.bool false)) hF hS (ex_pick_f rfl rfl hc2) rfl rfl fun a hF => q_end (n_jn ?_)
   obtain rfl := someI hj1
   exact ⟨_, _, rfl, hF.sub ⟨rfl, rfl, rfl, rfl, rfl, rfl, trivial⟩, hS.sel [1, 0, 2, 3] (by decide), (h1.mono hm5.le), rfl⟩
  ·have hj1 := cond_t hc2 hj1
   refine q_xg (v := (.pointer (some ⟨b3, 0, none⟩))) hF hS (ex_move rfl) (wanted_t hF rfl rfl rfl hc2) rfl fun a hF => ?_
   have hS : St _ _ _ _ [[⟨b3, [s1.v, (.int .i64 0), (.int .u64 0)], 65⟩], [⟨b9, [s6.v], 26⟩], q8, [⟨b2, [nilS.v], 26⟩]] := hS.sel [2, 0, 1, 3] (by decide)
   have hS10 : St _ _ _ _ ([[⟨b3, [s1.v, (.int .i64 0), (.int .u64 0)], 65⟩]] ++ [[⟨b9, [s6.v], 26⟩], q8, [⟨b2, [nilS.v], 26⟩]]) := hS
   have hE10 := hS10.enter
   obtain ⟨t_11, ht_11, hj1⟩ := bindS hj1
   refine q_dog (wanted_t hF rfl rfl rfl hc2) fun _ hK => wp_callX (vs := [(.pointer (some ⟨b3, 0, none⟩)), (.int .i64 2)]) hF Try.func39 (by kernel_rfl) rfl rfl rfl (c_spec_l1Cur_one (spec_l1Cur.mk p_code 0 (⟨0⟩ : K .u64)) 2 t_11 ht_11 _ m5 b3 s1 (h1.mono hm5.le) _ hE10) fun a w _ hR hF => hK _ _ ?_
   obtain ⟨rfl, hR10, hk12⟩ := hR
   have hS : St _ _ _ _ [[⟨b3, [s1.v, (.int .i64 t_11.2.at_), (.int .u64 t_11.2.seed.v)], 65⟩], [⟨b9, [s6.v], 26⟩], q8, [⟨b2, [nilS.v], 26⟩]] := hS10.leaveF hR10
   have h12 : Rd m5 s1 t_11.2.code := by rw [hk12]; exact (h1.mono hm5.le)
   refine q_x (v := (.bool t_11.1)) hF hS (ex_pick_t rfl rfl hc2) rfl rfl fun a hF => q_end (n_jn ?_)
   obtain rfl := someI hj1
   exact ⟨_, _, rfl, hF.sub ⟨rfl, rfl, rfl, rfl, rfl, rfl, trivial⟩, hS.sel [2, 1, 0, 3] (by decide), h12, hk12⟩
 ·rintro a w ⟨t_13, t_14, rfl, hF, hS, h15, h15k⟩
  refine n_sq ?_
  obtain ⟨l_30, hj3, hr⟩ := bindS hr
  refine q_join (fun a w => ∃ (m32 : Mem), ∃ (q31 : Piece), ∃ (s31 : Sl), Fr a 38 [(2, (.pointer (some ⟨b2, 0, none⟩))), (6, (.pointer (some ⟨b9, 0, none⟩))), (7, s7.v), (8, s31.v)] ∧ St [] w0 w m32 [q31, [⟨b9, [s6.v], 26⟩], [⟨b2, [nilS.v], 26⟩]] ∧ MLe [] w0.heap.size m5 m32 ∧ OwnL m32 29 q31 s31 l_30) ?_ ?_
  ·rcases bcase (t_13) with hc4 | hc4
   ·have hj3 := cond_f hc4 hj3
    refine q_cond_f hF rfl hc4 (q_skipc (n_jn ?_))
    obtain rfl := someI hj3
    exact ⟨m5, q8, s8, hF.sub ⟨rfl, rfl, rfl, rfl, trivial⟩, hS.mask [true, true, false, true], (MLe.refl _ _), h8⟩
   ·have hj3 := cond_t hc4 hj3
    refine q_cond_t hF rfl hc4 (e_region ⟨[7, 9], [b9]⟩ mixed fun w' hw' => ?_)
    have hS := hS.below hw'
    refine e_p (v := s8.v) 0 hF rfl (ex_move rfl) rfl rfl (by kernel_rfl) (by kernel_rfl) (by kernel_rfl) fun a hF => e_p (v := (.pointer (some ⟨b3, 0, none⟩))) 1 hF rfl (ex_move rfl) rfl rfl (by kernel_rfl) (by kernel_rfl) (by kernel_rfl) fun a hF => e_xb (v := (.agg #[s6.v])) 2 1 hF hS (.head _) rfl rfl (ex_loadA (vs := [s6.v]) 0 0 Try.underlying26 rfl sz26 rfl rfl rfl rfl) rfl rfl (by kernel_rfl) (by kernel_rfl) (by kernel_rfl) fun a hF => e_p (v := s7.v) 3 hF rfl (ex_move rfl) rfl rfl (by kernel_rfl) (by kernel_rfl) (by kernel_rfl) fun a hF => e_p (v := s8.v) 4 hF rfl (ex_move rfl) rfl rfl (by kernel_rfl) (by kernel_rfl) (by kernel_rfl) fun a hF => ?_
    obtain ⟨e_16, he_16, hj3⟩ := bindS hj3
    obtain ⟨vs17, at17, d17⟩ := h8.at he_16 4 rfl
    obtain ⟨s18, s19, rfl, h18, h19⟩ : ∃ s18 s19 : Sl, vs17 = [(.int .i64 e_16.Level), s18.v, s19.v, (.int .i64 e_16.Sum)] ∧ Rd m5 s18 e_16.Vars ∧ Rd m5 s19 e_16.Where := d17
    refine e_p (v := (elP s8 ((0 : Int).toNat * 4))) 5 hF rfl (ex_indexAddr Try.underlying37 sz29 rfl rfl (h8.idx he_16)) rfl rfl (by kernel_rfl) (by kernel_rfl) (by kernel_rfl) fun a hF => e_one 6 (by kernel_rfl) (e_lx (v := (.agg #[(.int .i64 e_16.Level), s18.v, s19.v, (.int .i64 e_16.Sum)])) hF hS rfl (ex_loadEA (us := [(.int .i64 e_16.Level), s18.v, s19.v, (.int .i64 e_16.Sum)]) 0 Try.underlying29 rfl sz29 rfl (at17.at 0 rfl) rfl rfl rfl) rfl rfl fun a hF => e_one 7 (by kernel_rfl) ?_)
    have hS : St _ _ _ _ [[⟨b3, [s1.v, (.int .i64 t_14.at_), (.int .u64 t_14.seed.v)], 65⟩], q8, [⟨b9, [s6.v], 26⟩], [⟨b2, [nilS.v], 26⟩]] := hS.sel [2, 0, 1, 3] (by decide)
    have hS20 : St _ _ _ _ ([[⟨b3, [s1.v, (.int .i64 t_14.at_), (.int .u64 t_14.seed.v)], 65⟩]] ++ [q8, [⟨b9, [s6.v], 26⟩], [⟨b2, [nilS.v], 26⟩]]) := hS
    have hE20 := hS20.enter
    obtain ⟨t_21, ht_21, hj3⟩ := bindS hj3
    have hSo := hS
    refine e_opl rfl rfl rfl fun _ hK => wp_callX (vs := [(.pointer (some ⟨b3, 0, none⟩)), (.agg #[s6.v]), s7.v, (.agg #[(.int .i64 e_16.Level), s18.v, s19.v, (.int .i64 e_16.Sum)])]) hF Try.func40 (by kernel_rfl) rfl rfl rfl (c_spec_l1Cur_below t_14 t_4.1 t_4.2.1 e_16 t_21 ht_21 _ m5 b3 s1 h15 s6 h6 s7 h7 s18 h18 s19 h19 _ hE20) fun a w _ hR hF => hK _ _ ?_
    obtain ⟨q22, q23, s22, s23, rfl, hR20, h22, h23, hk24⟩ := hR
    have hS : St _ _ _ _ [[⟨b3, [s1.v, (.int .i64 t_21.2.at_), (.int .u64 t_21.2.seed.v)], 65⟩], q22, q23, q8, [⟨b9, [s6.v], 26⟩], [⟨b2, [nilS.v], 26⟩]] := hS20.leaveF hR20
    have h24 : Rd m5 s1 t_21.2.code := by rw [hk24]; exact h15
    refine ⟨kpC hSo hS 2 4 rfl rfl kpN, ?_⟩
    refine e_one 8 (by kernel_rfl) ?_
    have hS : St _ _ _ _ [q22, [⟨b3, [s1.v, (.int .i64 t_21.2.at_), (.int .u64 t_21.2.seed.v)], 65⟩], q23, q8, [⟨b9, [s6.v], 26⟩], [⟨b2, [nilS.v], 26⟩]] := hS.sel [1, 0, 2, 3, 4, 5] (by decide)
    obtain ⟨m26, hm26, hS, hz26⟩ := hS.freeze
    have h26 := h22.froz hm26.le hz26
    have hS : St _ _ _ _ [q23, [⟨b3, [s1.v, (.int .i64 t_21.2.at_), (.int .u64 t_21.2.seed.v)], 65⟩], q8, [⟨b9, [s6.v], 26⟩], [⟨b2, [nilS.v], 26⟩]] := hS.sel [1, 0, 2, 3, 4] (by decide)
    obtain ⟨m27, hm27, hS, hz27⟩ := hS.freeze
    have h27 := (h23.mono hm26.le).froz hm27.le hz27
    refine e_op rfl rfl fun _ hK => wp_buildSlice' (l := ([t_21.1] : List impl_Table)) (cells := [(.int .i64 t_21.1.Level), s22.v, s23.v, (.int .i64 t_21.1.Sum)]) hF hS Try.underlying37 inf29 rfl rfl (by kernel_rfl) rfl rfl rfl ⟨⟨s22, s23, rfl, (h26.mono hm27.le), h27⟩, rfl⟩ rfl rfl fun a w q25 s25 hF hS h25 hb => hK _ _ hb (e_one 9 (by kernel_rfl) ?_)
    have hS : St _ _ _ _ [q8, q25, [⟨b3, [s1.v, (.int .i64 t_21.2.at_), (.int .u64 t_21.2.seed.v)], 65⟩], [⟨b9, [s6.v], 26⟩], [⟨b2, [nilS.v], 26⟩]] := hS.sel [2, 0, 1, 3, 4] (by decide)
    obtain ⟨l_28, hl_28, hj3⟩ := bindS hj3
    have hSo := hS
    refine e_opl rfl rfl rfl fun _ hK => wp_append hF hS ((h8.mono hm26.le).mono hm27.le) Try.underlying37 inf29 rfl rfl rfl rfl (h25.vw hS (j := 1) rfl) rfl (by decide) hl_28 rfl fun a w q29 s29 hF hS h29 => hK _ _ (⟨kpC hSo hS 3 3 rfl rfl kpN, ?_⟩)
    refine e_p (v := s29.v) 10 hF rfl (ex_assign rfl) rfl rfl (by kernel_rfl) (by kernel_rfl) (by kernel_rfl) fun a hF => e_end (by kernel_rfl) (n_jn ?_) _
    obtain rfl := someI hj3
    exact ⟨m27, q29, s29, hF.sub ⟨rfl, rfl, rfl, rfl, trivial⟩, hS.mask [true, false, false, true, true], (hm26.trans hm27), h29⟩
  ·rintro a w ⟨m32, q31, s31, hF, hS, hm32, h31⟩
   refine n_sq ?_
   refine q_seq (q_region (q_x (v := (.agg #[s6.v])) hF hS (ex_loadA (vs := [s6.v]) 1 0 Try.underlying26 rfl sz26 rfl rfl rfl rfl) rfl rfl fun a hF => q_x (v := s7.v) hF hS (ex_move rfl) rfl rfl fun a hF => q_x (v := s31.v) hF hS (ex_move rfl) rfl rfl fun a hF => q_store (vs := [s6.v]) (cs' := [s6.v]) 2 0 hF hS sz26 rfl rfl rfl rfl rfl rfl rfl rfl fun a w hF hS => q_x (v := s7.v) hF hS (ex_assign rfl) rfl rfl fun a hF => q_x (v := s31.v) hF hS (ex_assign rfl) rfl rfl fun a hF => q_end (n_sq (q_ret ?_))))
   obtain rfl := someI hr
   exact ret_of hF hS rfl (.cellA (us := [s6.v]) 2 0 Try.underlying26 rfl sz26 rfl rfl rfl rfl (.tmp rfl (.tmp rfl .nil))) ⟨m32, q31, s6, s7, s31, rfl, (hm5.trans hm32), hS.sel [0] (by decide), (h6.mono hm32.le), (h7.mono hm32.le), h31⟩

theorem c_spec_DrawCoversPlan (p_code : List (K .u8)) (r : impl_Geo × (List impl_Variable) × (List impl_Table) × (List impl_Table)) (hr : spec_DrawCoversPlan p_code = some r) (w0 : World) (m : Mem) (hv : Vis m w0) (s1 : Sl) (h1 : Rd m s1 p_code) :
  Ret Try.prog 11 [s1.v] w0 (fun v w => ∃ (m' : Mem) (q2' : Piece) (q3' : Piece) (s0' : Sl) (s1' : Sl) (s2' : Sl) (s3' : Sl), v = (.tuple #[(.agg #[s0'.v]), s1'.v, s2'.v, s3'.v]) ∧ MLe [] w0.heap.size m m' ∧ St [] w0 w m' [q2', q3'] ∧ Rd m' s0' r.1.Parents ∧ Rd m' s1' r.2.1 ∧ OwnL m' 29 q2' s2' r.2.2.1 ∧ OwnL m' 29 q3' s3' r.2.2.2) := by
 unfold spec_DrawCoversPlan at hr
 refine ret_start Try.func11 rfl 52 rfl rfl m hv fun a hF hS => q_seq (q_region (q_alloc (cs := [nilS.v]) hF hS rfl rfl rfl fun a w b2 hF hS => q_x (v := nilS.v) hF hS (ex_assign rfl) rfl rfl fun a hF => q_x (v := nilS.v) hF hS (ex_assign rfl) rfl rfl fun a hF => q_x (v := nilS.v) hF hS (ex_assign rfl) rfl rfl fun a hF => q_end (n_sq (q_seq (q_region (q_x (v := s1.v) hF hS (ex_move rfl) rfl rfl fun a hF => q_x (v := (.agg #[s1.v, (.int .i64 0), (.int .u64 0)])) hF hS (ex_build (cells := [s1.v, (.int .i64 0), (.int .u64 0)]) rfl (by kernel_rfl)) rfl rfl fun a hF => q_box (cs := [s1.v, (.int .i64 0), (.int .u64 0)]) hF hS rfl rfl rfl fun a w b3 hF hS => q_x (v := (.pointer (some ⟨b3, 0, none⟩))) hF hS (ex_assign rfl) rfl rfl fun a hF => q_end (n_sq (q_seq (q_region (q_x (v := s1.v) hF hS (ex_move rfl) rfl rfl fun a hF => ?_))))))))))
 obtain ⟨t_4, ht_4, hr⟩ := bindS hr
 refine q_call (vs := [s1.v]) hF hS Try.func38 (by kernel_rfl) rfl rfl rfl (c_spec_DrawSourcesIn p_code t_4 ht_4 _ m hS.vis s1 h1) ?_
 have hT := hS
 rintro a w _ ⟨m5, q8, s6, s7, s8, rfl, hm5, hR5, h6, h7, h8⟩ hF hS2
 have hS : St _ _ _ _ [q8, [⟨b3, [s1.v, (.int .i64 0), (.int .u64 0)], 65⟩], [⟨b2, [nilS.v], 26⟩]] := hS.join hR5 hm5
 have hm5 := MLe.weakX (O0 := []) hT hm5
 refine q_x (v := (.tuple #[(.agg #[s6.v]), s7.v, s8.v])) hF hS (ex_move rfl) rfl rfl fun a hF => q_x (v := (.agg #[s6.v])) hF hS (ex_extract rfl rfl) rfl rfl fun a hF => q_x (v := s7.v) hF hS (ex_extract rfl rfl) rfl rfl fun a hF => q_x (v := s8.v) hF hS (ex_extract rfl rfl) rfl rfl fun a hF => q_alloc (cs := [nilS.v]) hF hS rfl rfl rfl fun a w b9 hF hS => q_store (vs := [s6.v]) (cs' := [s6.v]) 0 0 hF hS sz26 rfl rfl rfl rfl rfl rfl rfl rfl fun a w hF hS => q_x (v := s7.v) hF hS (ex_assign rfl) rfl rfl fun a hF => q_x (v := s8.v) hF hS (ex_assign rfl) rfl rfl fun a hF => q_end (n_sq (q_seq (q_region (q_x (v := nilS.v) hF hS (ex_assign rfl) rfl rfl fun a hF => q_end (n_sq (q_seq (q_seq (q_region (q_x (v := s8.v) hF hS (ex_move rfl) rfl rfl fun a hF => q_x (v := (.int .i64 (goLen t_4.2.2))) hF hS (ex_len Try.underlying37 rfl h8.len) rfl rfl fun a hF => q_x (v := (.int .i64 0)) hF hS (ex_move rfl) rfl rfl fun a hF => q_end (n_sq (q_block ?_)))))))))))
 obtain ⟨o1, hl1, hr⟩ := bindS hr
 refine q_loop (fun (s : (List impl_Table) × Int × spec_l1Cur) a w => ∃ (m15 : Mem), ∃ (q11 : Piece), ∃ (s11 : Sl), ∃ m_10, ∃ t_12, ∃ t_13, s = (m_10, t_12, t_13) ∧ Fr a 52 [(2, (.pointer (some ⟨b2, 0, none⟩))), (6, (.pointer (some ⟨b3, 0, none⟩))), (7, (.pointer (some ⟨b9, 0, none⟩))), (8, s7.v), (9, s8.v), (10, s11.v), (22, s8.v), (23, (.int .i64 (goLen t_4.2.2))), (24, (.int .i64 t_12))] ∧ St [] w0 w m15 [q11, [⟨b9, [s6.v], 26⟩], q8, [⟨b3, [s1.v, (.int .i64 t_13.at_), (.int .u64 t_13.seed.v)], 65⟩], [⟨b2, [nilS.v], 26⟩]] ∧ MLe [] w0.heap.size m5 m15 ∧ OwnL m15 29 q11 s11 m_10 ∧ Rd m15 s1 t_13.code ∧ t_13.code = p_code) (fun (o : (List impl_Table) × spec_l1Cur) e a w => ∃ (m43 : Mem), ∃ (q40 : Piece), ∃ (s40 : Sl), ∃ m_39, ∃ t_41, o = (m_39, t_41) ∧ e = .exit 0 ∧ Fr a 52 [(2, (.pointer (some ⟨b2, 0, none⟩))), (6, (.pointer (some ⟨b3, 0, none⟩))), (7, (.pointer (some ⟨b9, 0, none⟩))), (8, s7.v), (9, s8.v), (10, s40.v)] ∧ St [] w0 w m43 [q8, q40, [⟨b9, [s6.v], 26⟩], [⟨b3, [s1.v, (.int .i64 t_41.at_), (.int .u64 t_41.seed.v)], 65⟩], [⟨b2, [nilS.v], 26⟩]] ∧ MLe [] w0.heap.size m5 m43 ∧ OwnL m43 29 q40 s40 m_39 ∧ Rd m43 s1 t_41.code ∧ t_41.code = p_code) hl1 ⟨m5, [], nilS, _, _, _, rfl, hF.sub ⟨rfl, rfl, rfl, rfl, rfl, rfl, rfl, rfl, rfl, trivial⟩, hS.sel [4, 0, 1, 2, 3] (by decide), (MLe.refl _ _), (OwnL.nil (α := impl_Table) m5 29), (h1.mono hm5.le), rfl⟩ ?_ ?_
 ·clear hF hS
  rintro s a w st ⟨m15, q11, s11, m_10, t_12, t_13, rfl, hF, hS, hm15, h11, h14, h14k⟩ hb1
  unfold spec_DrawCoversPlan_l1 at hb1
  refine q_seq (q_region (q_x (v := (.bool (decide (t_12 < (goLen t_4.2.2))))) hF hS (ex_ibin rfl rfl rfl) rfl rfl fun a hF => q_end (n_sq (q_seq ?_))))
  rcases bcase (decide (t_12 < (goLen t_4.2.2))) with hc2 | hc2
  ·have hb1 := cond_f hc2 hb1
   refine q_cond_f hF rfl hc2 (q_exit (x_sq ?_))
   obtain rfl := someI hb1
   exact ⟨nofun, .inl ⟨m15, q11, s11, _, _, rfl, rfl, hF.sub ⟨rfl, rfl, rfl, rfl, rfl, rfl, trivial⟩, hS.sel [2, 0, 1, 3, 4] (by decide), hm15, h11, h14, h14k⟩⟩
  ·have hb1 := cond_t hc2 hb1
   refine q_cond_t hF rfl hc2 (q_skipc (n_sq (q_seq (q_block (q_seq (q_region ?_))))))
   obtain ⟨e_16, he_16, hb1⟩ := bindS hb1
   obtain ⟨vs17, at17, d17⟩ := (h8.mono hm15.le).at he_16 4 rfl
   obtain ⟨s18, s19, rfl, h18, h19⟩ : ∃ s18 s19 : Sl, vs17 = [(.int .i64 e_16.Level), s18.v, s19.v, (.int .i64 e_16.Sum)] ∧ Rd m15 s18 e_16.Vars ∧ Rd m15 s19 e_16.Where := d17
   refine q_x (v := (elP s8 (t_12.toNat * 4))) hF hS (ex_indexAddr Try.underlying37 sz29 rfl rfl ((h8.mono hm15.le).idx he_16)) rfl rfl fun a hF => q_x (v := (.agg #[(.int .i64 e_16.Level), s18.v, s19.v, (.int .i64 e_16.Sum)])) hF hS (ex_loadEA (us := [(.int .i64 e_16.Level), s18.v, s19.v, (.int .i64 e_16.Sum)]) 0 Try.underlying29 rfl sz29 rfl (at17.at 2 rfl) rfl rfl rfl) rfl rfl fun a hF => q_alloc (cs := [(.int .i64 0), nilS.v, nilS.v, (.int .i64 0)]) hF hS rfl rfl rfl fun a w b20 hF hS => q_store (vs := [(.int .i64 e_16.Level), s18.v, s19.v, (.int .i64 e_16.Sum)]) (cs' := [(.int .i64 e_16.Level), s18.v, s19.v, (.int .i64 e_16.Sum)]) 0 0 hF hS sz29 rfl rfl rfl rfl rfl rfl rfl rfl fun a w hF hS => q_end (n_sq (q_seq (q_region (q_x (v := (.pointer (some ⟨b3, 0, none⟩))) hF hS (ex_move rfl) rfl rfl fun a hF => ?_))))
   have hS : St _ _ _ _ [[⟨b3, [s1.v, (.int .i64 t_13.at_), (.int .u64 t_13.seed.v)], 65⟩], [⟨b20, [(.int .i64 e_16.Level), s18.v, s19.v, (.int .i64 e_16.Sum)], 29⟩], q11, [⟨b9, [s6.v], 26⟩], q8, [⟨b2, [nilS.v], 26⟩]] := hS.sel [4, 0, 1, 2, 3, 5] (by decide)
   have hS21 : St _ _ _ _ ([[⟨b3, [s1.v, (.int .i64 t_13.at_), (.int .u64 t_13.seed.v)], 65⟩]] ++ [[⟨b20, [(.int .i64 e_16.Level), s18.v, s19.v, (.int .i64 e_16.Sum)], 29⟩], q11, [⟨b9, [s6.v], 26⟩], q8, [⟨b2, [nilS.v], 26⟩]]) := hS
   have hE21 := hS21.enter
   obtain ⟨t_22, ht_22, hb1⟩ := bindS hb1
   refine q_do rfl fun _ hK => wp_callX (vs := [(.pointer (some ⟨b3, 0, none⟩)), (.int .i64 2)]) hF Try.func39 (by kernel_rfl) rfl rfl rfl (c_spec_l1Cur_one t_13 2 t_22 ht_22 _ m15 b3 s1 h14 _ hE21) fun a w _ hR hF => hK _ _ ?_
   obtain ⟨rfl, hR21, hk23⟩ := hR
   have hS : St _ _ _ _ [[⟨b3, [s1.v, (.int .i64 t_22.2.at_), (.int .u64 t_22.2.seed.v)], 65⟩], [⟨b20, [(.int .i64 e_16.Level), s18.v, s19.v, (.int .i64 e_16.Sum)], 29⟩], q11, [⟨b9, [s6.v], 26⟩], q8, [⟨b2, [nilS.v], 26⟩]] := hS21.leaveF hR21
   have h23 : Rd m15 s1 t_22.2.code := by rw [hk23]; exact h14
   refine q_end (n_sq ?_)
   obtain ⟨j3, hj3, hb1⟩ := bindS hb1
   refine q_join (fun a w => ∃ (m38 : Mem), ∃ (q35 : Piece), ∃ (s35 : Sl), ∃ m_34, ∃ t_36, j3 = (m_34, t_36) ∧ Fr a 52 [(2, (.pointer (some ⟨b2, 0, none⟩))), (6, (.pointer (some ⟨b3, 0, none⟩))), (7, (.pointer (some ⟨b9, 0, none⟩))), (8, s7.v), (9, s8.v), (10, s35.v), (22, s8.v), (23, (.int .i64 (goLen t_4.2.2))), (24, (.int .i64 t_12))] ∧ St [] w0 w m38 [q8, q35, [⟨b3, [s1.v, (.int .i64 t_36.at_), (.int .u64 t_36.seed.v)], 65⟩], [⟨b9, [s6.v], 26⟩], [⟨b2, [nilS.v], 26⟩]] ∧ MLe [] w0.heap.size m15 m38 ∧ OwnL m38 29 q35 s35 m_34 ∧ Rd m38 s1 t_36.code ∧ t_36.code = p_code) ?_ ?_
   ·rcases bcase (t_22.1) with hc4 | hc4
    ·have hj3 := cond_f hc4 hj3
     refine q_cond_f hF rfl hc4 (q_skipc (n_jn ?_))
     obtain rfl := someI hj3
     exact ⟨m15, q11, s11, _, _, rfl, hF.sub ⟨rfl, rfl, rfl, rfl, rfl, rfl, rfl, rfl, rfl, trivial⟩, hS.sel [4, 2, 0, 3, 5] (by decide), (MLe.refl _ _), h11, h23, (hk23.trans h14k)⟩
    ·have hj3 := cond_t hc4 hj3
     refine q_cond_t hF rfl hc4 (q_region (q_x (v := s11.v) hF hS (ex_move rfl) rfl rfl fun a hF => q_x (v := (.pointer (some ⟨b3, 0, none⟩))) hF hS (ex_move rfl) rfl rfl fun a hF => q_x (v := (.agg #[s6.v])) hF hS (ex_loadA (vs := [s6.v]) 3 0 Try.underlying26 rfl sz26 rfl rfl rfl rfl) rfl rfl fun a hF => q_x (v := s7.v) hF hS (ex_move rfl) rfl rfl fun a hF => q_x (v := (.agg #[(.int .i64 e_16.Level), s18.v, s19.v, (.int .i64 e_16.Sum)])) hF hS (ex_loadA (vs := [(.int .i64 e_16.Level), s18.v, s19.v, (.int .i64 e_16.Sum)]) 1 0 Try.underlying29 rfl sz29 rfl rfl rfl rfl) rfl rfl fun a hF => ?_))
     have hS24 : St _ _ _ _ ([[⟨b3, [s1.v, (.int .i64 t_22.2.at_), (.int .u64 t_22.2.seed.v)], 65⟩]] ++ [[⟨b20, [(.int .i64 e_16.Level), s18.v, s19.v, (.int .i64 e_16.Sum)], 29⟩], q11, [⟨b9, [s6.v], 26⟩], q8, [⟨b2, [nilS.v], 26⟩]]) := hS
     have hE24 := hS24.enter
     obtain ⟨t_25, ht_25, hj3⟩ := bindS hj3
     refine q_do rfl fun _ hK => wp_callX (vs := [(.pointer (some ⟨b3, 0, none⟩)), (.agg #[s6.v]), s7.v, (.agg #[(.int .i64 e_16.Level), s18.v, s19.v, (.int .i64 e_16.Sum)])]) hF Try.func40 (by kernel_rfl) rfl rfl rfl (c_spec_l1Cur_below t_22.2 t_4.1 t_4.2.1 e_16 t_25 ht_25 _ m15 b3 s1 h23 s6 (h6.mono hm15.le) s7 (h7.mono hm15.le) s18 h18 s19 h19 _ hE24) fun a w _ hR hF => hK _ _ ?_
     obtain ⟨q26, q27, s26, s27, rfl, hR24, h26, h27, hk28⟩ := hR
     have hS : St _ _ _ _ [[⟨b3, [s1.v, (.int .i64 t_25.2.at_), (.int .u64 t_25.2.seed.v)], 65⟩], q26, q27, [⟨b20, [(.int .i64 e_16.Level), s18.v, s19.v, (.int .i64 e_16.Sum)], 29⟩], q11, [⟨b9, [s6.v], 26⟩], q8, [⟨b2, [nilS.v], 26⟩]] := hS24.leaveF hR24
     have h28 : Rd m15 s1 t_25.2.code := by rw [hk28]; exact h23
     have hS : St _ _ _ _ [q26, [⟨b3, [s1.v, (.int .i64 t_25.2.at_), (.int .u64 t_25.2.seed.v)], 65⟩], q27, [⟨b20, [(.int .i64 e_16.Level), s18.v, s19.v, (.int .i64 e_16.Sum)], 29⟩], q11, [⟨b9, [s6.v], 26⟩], q8, [⟨b2, [nilS.v], 26⟩]] := hS.sel [1, 0, 2, 3, 4, 5, 6, 7] (by decide)
     obtain ⟨m30, hm30, hS, hz30⟩ := hS.freeze
     have h30 := h26.froz hm30.le hz30
     have hS : St _ _ _ _ [q27, [⟨b3, [s1.v, (.int .i64 t_25.2.at_), (.int .u64 t_25.2.seed.v)], 65⟩], [⟨b20, [(.int .i64 e_16.Level), s18.v, s19.v, (.int .i64 e_16.Sum)], 29⟩], q11, [⟨b9, [s6.v], 26⟩], q8, [⟨b2, [nilS.v], 26⟩]] := hS.sel [1, 0, 2, 3, 4, 5, 6] (by decide)
     obtain ⟨m31, hm31, hS, hz31⟩ := hS.freeze
     have h31 := (h27.mono hm30.le).froz hm31.le hz31
     refine q_do rfl fun _ hK => wp_buildSlice' (l := ([t_25.1] : List impl_Table)) (cells := [(.int .i64 t_25.1.Level), s26.v, s27.v, (.int .i64 t_25.1.Sum)]) hF hS Try.underlying37 inf29 rfl rfl (by kernel_rfl) rfl rfl rfl ⟨⟨s26, s27, rfl, (h30.mono hm31.le), h31⟩, rfl⟩ rfl rfl fun a w q29 s29 hF hS h29 _ => hK _ _ ?_
     have hS : St _ _ _ _ [q11, q29, [⟨b3, [s1.v, (.int .i64 t_25.2.at_), (.int .u64 t_25.2.seed.v)], 65⟩], [⟨b20, [(.int .i64 e_16.Level), s18.v, s19.v, (.int .i64 e_16.Sum)], 29⟩], [⟨b9, [s6.v], 26⟩], q8, [⟨b2, [nilS.v], 26⟩]] := hS.sel [3, 0, 1, 2, 4, 5, 6] (by decide)
     obtain ⟨l_32, hl_32, hj3⟩ := bindS hj3
     refine q_do rfl fun _ hK => wp_append hF hS ((h11.mono hm30.le).mono hm31.le) Try.underlying37 inf29 rfl rfl rfl rfl (h29.vw hS (j := 1) rfl) rfl (by decide) hl_32 rfl fun a w q33 s33 hF hS h33 => hK _ _ (q_x (v := s33.v) hF hS (ex_assign rfl) rfl rfl fun a hF => q_end (n_jn ?_))
     obtain rfl := someI hj3
     exact ⟨m31, q33, s33, _, _, rfl, hF.sub ⟨rfl, rfl, rfl, rfl, rfl, rfl, rfl, rfl, rfl, trivial⟩, hS.sel [5, 0, 2, 4, 6] (by decide), (hm30.trans hm31), h33, ((h28.mono hm30.le).mono hm31.le), (hk28.trans (hk23.trans h14k))⟩
   ·rintro a w ⟨m38, q35, s35, m_34, t_36, rfl, hF, hS, hm38, h35, h37, h37k⟩
    refine n_ib (n_sq ?_)
    refine q_region (q_x (v := (.int .i64 (w64 (t_12 + 1)))) hF hS (ex_ibin rfl rfl rfl) rfl rfl fun a hF => q_x (v := (.int .i64 (w64 (t_12 + 1)))) hF hS (ex_move rfl) rfl rfl fun a hF => q_end ?_)
    obtain rfl := someI hb1
    exact ⟨rfl, m38, q35, s35, _, _, _, rfl, hF.sub ⟨rfl, rfl, rfl, rfl, rfl, rfl, rfl, rfl, rfl, trivial⟩, hS.sel [1, 3, 0, 2, 4] (by decide), (hm15.trans hm38), h35, h37, h37k⟩
 ·rintro e a w ⟨m43, q40, s40, m_39, t_41, rfl, rfl, hF, hS, hm43, h40, h42, h42k⟩
  refine x_ib (n_sq ?_)
  refine q_seq (q_seq (q_region (q_x (v := (.pointer (some ⟨b3, 0, none⟩))) hF hS (ex_move rfl) rfl rfl fun a hF => ?_)))
  have hS : St _ _ _ _ [[⟨b3, [s1.v, (.int .i64 t_41.at_), (.int .u64 t_41.seed.v)], 65⟩], q8, q40, [⟨b9, [s6.v], 26⟩], [⟨b2, [nilS.v], 26⟩]] := hS.sel [3, 0, 1, 2, 4] (by decide)
  have hS44 : St _ _ _ _ ([[⟨b3, [s1.v, (.int .i64 t_41.at_), (.int .u64 t_41.seed.v)], 65⟩]] ++ [q8, q40, [⟨b9, [s6.v], 26⟩], [⟨b2, [nilS.v], 26⟩]]) := hS
  have hE44 := hS44.enter
  obtain ⟨t_45, ht_45, hr⟩ := bindS hr
  refine q_do rfl fun _ hK => wp_callX (vs := [(.pointer (some ⟨b3, 0, none⟩)), (.int .i64 4)]) hF Try.func39 (by kernel_rfl) rfl rfl rfl (c_spec_l1Cur_one t_41 4 t_45 ht_45 _ m43 b3 s1 h42 _ hE44) fun a w _ hR hF => hK _ _ ?_
  obtain ⟨rfl, hR44, hk46⟩ := hR
  have hS : St _ _ _ _ [[⟨b3, [s1.v, (.int .i64 t_45.2.at_), (.int .u64 t_45.2.seed.v)], 65⟩], q8, q40, [⟨b9, [s6.v], 26⟩], [⟨b2, [nilS.v], 26⟩]] := hS44.leaveF hR44
  have h46 : Rd m43 s1 t_45.2.code := by rw [hk46]; exact h42
  refine q_end (n_sq ?_)
  obtain ⟨m_57, hj5, hr⟩ := bindS hr
  refine q_join (fun a w => ∃ (m59 : Mem), ∃ (q58 : Piece), ∃ (s58 : Sl), Fr a 52 [(2, (.pointer (some ⟨b2, 0, none⟩))), (7, (.pointer (some ⟨b9, 0, none⟩))), (8, s7.v), (9, s8.v), (10, s58.v)] ∧ St [] w0 w m59 [q8, q58, [⟨b9, [s6.v], 26⟩], [⟨b2, [nilS.v], 26⟩]] ∧ MLe [] w0.heap.size m43 m59 ∧ OwnL m59 29 q58 s58 m_57) ?_ ?_
  ·rcases bcase (t_45.1) with hc6 | hc6
   ·have hj5 := cond_f hc6 hj5
    refine q_cond_f hF rfl hc6 (q_skipc (n_jn ?_))
    obtain rfl := someI hj5
    exact ⟨m43, q40, s40, hF.sub ⟨rfl, rfl, rfl, rfl, rfl, trivial⟩, hS.mask [false, true, true, true, true], (MLe.refl _ _), h40⟩
   ·have hj5 := cond_t hc6 hj5
    refine q_cond_t hF rfl hc6 (q_region (q_x (v := s40.v) hF hS (ex_move rfl) rfl rfl fun a hF => q_x (v := (.pointer (some ⟨b3, 0, none⟩))) hF hS (ex_move rfl) rfl rfl fun a hF => q_x (v := (.agg #[s6.v])) hF hS (ex_loadA (vs := [s6.v]) 3 0 Try.underlying26 rfl sz26 rfl rfl rfl rfl) rfl rfl fun a hF => q_x (v := s7.v) hF hS (ex_move rfl) rfl rfl fun a hF => ?_))
    have hS47 : St _ _ _ _ ([[⟨b3, [s1.v, (.int .i64 t_45.2.at_), (.int .u64 t_45.2.seed.v)], 65⟩]] ++ [q8, q40, [⟨b9, [s6.v], 26⟩], [⟨b2, [nilS.v], 26⟩]]) := hS
    have hE47 := hS47.enter
    obtain ⟨t_48, ht_48, hj5⟩ := bindS hj5
    refine q_do rfl fun _ hK => wp_callX (vs := [(.pointer (some ⟨b3, 0, none⟩)), (.agg #[s6.v]), s7.v]) hF Try.func41 (by kernel_rfl) rfl rfl rfl (c_spec_l1Cur_anyTable t_45.2 t_4.1 t_4.2.1 t_48 ht_48 _ m43 b3 s1 h46 s6 (h6.mono hm43.le) s7 (h7.mono hm43.le) _ hE47) fun a w _ hR hF => hK _ _ ?_
    obtain ⟨q49, q50, s49, s50, rfl, hR47, h49, h50, hk51⟩ := hR
    have hS : St _ _ _ _ [[⟨b3, [s1.v, (.int .i64 t_48.2.at_), (.int .u64 t_48.2.seed.v)], 65⟩], q49, q50, q8, q40, [⟨b9, [s6.v], 26⟩], [⟨b2, [nilS.v], 26⟩]] := hS47.leaveF hR47
    have h51 : Rd m43 s1 t_48.2.code := by rw [hk51]; exact h46
    have hS : St _ _ _ _ [q49, [⟨b3, [s1.v, (.int .i64 t_48.2.at_), (.int .u64 t_48.2.seed.v)], 65⟩], q50, q8, q40, [⟨b9, [s6.v], 26⟩], [⟨b2, [nilS.v], 26⟩]] := hS.sel [1, 0, 2, 3, 4, 5, 6] (by decide)
    obtain ⟨m53, hm53, hS, hz53⟩ := hS.freeze
    have h53 := h49.froz hm53.le hz53
    have hS : St _ _ _ _ [q50, [⟨b3, [s1.v, (.int .i64 t_48.2.at_), (.int .u64 t_48.2.seed.v)], 65⟩], q8, q40, [⟨b9, [s6.v], 26⟩], [⟨b2, [nilS.v], 26⟩]] := hS.sel [1, 0, 2, 3, 4, 5] (by decide)
    obtain ⟨m54, hm54, hS, hz54⟩ := hS.freeze
    have h54 := (h50.mono hm53.le).froz hm54.le hz54
    refine q_do rfl fun _ hK => wp_buildSlice' (l := ([t_48.1] : List impl_Table)) (cells := [(.int .i64 t_48.1.Level), s49.v, s50.v, (.int .i64 t_48.1.Sum)]) hF hS Try.underlying37 inf29 rfl rfl (by kernel_rfl) rfl rfl rfl ⟨⟨s49, s50, rfl, (h53.mono hm54.le), h54⟩, rfl⟩ rfl rfl fun a w q52 s52 hF hS h52 _ => hK _ _ ?_
    have hS : St _ _ _ _ [q40, q52, [⟨b3, [s1.v, (.int .i64 t_48.2.at_), (.int .u64 t_48.2.seed.v)], 65⟩], q8, [⟨b9, [s6.v], 26⟩], [⟨b2, [nilS.v], 26⟩]] := hS.sel [3, 0, 1, 2, 4, 5] (by decide)
    obtain ⟨l_55, hl_55, hj5⟩ := bindS hj5
    refine q_do rfl fun _ hK => wp_append hF hS ((h40.mono hm53.le).mono hm54.le) Try.underlying37 inf29 rfl rfl rfl rfl (h52.vw hS (j := 1) rfl) rfl (by decide) hl_55 rfl fun a w q56 s56 hF hS h56 => hK _ _ (q_x (v := s56.v) hF hS (ex_assign rfl) rfl rfl fun a hF => q_end (n_jn ?_))
    obtain rfl := someI hj5
    exact ⟨m54, q56, s56, hF.sub ⟨rfl, rfl, rfl, rfl, rfl, trivial⟩, hS.sel [3, 0, 4, 5] (by decide), (hm53.trans hm54), h56⟩
  ·rintro a w ⟨m59, q58, s58, hF, hS, hm59, h58⟩
   refine n_sq ?_
   refine q_seq (q_region (q_x (v := (.agg #[s6.v])) hF hS (ex_loadA (vs := [s6.v]) 2 0 Try.underlying26 rfl sz26 rfl rfl rfl rfl) rfl rfl fun a hF => q_x (v := s7.v) hF hS (ex_move rfl) rfl rfl fun a hF => q_x (v := s8.v) hF hS (ex_move rfl) rfl rfl fun a hF => q_x (v := s58.v) hF hS (ex_move rfl) rfl rfl fun a hF => q_store (vs := [s6.v]) (cs' := [s6.v]) 3 0 hF hS sz26 rfl rfl rfl rfl rfl rfl rfl rfl fun a w hF hS => q_x (v := s7.v) hF hS (ex_assign rfl) rfl rfl fun a hF => q_x (v := s8.v) hF hS (ex_assign rfl) rfl rfl fun a hF => q_x (v := s58.v) hF hS (ex_assign rfl) rfl rfl fun a hF => q_end (n_sq (q_ret ?_))))
   obtain rfl := someI hr
   exact ret_of hF hS rfl (.cellA (us := [s6.v]) 3 0 Try.underlying26 rfl sz26 rfl rfl rfl rfl (.tmp rfl (.tmp rfl (.tmp rfl .nil)))) ⟨m59, q8, q58, s6, s7, s8, s58, rfl, ((hm5.trans hm43).trans hm59), hS.sel [0, 1] (by decide), ((h6.mono hm43.le).mono hm59.le), ((h7.mono hm43.le).mono hm59.le), ((h8.mono hm43.le).mono hm59.le), h58⟩

theorem c_impl_isPlan (p_g : impl_Geo) (p_s : List impl_Variable) (p_l : List impl_Table) (r : Bool) (hr : impl_isPlan p_g p_s p_l = some r) (w0 : World) (m : Mem) (hv : Vis m w0) (s1 : Sl) (h1 : Rd m s1 p_g.Parents) (s2 : Sl) (h2 : Rd m s2 p_s) (s3 : Sl) (h3 : Rd m s3 p_l) :
  Ret Try.prog 42 [(.agg #[s1.v]), s2.v, s3.v] w0 (fun v _ => v = (.bool r)) := by
 unfold impl_isPlan at hr
 refine ret_start Try.func42 rfl 34 rfl rfl m hv fun a hF hS => q_seq (q_region (q_box (cs := [s1.v]) hF hS rfl rfl rfl fun a w b4 hF hS => q_x (v := (.bool false)) hF hS (ex_assign rfl) rfl rfl fun a hF => q_end (n_sq (q_seq (q_seq ?_)))))
 obtain ⟨t_7, hj1, hr⟩ := bindS hr
 refine q_join (fun a w => Fr a 34 [(1, s2.v), (2, s3.v), (3, (.pointer (some ⟨b4, 0, none⟩))), (21, (.bool t_7))] ∧ St [] w0 w m [[⟨b4, [s1.v], 26⟩]]) ?_ ?_
 ·refine q_region (q_x (v := (.agg #[s1.v])) hF hS (ex_loadA (vs := [s1.v]) 0 0 Try.underlying26 rfl sz26 rfl rfl rfl rfl) rfl rfl fun a hF => ?_)
  obtain ⟨t_5, ht_5, hj1⟩ := bindS hj1
  refine q_call (vs := [(.agg #[s1.v])]) hF hS Try.func55 (by kernel_rfl) rfl rfl rfl (c_impl_IsGeo p_g t_5 ht_5 _ m hS.vis s1 h1) ?_
  rintro a w _ rfl hF hS
  refine q_x (v := (.bool (!t_5))) hF hS (ex_not rfl) rfl rfl fun a hF => q_x (v := (.bool (!t_5))) hF hS (ex_move rfl) rfl rfl fun a hF => ?_
  rcases bcase (!t_5) with hc2 | hc2
  ·have hj1 := cond_f hc2 hj1
   refine q_xg (v := s2.v) hF hS (ex_move rfl) (wanted_t hF rfl rfl rfl hc2) rfl fun a hF => ?_
   obtain ⟨t_6, ht_6, hj1⟩ := bindS hj1
   refine q_callg (vs := [s2.v]) hF hS (wanted_t hF rfl rfl rfl hc2) Try.func56 (by kernel_rfl) rfl rfl rfl (c_impl_IsSchema p_s t_6 ht_6 _ m hS.vis s2 h2) ?_
   rintro a w _ rfl hF hS
   refine q_xg (v := (.bool (!t_6))) hF hS (ex_not rfl) (wanted_t hF rfl rfl rfl hc2) rfl fun a hF => q_x (v := (.bool (!t_6))) hF hS (ex_pick_f rfl rfl hc2) rfl rfl fun a hF => q_x (v := (.bool (!t_6))) hF hS (ex_move rfl) rfl rfl fun a hF => ?_
   rcases bcase (!t_6) with hc3 | hc3
   ·have hj1 := cond_f hc3 hj1
    refine q_xg (v := s3.v) hF hS (ex_move rfl) (wanted_t hF rfl rfl rfl hc3) rfl fun a hF => q_xg (v := (.int .i64 (goLen p_l))) hF hS (ex_len Try.underlying37 rfl h3.len) (wanted_t hF rfl rfl rfl hc3) rfl fun a hF => q_xg (v := (.bool (decide (20 < (goLen p_l))))) hF hS (ex_ibin rfl rfl rfl) (wanted_t hF rfl rfl rfl hc3) rfl fun a hF => q_x (v := (.bool (decide (20 < (goLen p_l))))) hF hS (ex_pick_f rfl rfl hc3) rfl rfl fun a hF => q_end (n_jn ?_)
    obtain rfl := someI hj1
    exact ⟨hF.sub ⟨rfl, rfl, rfl, rfl, trivial⟩, hS⟩
   ·have hj1 := cond_t hc3 hj1
    refine q_skip hF (wanted_f hF rfl rfl rfl hc3 rfl) rfl fun a hF => q_skip hF (wanted_f hF rfl rfl rfl hc3 rfl) rfl fun a hF => q_skip hF (wanted_f hF rfl rfl rfl hc3 rfl) rfl fun a hF => q_x (v := (.bool true)) hF hS (ex_pick_t rfl rfl hc3) rfl rfl fun a hF => q_end (n_jn ?_)
    obtain rfl := someI hj1
    exact ⟨hF.sub ⟨rfl, rfl, rfl, rfl, trivial⟩, hS⟩
  ·have hj1 := cond_t hc2 hj1
   refine q_skip hF (wanted_f hF rfl rfl rfl hc2 rfl) rfl fun a hF => q_skip hF (wanted_f hF rfl rfl rfl hc2 rfl) rfl fun a hF => q_skip hF (wanted_f hF rfl rfl rfl hc2 rfl) rfl fun a hF => q_x (v := (.bool true)) hF hS (ex_pick_t rfl rfl hc2) rfl rfl fun a hF => q_x (v := (.bool true)) hF hS (ex_move rfl) rfl rfl fun a hF => q_skip hF (wanted_f hF rfl rfl rfl rfl rfl) rfl fun a hF => q_skip hF (wanted_f hF rfl rfl rfl rfl rfl) rfl fun a hF => q_skip hF (wanted_f hF rfl rfl rfl rfl rfl) rfl fun a hF => q_x (v := (.bool true)) hF hS (ex_pick_t rfl rfl rfl) rfl rfl fun a hF => q_end (n_jn ?_)
   obtain rfl := someI hj1
   exact ⟨hF.sub ⟨rfl, rfl, rfl, rfl, trivial⟩, hS⟩
 ·rintro a w ⟨hF, hS⟩
  refine n_sq ?_
  rcases bcase (t_7) with hc4 | hc4
  ·have hr := cond_f hc4 hr
   refine q_cond_f hF rfl hc4 (q_skipc (n_sq (q_seq (q_seq (q_region (q_x (v := s3.v) hF hS (ex_move rfl) rfl rfl fun a hF => q_x (v := (.int .i64 (goLen p_l))) hF hS (ex_len Try.underlying37 rfl h3.len) rfl rfl fun a hF => q_x (v := (.int .i64 0)) hF hS (ex_move rfl) rfl rfl fun a hF => q_end (n_sq (q_block ?_))))))))
   obtain ⟨o5, hl5, hr⟩ := bindS hr
   refine q_loop (fun (t_8 : Int) a w => Fr a 34 [(1, s2.v), (3, (.pointer (some ⟨b4, 0, none⟩))), (22, s3.v), (23, (.int .i64 (goLen p_l))), (24, (.int .i64 t_8))] ∧ St [] w0 w m [[⟨b4, [s1.v], 26⟩]]) (fun (o : (Unit) ⊕ (Bool)) e a w => o = .inl () ∧ e = .exit 0 ∧ Fr a 34 [] ∧ St [] w0 w m []) hl5 ⟨hF.sub ⟨rfl, rfl, rfl, rfl, rfl, trivial⟩, hS⟩ ?_ ?_
   ·clear hF hS
    rintro t_8 a w st ⟨hF, hS⟩ hb5
    unfold impl_isPlan_l1 at hb5
    refine q_seq (q_region (q_x (v := (.bool (decide (t_8 < (goLen p_l))))) hF hS (ex_ibin rfl rfl rfl) rfl rfl fun a hF => q_end (n_sq (q_seq ?_))))
    rcases bcase (decide (t_8 < (goLen p_l))) with hc6 | hc6
    ·have hb5 := cond_f hc6 hb5
     refine q_cond_f hF rfl hc6 (q_exit (x_sq ?_))
     obtain rfl := someI hb5
     exact ⟨nofun, .inl ⟨rfl, rfl, hF.sub trivial, hS.mask [false]⟩⟩
    ·have hb5 := cond_t hc6 hb5
     refine q_cond_t hF rfl hc6 (q_skipc (n_sq (q_seq (q_block (q_seq (q_region ?_))))))
     obtain ⟨e_9, he_9, hb5⟩ := bindS hb5
     obtain ⟨vs10, at10, d10⟩ := h3.at he_9 4 rfl
     obtain ⟨s11, s12, rfl, h11, h12⟩ : ∃ s11 s12 : Sl, vs10 = [(.int .i64 e_9.Level), s11.v, s12.v, (.int .i64 e_9.Sum)] ∧ Rd m s11 e_9.Vars ∧ Rd m s12 e_9.Where := d10
     refine q_x (v := (elP s3 (t_8.toNat * 4))) hF hS (ex_indexAddr Try.underlying37 sz29 rfl rfl (h3.idx he_9)) rfl rfl fun a hF => q_x (v := (.agg #[(.int .i64 e_9.Level), s11.v, s12.v, (.int .i64 e_9.Sum)])) hF hS (ex_loadEA (us := [(.int .i64 e_9.Level), s11.v, s12.v, (.int .i64 e_9.Sum)]) 0 Try.underlying29 rfl sz29 rfl ((at10).at) rfl rfl rfl) rfl rfl fun a hF => q_alloc (cs := [(.int .i64 0), nilS.v, nilS.v, (.int .i64 0)]) hF hS rfl rfl rfl fun a w b13 hF hS => q_store (vs := [(.int .i64 e_9.Level), s11.v, s12.v, (.int .i64 e_9.Sum)]) (cs' := [(.int .i64 e_9.Level), s11.v, s12.v, (.int .i64 e_9.Sum)]) 0 0 hF hS sz29 rfl rfl rfl rfl rfl rfl rfl rfl fun a w hF hS => q_end (n_sq (q_seq (q_region (q_x (v := (.agg #[s1.v])) hF hS (ex_loadA (vs := [s1.v]) 1 0 Try.underlying26 rfl sz26 rfl rfl rfl rfl) rfl rfl fun a hF => q_x (v := s2.v) hF hS (ex_move rfl) rfl rfl fun a hF => q_x (v := (.agg #[(.int .i64 e_9.Level), s11.v, s12.v, (.int .i64 e_9.Sum)])) hF hS (ex_loadA (vs := [(.int .i64 e_9.Level), s11.v, s12.v, (.int .i64 e_9.Sum)]) 0 0 Try.underlying29 rfl sz29 rfl rfl rfl rfl) rfl rfl fun a hF => ?_))))
     obtain ⟨t_14, ht_14, hb5⟩ := bindS hb5
     refine q_call (vs := [(.agg #[s1.v]), s2.v, (.agg #[(.int .i64 e_9.Level), s11.v, s12.v, (.int .i64 e_9.Sum)])]) hF hS Try.func30 (by kernel_rfl) rfl rfl rfl (c_impl_isTable p_g p_s e_9 t_14 ht_14 _ m hS.vis s1 h1 s2 h2 s11 h11 s12 h12) ?_
     rintro a w _ rfl hF hS
     refine q_x (v := (.bool (!t_14))) hF hS (ex_not rfl) rfl rfl fun a hF => q_end (n_sq ?_)
     rcases bcase (!t_14) with hc7 | hc7
     ·have hb5 := cond_f hc7 hb5
      refine q_cond_f hF rfl hc7 (q_skipc (n_ib (n_sq (q_region (q_x (v := (.int .i64 (w64 (t_8 + 1)))) hF hS (ex_ibin rfl rfl rfl) rfl rfl fun a hF => q_x (v := (.int .i64 (w64 (t_8 + 1)))) hF hS (ex_move rfl) rfl rfl fun a hF => q_end ?_)))))
      obtain rfl := someI hb5
      exact ⟨rfl, hF.sub ⟨rfl, rfl, rfl, rfl, rfl, trivial⟩, hS.mask [false, true]⟩
     ·have hb5 := cond_t hc7 hb5
      refine q_cond_t hF rfl hc7 (q_seq (q_region (q_x (v := (.bool false)) hF hS (ex_assign rfl) rfl rfl fun a hF => q_end (n_sq (q_ret (r_ib (r_sq ?_)))))))
      obtain rfl := someI hb5
      refine ⟨nofun, .inr fun ho => ?_⟩
      subst ho
      refine r_ib (r_sq ?_)
      obtain rfl := someI hr
      exact ret_of hF hS rfl (.tmp rfl .nil) rfl
   ·rintro e a w ⟨rfl, rfl, hF, hS⟩
    refine x_ib (n_sq ?_)
    refine q_seq (q_region (q_x (v := (.bool true)) hF hS (ex_assign rfl) rfl rfl fun a hF => q_end (n_sq (q_ret ?_))))
    obtain rfl := someI hr
    exact ret_of hF hS rfl (.tmp rfl .nil) rfl
  ·have hr := cond_t hc4 hr
   refine q_cond_t hF rfl hc4 (q_seq (q_region (q_x (v := (.bool false)) hF hS (ex_assign rfl) rfl rfl fun a hF => q_end (n_sq (q_ret (r_sq ?_))))))
   obtain rfl := someI hr
   exact ret_of hF hS rfl (.tmp rfl .nil) rfl

theorem c_impl_CoversPlan_1 (p_u : impl_Table) (p_x1 : impl_Geo) (p_x2 : List impl_Variable) (p_x3 : impl_Table) (r : Bool) (hr : impl_CoversPlan_1 p_u p_x1 p_x2 p_x3 = some r) (w0 : World) (m : Mem) (b_p_x1 : Nat) (b_p_x2 : Nat) (b_p_x3 : Nat) (s1 : Sl) (h1 : Rd m s1 p_u.Vars) (s2 : Sl) (h2 : Rd m s2 p_u.Where) (s3 : Sl) (h3 : Rd m s3 p_x1.Parents) (s4 : Sl) (h4 : Rd m s4 p_x2) (s5 : Sl) (h5 : Rd m s5 p_x3.Vars) (s6 : Sl) (h6 : Rd m s6 p_x3.Where) (X : List Nat) (hS : St X w0 w0 m [[⟨b_p_x1, [s3.v], 26⟩], [⟨b_p_x2, [s4.v], 27⟩], [⟨b_p_x3, [(.int .i64 p_x3.Level), s5.v, s6.v, (.int .i64 p_x3.Sum)], 29⟩]]) :
  RetX Try.prog 44 [(.agg #[(.int .i64 p_u.Level), s1.v, s2.v, (.int .i64 p_u.Sum)]), (.pointer (some ⟨b_p_x1, 0, none⟩)), (.pointer (some ⟨b_p_x2, 0, none⟩)), (.pointer (some ⟨b_p_x3, 0, none⟩))] w0 (fun v w => v = (.bool r) ∧ St X w0 w m [[⟨b_p_x1, [s3.v], 26⟩], [⟨b_p_x2, [s4.v], 27⟩], [⟨b_p_x3, [(.int .i64 p_x3.Level), s5.v, s6.v, (.int .i64 p_x3.Sum)], 29⟩]]) := by
 unfold impl_CoversPlan_1 at hr
 refine ret_startX Try.func44 rfl 11 rfl rfl fun a hF => q_seq (q_region (q_box (cs := [(.int .i64 p_u.Level), s1.v, s2.v, (.int .i64 p_u.Sum)]) hF hS rfl rfl rfl fun a w b7 hF hS => q_x (v := (.bool false)) hF hS (ex_assign rfl) rfl rfl fun a hF => q_end (n_sq (q_seq (q_region (q_x (v := (.agg #[s3.v])) hF hS (ex_loadA (vs := [s3.v]) 1 0 Try.underlying26 rfl sz26 rfl rfl rfl rfl) rfl rfl fun a hF => q_x (v := s4.v) hF hS (ex_load1 2 0 Try.underlying27 rfl rfl rfl rfl) rfl rfl fun a hF => q_x (v := (.agg #[(.int .i64 p_x3.Level), s5.v, s6.v, (.int .i64 p_x3.Sum)])) hF hS (ex_loadA (vs := [(.int .i64 p_x3.Level), s5.v, s6.v, (.int .i64 p_x3.Sum)]) 3 0 Try.underlying29 rfl sz29 rfl rfl rfl rfl) rfl rfl fun a hF => q_x (v := (.agg #[(.int .i64 p_u.Level), s1.v, s2.v, (.int .i64 p_u.Sum)])) hF hS (ex_loadA (vs := [(.int .i64 p_u.Level), s1.v, s2.v, (.int .i64 p_u.Sum)]) 0 0 Try.underlying29 rfl sz29 rfl rfl rfl rfl) rfl rfl fun a hF => ?_))))))
 obtain ⟨t_8, ht_8, hr⟩ := bindS hr
 refine q_call (vs := [(.agg #[s3.v]), s4.v, (.agg #[(.int .i64 p_x3.Level), s5.v, s6.v, (.int .i64 p_x3.Sum)]), (.agg #[(.int .i64 p_u.Level), s1.v, s2.v, (.int .i64 p_u.Sum)])]) hF hS Try.func34 (by kernel_rfl) rfl rfl rfl (c_impl_followsFrom p_x1 p_x2 p_x3 p_u t_8 ht_8 _ m hS.vis s3 h3 s4 h4 s5 h5 s6 h6 s1 h1 s2 h2) ?_
 rintro a w _ rfl hF hS
 refine q_x (v := (.bool t_8)) hF hS (ex_assign rfl) rfl rfl fun a hF => q_end (n_sq (q_ret ?_))
 obtain rfl := someI hr
 exact ret_ofX hF hS rfl (.tmp rfl .nil) ⟨rfl, hS.sel [1, 2, 3] (by decide)⟩

theorem c_slices_IndexFunc_impl_Table_impl_Table_of_impl_CoversPlan_1 (p_s : List impl_Table) (p_x200 : impl_Geo) (p_x201 : List impl_Variable) (p_x202 : impl_Table) (r : Int) (hr : slices_IndexFunc_impl_Table_impl_Table_of_impl_CoversPlan_1 p_s p_x200 p_x201 p_x202 = some r) (w0 : World) (m : Mem) (b_p_x200 : Nat) (b_p_x201 : Nat) (b_p_x202 : Nat) (s1 : Sl) (h1 : Rd m s1 p_s) (s2 : Sl) (h2 : Rd m s2 p_x200.Parents) (s3 : Sl) (h3 : Rd m s3 p_x201) (s4 : Sl) (h4 : Rd m s4 p_x202.Vars) (s5 : Sl) (h5 : Rd m s5 p_x202.Where) (X : List Nat) (hS : St X w0 w0 m [[⟨b_p_x200, [s2.v], 26⟩], [⟨b_p_x201, [s3.v], 27⟩], [⟨b_p_x202, [(.int .i64 p_x202.Level), s4.v, s5.v, (.int .i64 p_x202.Sum)], 29⟩]]) :
  RetX Try.prog 78 [s1.v, (.func (.func 44) #[] #[(.pointer (some ⟨b_p_x200, 0, none⟩)), (.pointer (some ⟨b_p_x201, 0, none⟩)), (.pointer (some ⟨b_p_x202, 0, none⟩))])] w0 (fun v w => v = (.int .i64 r) ∧ St X w0 w m [[⟨b_p_x200, [s2.v], 26⟩], [⟨b_p_x201, [s3.v], 27⟩], [⟨b_p_x202, [(.int .i64 p_x202.Level), s4.v, s5.v, (.int .i64 p_x202.Sum)], 29⟩]]) := by
 unfold slices_IndexFunc_impl_Table_impl_Table_of_impl_CoversPlan_1 at hr
 refine ret_startX Try.func78 rfl 19 rfl rfl fun a hF => q_seq (q_region (q_x (v := (.int .i64 0)) hF hS (ex_assign rfl) rfl rfl fun a hF => q_end (n_sq (q_seq (q_seq (q_region (q_x (v := s1.v) hF hS (ex_move rfl) rfl rfl fun a hF => q_x (v := (.int .i64 (goLen p_s))) hF hS (ex_len Try.underlying37 rfl h1.len) rfl rfl fun a hF => q_x (v := (.int .i64 0)) hF hS (ex_move rfl) rfl rfl fun a hF => q_end (n_sq (q_block ?_)))))))))
 obtain ⟨o1, hl1, hr⟩ := bindS hr
 refine q_loop (fun (t_6 : Int) a w => Fr a 19 [(0, s1.v), (1, (.func (.func 44) #[] #[(.pointer (some ⟨b_p_x200, 0, none⟩)), (.pointer (some ⟨b_p_x201, 0, none⟩)), (.pointer (some ⟨b_p_x202, 0, none⟩))])), (7, (.int .i64 (goLen p_s))), (8, (.int .i64 t_6))] ∧ St X w0 w m [[⟨b_p_x200, [s2.v], 26⟩], [⟨b_p_x201, [s3.v], 27⟩], [⟨b_p_x202, [(.int .i64 p_x202.Level), s4.v, s5.v, (.int .i64 p_x202.Sum)], 29⟩]]) (fun (o : (Unit) ⊕ (Int)) e a w => o = .inl () ∧ e = .exit 0 ∧ Fr a 19 [] ∧ St X w0 w m [[⟨b_p_x200, [s2.v], 26⟩], [⟨b_p_x201, [s3.v], 27⟩], [⟨b_p_x202, [(.int .i64 p_x202.Level), s4.v, s5.v, (.int .i64 p_x202.Sum)], 29⟩]]) hl1 ⟨hF.sub ⟨rfl, rfl, rfl, rfl, trivial⟩, hS⟩ ?_ ?_
 ·clear hF hS
  rintro t_6 a w st ⟨hF, hS⟩ hb1
  unfold slices_IndexFunc_impl_Table_impl_Table_of_impl_CoversPlan_1_l1 at hb1
  refine q_seq (q_region (q_x (v := (.bool (decide (t_6 < (goLen p_s))))) hF hS (ex_ibin rfl rfl rfl) rfl rfl fun a hF => q_end (n_sq (q_seq ?_))))
  rcases bcase (decide (t_6 < (goLen p_s))) with hc2 | hc2
  ·have hb1 := cond_f hc2 hb1
   refine q_cond_f hF rfl hc2 (q_exit (x_sq ?_))
   obtain rfl := someI hb1
   exact ⟨nofun, .inl ⟨rfl, rfl, hF.sub trivial, hS⟩⟩
  ·have hb1 := cond_t hc2 hb1
   refine q_cond_t hF rfl hc2 (q_skipc (n_sq (q_seq (q_block (q_seq (q_region (q_x (v := (.int .i64 t_6)) hF hS (ex_move rfl) rfl rfl fun a hF => q_x (v := (.int .i64 t_6)) hF hS (ex_assign rfl) rfl rfl fun a hF => q_end (n_sq (q_seq (q_region (q_x (v := (.func (.func 44) #[] #[(.pointer (some ⟨b_p_x200, 0, none⟩)), (.pointer (some ⟨b_p_x201, 0, none⟩)), (.pointer (some ⟨b_p_x202, 0, none⟩))])) hF hS (ex_move rfl) rfl rfl fun a hF => q_x (v := s1.v) hF hS (ex_move rfl) rfl rfl fun a hF => q_x (v := (.int .i64 t_6)) hF hS (ex_move rfl) rfl rfl fun a hF => ?_)))))))))))
   obtain ⟨e_7, he_7, hb1⟩ := bindS hb1
   obtain ⟨vs8, at8, d8⟩ := h1.at he_7 4 rfl
   obtain ⟨s9, s10, rfl, h9, h10⟩ : ∃ s9 s10 : Sl, vs8 = [(.int .i64 e_7.Level), s9.v, s10.v, (.int .i64 e_7.Sum)] ∧ Rd m s9 e_7.Vars ∧ Rd m s10 e_7.Where := d8
   refine q_x (v := (elP s1 (t_6.toNat * 4))) hF hS (ex_indexAddr Try.underlying37 sz29 rfl rfl (h1.idx he_7)) rfl rfl fun a hF => q_x (v := (.agg #[(.int .i64 e_7.Level), s9.v, s10.v, (.int .i64 e_7.Sum)])) hF hS (ex_loadEA (us := [(.int .i64 e_7.Level), s9.v, s10.v, (.int .i64 e_7.Sum)]) 0 Try.underlying29 rfl sz29 rfl ((at8).at) rfl rfl rfl) rfl rfl fun a hF => ?_
   have hS11 : St _ _ _ _ ([[⟨b_p_x200, [s2.v], 26⟩], [⟨b_p_x201, [s3.v], 27⟩], [⟨b_p_x202, [(.int .i64 p_x202.Level), s4.v, s5.v, (.int .i64 p_x202.Sum)], 29⟩]] ++ []) := hS
   have hE11 := hS11.enter
   obtain ⟨t_12, ht_12, hb1⟩ := bindS hb1
   refine q_do rfl fun _ hK => wp_callV (vs := [(.agg #[(.int .i64 e_7.Level), s9.v, s10.v, (.int .i64 e_7.Sum)])]) (cap := [(.pointer (some ⟨b_p_x200, 0, none⟩)), (.pointer (some ⟨b_p_x201, 0, none⟩)), (.pointer (some ⟨b_p_x202, 0, none⟩))]) hF rfl Try.func44 (by kernel_rfl) rfl rfl rfl (c_impl_CoversPlan_1 e_7 p_x200 p_x201 p_x202 t_12 ht_12 _ m b_p_x200 b_p_x201 b_p_x202 s9 h9 s10 h10 s2 h2 s3 h3 s4 h4 s5 h5 _ hE11) fun a w _ hR hF => hK _ _ ?_
   obtain ⟨rfl, hR11⟩ := hR
   have hS : St _ _ _ _ [[⟨b_p_x200, [s2.v], 26⟩], [⟨b_p_x201, [s3.v], 27⟩], [⟨b_p_x202, [(.int .i64 p_x202.Level), s4.v, s5.v, (.int .i64 p_x202.Sum)], 29⟩]] := hS11.leaveF hR11
   refine q_end (n_sq ?_)
   rcases bcase (t_12) with hc3 | hc3
   ·have hb1 := cond_f hc3 hb1
    refine q_cond_f hF rfl hc3 (q_skipc (n_ib (n_sq (q_region (q_x (v := (.int .i64 (w64 (t_6 + 1)))) hF hS (ex_ibin rfl rfl rfl) rfl rfl fun a hF => q_x (v := (.int .i64 (w64 (t_6 + 1)))) hF hS (ex_move rfl) rfl rfl fun a hF => q_end ?_)))))
    obtain rfl := someI hb1
    exact ⟨rfl, hF.sub ⟨rfl, rfl, rfl, rfl, trivial⟩, hS⟩
   ·have hb1 := cond_t hc3 hb1
    refine q_cond_t hF rfl hc3 (q_seq (q_region (q_x (v := (.int .i64 t_6)) hF hS (ex_move rfl) rfl rfl fun a hF => q_x (v := (.int .i64 t_6)) hF hS (ex_assign rfl) rfl rfl fun a hF => q_end (n_sq (q_ret (r_ib (r_sq ?_)))))))
    obtain rfl := someI hb1
    refine ⟨nofun, .inr fun ho => ?_⟩
    subst ho
    refine r_ib (r_sq ?_)
    obtain rfl := someI hr
    exact ret_ofX hF hS rfl (.tmp rfl .nil) ⟨rfl, hS.sel [0, 1, 2] (by decide)⟩
 ·rintro e a w ⟨rfl, rfl, hF, hS⟩
  refine x_ib (n_sq ?_)
  refine q_seq (q_region (q_x (v := (.int .i64 (-1))) hF hS (ex_assign rfl) rfl rfl fun a hF => q_end (n_sq (q_ret ?_))))
  obtain rfl := someI hr
  exact ret_ofX hF hS rfl (.tmp rfl .nil) ⟨rfl, hS.sel [0, 1, 2] (by decide)⟩

theorem c_slices_ContainsFunc_impl_Table_impl_Table_of_impl_CoversPlan_1 (p_s : List impl_Table) (p_x200 : impl_Geo) (p_x201 : List impl_Variable) (p_x202 : impl_Table) (r : Bool) (hr : slices_ContainsFunc_impl_Table_impl_Table_of_impl_CoversPlan_1 p_s p_x200 p_x201 p_x202 = some r) (w0 : World) (m : Mem) (b_p_x200 : Nat) (b_p_x201 : Nat) (b_p_x202 : Nat) (s1 : Sl) (h1 : Rd m s1 p_s) (s2 : Sl) (h2 : Rd m s2 p_x200.Parents) (s3 : Sl) (h3 : Rd m s3 p_x201) (s4 : Sl) (h4 : Rd m s4 p_x202.Vars) (s5 : Sl) (h5 : Rd m s5 p_x202.Where) (X : List Nat) (hS : St X w0 w0 m [[⟨b_p_x200, [s2.v], 26⟩], [⟨b_p_x201, [s3.v], 27⟩], [⟨b_p_x202, [(.int .i64 p_x202.Level), s4.v, s5.v, (.int .i64 p_x202.Sum)], 29⟩]]) :
  RetX Try.prog 43 [s1.v, (.func (.func 44) #[] #[(.pointer (some ⟨b_p_x200, 0, none⟩)), (.pointer (some ⟨b_p_x201, 0, none⟩)), (.pointer (some ⟨b_p_x202, 0, none⟩))])] w0 (fun v w => v = (.bool r) ∧ St X w0 w m [[⟨b_p_x200, [s2.v], 26⟩], [⟨b_p_x201, [s3.v], 27⟩], [⟨b_p_x202, [(.int .i64 p_x202.Level), s4.v, s5.v, (.int .i64 p_x202.Sum)], 29⟩]]) := by
 unfold slices_ContainsFunc_impl_Table_impl_Table_of_impl_CoversPlan_1 at hr
 refine ret_startX Try.func43 rfl 9 rfl rfl fun a hF => q_seq (q_region (q_x (v := (.bool false)) hF hS (ex_assign rfl) rfl rfl fun a hF => q_end (n_sq (q_seq (q_region (q_x (v := s1.v) hF hS (ex_move rfl) rfl rfl fun a hF => q_x (v := (.func (.func 44) #[] #[(.pointer (some ⟨b_p_x200, 0, none⟩)), (.pointer (some ⟨b_p_x201, 0, none⟩)), (.pointer (some ⟨b_p_x202, 0, none⟩))])) hF hS (ex_move rfl) rfl rfl fun a hF => ?_))))))
 have hS6 : St _ _ _ _ ([[⟨b_p_x200, [s2.v], 26⟩], [⟨b_p_x201, [s3.v], 27⟩], [⟨b_p_x202, [(.int .i64 p_x202.Level), s4.v, s5.v, (.int .i64 p_x202.Sum)], 29⟩]] ++ []) := hS
 have hE6 := hS6.enter
 obtain ⟨t_7, ht_7, hr⟩ := bindS hr
 refine q_do rfl fun _ hK => wp_callX (vs := [s1.v, (.func (.func 44) #[] #[(.pointer (some ⟨b_p_x200, 0, none⟩)), (.pointer (some ⟨b_p_x201, 0, none⟩)), (.pointer (some ⟨b_p_x202, 0, none⟩))])]) hF Try.func78 (by kernel_rfl) rfl rfl rfl (c_slices_IndexFunc_impl_Table_impl_Table_of_impl_CoversPlan_1 p_s p_x200 p_x201 p_x202 t_7 ht_7 _ m b_p_x200 b_p_x201 b_p_x202 s1 h1 s2 h2 s3 h3 s4 h4 s5 h5 _ hE6) fun a w _ hR hF => hK _ _ ?_
 obtain ⟨rfl, hR6⟩ := hR
 have hS : St _ _ _ _ [[⟨b_p_x200, [s2.v], 26⟩], [⟨b_p_x201, [s3.v], 27⟩], [⟨b_p_x202, [(.int .i64 p_x202.Level), s4.v, s5.v, (.int .i64 p_x202.Sum)], 29⟩]] := hS6.leaveF hR6
 refine q_x (v := (.bool (decide (0 ≤ t_7)))) hF hS (ex_ibin rfl rfl rfl) rfl rfl fun a hF => q_x (v := (.bool (decide (0 ≤ t_7)))) hF hS (ex_assign rfl) rfl rfl fun a hF => q_end (n_sq (q_ret ?_))
 obtain rfl := someI hr
 exact ret_ofX hF hS rfl (.tmp rfl .nil) ⟨rfl, hS.sel [0, 1, 2] (by decide)⟩

theorem c_impl_CoversPlan (p_g : impl_Geo) (p_s : List impl_Variable) (p_l : List impl_Table) (p_m : List impl_Table) (r : Bool × Bool) (hr : impl_CoversPlan p_g p_s p_l p_m = some r) (w0 : World) (m : Mem) (hv : Vis m w0) (s1 : Sl) (h1 : Rd m s1 p_g.Parents) (s2 : Sl) (h2 : Rd m s2 p_s) (s3 : Sl) (h3 : Rd m s3 p_l) (s4 : Sl) (h4 : Rd m s4 p_m) :
  Ret Try.prog 12 [(.agg #[s1.v]), s2.v, s3.v, s4.v] w0 (fun v _ => v = (.tuple #[(.bool r.1), (.bool r.2)])) := by
 unfold impl_CoversPlan at hr
 refine ret_start Try.func12 rfl 35 rfl rfl m hv fun a hF hS => q_seq (q_region (q_box (cs := [s1.v]) hF hS rfl rfl rfl fun a w b5 hF hS => q_box (cs := [s2.v]) hF hS rfl rfl rfl fun a w b6 hF hS => q_x (v := (.bool false)) hF hS (ex_assign rfl) rfl rfl fun a hF => q_x (v := (.bool false)) hF hS (ex_assign rfl) rfl rfl fun a hF => q_end (n_sq (q_seq (q_seq ?_)))))
 obtain ⟨t_9, hj1, hr⟩ := bindS hr
 refine q_join (fun a w => Fr a 35 [(2, s3.v), (3, s4.v), (4, (.pointer (some ⟨b5, 0, none⟩))), (5, (.pointer (some ⟨b6, 0, none⟩))), (23, (.bool t_9))] ∧ St [] w0 w m [[⟨b6, [s2.v], 27⟩], [⟨b5, [s1.v], 26⟩]]) ?_ ?_
 ·refine q_region (q_x (v := (.agg #[s1.v])) hF hS (ex_loadA (vs := [s1.v]) 1 0 Try.underlying26 rfl sz26 rfl rfl rfl rfl) rfl rfl fun a hF => q_x (v := s2.v) hF hS (ex_load1 0 0 Try.underlying27 rfl rfl rfl rfl) rfl rfl fun a hF => q_x (v := s3.v) hF hS (ex_move rfl) rfl rfl fun a hF => ?_)
  obtain ⟨t_7, ht_7, hj1⟩ := bindS hj1
  refine q_call (vs := [(.agg #[s1.v]), s2.v, s3.v]) hF hS Try.func42 (by kernel_rfl) rfl rfl rfl (c_impl_isPlan p_g p_s p_l t_7 ht_7 _ m hS.vis s1 h1 s2 h2 s3 h3) ?_
  rintro a w _ rfl hF hS
  refine q_x (v := (.bool (!t_7))) hF hS (ex_not rfl) rfl rfl fun a hF => q_x (v := (.bool (!t_7))) hF hS (ex_move rfl) rfl rfl fun a hF => ?_
  rcases bcase (!t_7) with hc2 | hc2
  ·have hj1 := cond_f hc2 hj1
   refine q_xg (v := (.agg #[s1.v])) hF hS (ex_loadA (vs := [s1.v]) 1 0 Try.underlying26 rfl sz26 rfl rfl rfl rfl) (wanted_t hF rfl rfl rfl hc2) rfl fun a hF => q_xg (v := s2.v) hF hS (ex_load1 0 0 Try.underlying27 rfl rfl rfl rfl) (wanted_t hF rfl rfl rfl hc2) rfl fun a hF => q_xg (v := s4.v) hF hS (ex_move rfl) (wanted_t hF rfl rfl rfl hc2) rfl fun a hF => ?_
   obtain ⟨t_8, ht_8, hj1⟩ := bindS hj1
   refine q_callg (vs := [(.agg #[s1.v]), s2.v, s4.v]) hF hS (wanted_t hF rfl rfl rfl hc2) Try.func42 (by kernel_rfl) rfl rfl rfl (c_impl_isPlan p_g p_s p_m t_8 ht_8 _ m hS.vis s1 h1 s2 h2 s4 h4) ?_
   rintro a w _ rfl hF hS
   refine q_xg (v := (.bool (!t_8))) hF hS (ex_not rfl) (wanted_t hF rfl rfl rfl hc2) rfl fun a hF => q_x (v := (.bool (!t_8))) hF hS (ex_pick_f rfl rfl hc2) rfl rfl fun a hF => q_end (n_jn ?_)
   obtain rfl := someI hj1
   exact ⟨hF.sub ⟨rfl, rfl, rfl, rfl, rfl, trivial⟩, hS⟩
  ·have hj1 := cond_t hc2 hj1
   refine q_skip hF (wanted_f hF rfl rfl rfl hc2 rfl) rfl fun a hF => q_skip hF (wanted_f hF rfl rfl rfl hc2 rfl) rfl fun a hF => q_skip hF (wanted_f hF rfl rfl rfl hc2 rfl) rfl fun a hF => q_skip hF (wanted_f hF rfl rfl rfl hc2 rfl) rfl fun a hF => q_skip hF (wanted_f hF rfl rfl rfl hc2 rfl) rfl fun a hF => q_x (v := (.bool true)) hF hS (ex_pick_t rfl rfl hc2) rfl rfl fun a hF => q_end (n_jn ?_)
   obtain rfl := someI hj1
   exact ⟨hF.sub ⟨rfl, rfl, rfl, rfl, rfl, trivial⟩, hS⟩
 ·rintro a w ⟨hF, hS⟩
  refine n_sq ?_
  rcases bcase (t_9) with hc3 | hc3
  ·have hr := cond_f hc3 hr
   refine q_cond_f hF rfl hc3 (q_skipc (n_sq (q_seq (q_seq (q_region (q_x (v := s4.v) hF hS (ex_move rfl) rfl rfl fun a hF => q_x (v := (.int .i64 (goLen p_m))) hF hS (ex_len Try.underlying37 rfl h4.len) rfl rfl fun a hF => q_x (v := (.int .i64 0)) hF hS (ex_move rfl) rfl rfl fun a hF => q_end (n_sq (q_block ?_))))))))
   obtain ⟨o4, hl4, hr⟩ := bindS hr
   refine q_loop (fun (t_10 : Int) a w => Fr a 35 [(2, s3.v), (4, (.pointer (some ⟨b5, 0, none⟩))), (5, (.pointer (some ⟨b6, 0, none⟩))), (24, s4.v), (25, (.int .i64 (goLen p_m))), (26, (.int .i64 t_10))] ∧ St [] w0 w m [[⟨b6, [s2.v], 27⟩], [⟨b5, [s1.v], 26⟩]]) (fun (o : (Unit) ⊕ (Bool × Bool)) e a w => o = .inl () ∧ e = .exit 0 ∧ Fr a 35 [] ∧ St [] w0 w m []) hl4 ⟨hF.sub ⟨rfl, rfl, rfl, rfl, rfl, rfl, trivial⟩, hS⟩ ?_ ?_
   ·clear hF hS
    rintro t_10 a w st ⟨hF, hS⟩ hb4
    unfold impl_CoversPlan_l1 at hb4
    refine q_seq (q_region (q_x (v := (.bool (decide (t_10 < (goLen p_m))))) hF hS (ex_ibin rfl rfl rfl) rfl rfl fun a hF => q_end (n_sq (q_seq ?_))))
    rcases bcase (decide (t_10 < (goLen p_m))) with hc5 | hc5
    ·have hb4 := cond_f hc5 hb4
     refine q_cond_f hF rfl hc5 (q_exit (x_sq ?_))
     obtain rfl := someI hb4
     exact ⟨nofun, .inl ⟨rfl, rfl, hF.sub trivial, hS.mask [false, false]⟩⟩
    ·have hb4 := cond_t hc5 hb4
     refine q_cond_t hF rfl hc5 (q_skipc (n_sq (q_seq (q_block (q_seq (q_region ?_))))))
     obtain ⟨e_11, he_11, hb4⟩ := bindS hb4
     obtain ⟨vs12, at12, d12⟩ := h4.at he_11 4 rfl
     obtain ⟨s13, s14, rfl, h13, h14⟩ : ∃ s13 s14 : Sl, vs12 = [(.int .i64 e_11.Level), s13.v, s14.v, (.int .i64 e_11.Sum)] ∧ Rd m s13 e_11.Vars ∧ Rd m s14 e_11.Where := d12
     refine q_x (v := (elP s4 (t_10.toNat * 4))) hF hS (ex_indexAddr Try.underlying37 sz29 rfl rfl (h4.idx he_11)) rfl rfl fun a hF => q_x (v := (.agg #[(.int .i64 e_11.Level), s13.v, s14.v, (.int .i64 e_11.Sum)])) hF hS (ex_loadEA (us := [(.int .i64 e_11.Level), s13.v, s14.v, (.int .i64 e_11.Sum)]) 0 Try.underlying29 rfl sz29 rfl ((at12).at) rfl rfl rfl) rfl rfl fun a hF => q_alloc (cs := [(.int .i64 0), nilS.v, nilS.v, (.int .i64 0)]) hF hS rfl rfl rfl fun a w b15 hF hS => q_store (vs := [(.int .i64 e_11.Level), s13.v, s14.v, (.int .i64 e_11.Sum)]) (cs' := [(.int .i64 e_11.Level), s13.v, s14.v, (.int .i64 e_11.Sum)]) 0 0 hF hS sz29 rfl rfl rfl rfl rfl rfl rfl rfl fun a w hF hS => q_end (n_sq (q_seq (q_region (q_x (v := s3.v) hF hS (ex_move rfl) rfl rfl fun a hF => q_x (v := (.func (.func 44) #[] #[(.pointer (some ⟨b5, 0, none⟩)), (.pointer (some ⟨b6, 0, none⟩)), (.pointer (some ⟨b15, 0, none⟩))])) hF hS (ex_makeFunc rfl) rfl rfl fun a hF => ?_))))
     have hS : St _ _ _ _ [[⟨b5, [s1.v], 26⟩], [⟨b6, [s2.v], 27⟩], [⟨b15, [(.int .i64 e_11.Level), s13.v, s14.v, (.int .i64 e_11.Sum)], 29⟩]] := hS.sel [2, 1, 0] (by decide)
     have hS16 : St _ _ _ _ ([[⟨b5, [s1.v], 26⟩], [⟨b6, [s2.v], 27⟩], [⟨b15, [(.int .i64 e_11.Level), s13.v, s14.v, (.int .i64 e_11.Sum)], 29⟩]] ++ []) := hS
     have hE16 := hS16.enter
     obtain ⟨t_17, ht_17, hb4⟩ := bindS hb4
     refine q_do rfl fun _ hK => wp_callX (vs := [s3.v, (.func (.func 44) #[] #[(.pointer (some ⟨b5, 0, none⟩)), (.pointer (some ⟨b6, 0, none⟩)), (.pointer (some ⟨b15, 0, none⟩))])]) hF Try.func43 (by kernel_rfl) rfl rfl rfl (c_slices_ContainsFunc_impl_Table_impl_Table_of_impl_CoversPlan_1 p_l p_g p_s e_11 t_17 ht_17 _ m b5 b6 b15 s3 h3 s1 h1 s2 h2 s13 h13 s14 h14 _ hE16) fun a w _ hR hF => hK _ _ ?_
     obtain ⟨rfl, hR16⟩ := hR
     have hS : St _ _ _ _ [[⟨b5, [s1.v], 26⟩], [⟨b6, [s2.v], 27⟩], [⟨b15, [(.int .i64 e_11.Level), s13.v, s14.v, (.int .i64 e_11.Sum)], 29⟩]] := hS16.leaveF hR16
     refine q_x (v := (.bool (!t_17))) hF hS (ex_not rfl) rfl rfl fun a hF => q_end (n_sq ?_)
     rcases bcase (!t_17) with hc6 | hc6
     ·have hb4 := cond_f hc6 hb4
      refine q_cond_f hF rfl hc6 (q_skipc (n_ib (n_sq (q_region (q_x (v := (.int .i64 (w64 (t_10 + 1)))) hF hS (ex_ibin rfl rfl rfl) rfl rfl fun a hF => q_x (v := (.int .i64 (w64 (t_10 + 1)))) hF hS (ex_move rfl) rfl rfl fun a hF => q_end ?_)))))
      obtain rfl := someI hb4
      exact ⟨rfl, hF.sub ⟨rfl, rfl, rfl, rfl, rfl, rfl, trivial⟩, hS.sel [1, 0] (by decide)⟩
     ·have hb4 := cond_t hc6 hb4
      refine q_cond_t hF rfl hc6 (q_seq (q_region (q_x (v := (.bool false)) hF hS (ex_assign rfl) rfl rfl fun a hF => q_x (v := (.bool true)) hF hS (ex_assign rfl) rfl rfl fun a hF => q_end (n_sq (q_ret (r_ib (r_sq ?_)))))))
      obtain rfl := someI hb4
      refine ⟨nofun, .inr fun ho => ?_⟩
      subst ho
      refine r_ib (r_sq ?_)
      obtain rfl := someI hr
      exact ret_of hF hS rfl (.tmp rfl (.tmp rfl .nil)) rfl
   ·rintro e a w ⟨rfl, rfl, hF, hS⟩
    refine x_ib (n_sq ?_)
    refine q_seq (q_region (q_x (v := (.bool true)) hF hS (ex_assign rfl) rfl rfl fun a hF => q_x (v := (.bool true)) hF hS (ex_assign rfl) rfl rfl fun a hF => q_end (n_sq (q_ret ?_))))
    obtain rfl := someI hr
    exact ret_of hF hS rfl (.tmp rfl (.tmp rfl .nil)) rfl
  ·have hr := cond_t hc3 hr
   refine q_cond_t hF rfl hc3 (q_seq (q_region (q_x (v := (.bool false)) hF hS (ex_assign rfl) rfl rfl fun a hF => q_x (v := (.bool false)) hF hS (ex_assign rfl) rfl rfl fun a hF => q_end (n_sq (q_ret (r_sq ?_))))))
   obtain rfl := someI hr
   exact ret_of hF hS rfl (.tmp rfl (.tmp rfl .nil)) rfl

theorem c_spec_nInput (p_g : impl_Geo) (p_s : List impl_Variable) (r : Bool) (hr : spec_nInput p_g p_s = some r) (w0 : World) (m : Mem) (hv : Vis m w0) (s1 : Sl) (h1 : Rd m s1 p_g.Parents) (s2 : Sl) (h2 : Rd m s2 p_s) :
  Ret Try.prog 79 [(.agg #[s1.v]), s2.v] w0 (fun v _ => v = (.bool r)) := by
 unfold spec_nInput at hr
 refine ret_start Try.func79 rfl 11 rfl rfl m hv fun a hF hS => q_seq (q_region (q_box (cs := [s1.v]) hF hS rfl rfl rfl fun a w b3 hF hS => q_x (v := (.bool false)) hF hS (ex_assign rfl) rfl rfl fun a hF => q_end (n_sq (q_seq ?_))))
 obtain ⟨t_6, hj1, hr⟩ := bindS hr
 refine q_join (fun a w => Fr a 11 [(4, (.bool t_6))] ∧ St [] w0 w m []) ?_ ?_
 ·refine q_region (q_x (v := (.agg #[s1.v])) hF hS (ex_loadA (vs := [s1.v]) 0 0 Try.underlying26 rfl sz26 rfl rfl rfl rfl) rfl rfl fun a hF => ?_)
  obtain ⟨t_4, ht_4, hj1⟩ := bindS hj1
  refine q_call (vs := [(.agg #[s1.v])]) hF hS Try.func62 (by kernel_rfl) rfl rfl rfl (c_spec_gGood p_g t_4 ht_4 _ m hS.vis s1 h1) ?_
  rintro a w _ rfl hF hS
  refine q_x (v := (.bool t_4)) hF hS (ex_move rfl) rfl rfl fun a hF => ?_
  rcases bcase (t_4) with hc2 | hc2
  ·have hj1 := cond_f hc2 hj1
   refine q_skip hF (wanted_f hF rfl rfl rfl hc2 rfl) rfl fun a hF => q_skip hF (wanted_f hF rfl rfl rfl hc2 rfl) rfl fun a hF => q_x (v := (.bool false)) hF hS (ex_pick_f rfl rfl hc2) rfl rfl fun a hF => q_x (v := (.bool false)) hF hS (ex_assign rfl) rfl rfl fun a hF => q_end (n_jn ?_)
   obtain rfl := someI hj1
   exact ⟨hF.sub ⟨rfl, trivial⟩, hS.mask [false]⟩
  ·have hj1 := cond_t hc2 hj1
   refine q_xg (v := s2.v) hF hS (ex_move rfl) (wanted_t hF rfl rfl rfl hc2) rfl fun a hF => ?_
   obtain ⟨t_5, ht_5, hj1⟩ := bindS hj1
   refine q_callg (vs := [s2.v]) hF hS (wanted_t hF rfl rfl rfl hc2) Try.func63 (by kernel_rfl) rfl rfl rfl (c_spec_sGood p_s t_5 ht_5 _ m hS.vis s2 h2) ?_
   rintro a w _ rfl hF hS
   refine q_x (v := (.bool t_5)) hF hS (ex_pick_t rfl rfl hc2) rfl rfl fun a hF => q_x (v := (.bool t_5)) hF hS (ex_assign rfl) rfl rfl fun a hF => q_end (n_jn ?_)
   obtain rfl := someI hj1
   exact ⟨hF.sub ⟨rfl, trivial⟩, hS.mask [false]⟩
 ·rintro a w ⟨hF, hS⟩
  refine n_sq (q_ret ?_)
  obtain rfl := someI hr
  exact ret_of hF hS rfl (.tmp rfl .nil) rfl

theorem c_spec_nPlan (p_g : impl_Geo) (p_s : List impl_Variable) (p_l : List impl_Table) (r : Bool) (hr : spec_nPlan p_g p_s p_l = some r) (w0 : World) (m : Mem) (hv : Vis m w0) (s1 : Sl) (h1 : Rd m s1 p_g.Parents) (s2 : Sl) (h2 : Rd m s2 p_s) (s3 : Sl) (h3 : Rd m s3 p_l) :
  Ret Try.prog 45 [(.agg #[s1.v]), s2.v, s3.v] w0 (fun v _ => v = (.bool r)) := by
 unfold spec_nPlan at hr
 refine ret_start Try.func45 rfl 30 rfl rfl m hv fun a hF hS => q_seq (q_region (q_box (cs := [s1.v]) hF hS rfl rfl rfl fun a w b4 hF hS => q_x (v := (.bool false)) hF hS (ex_assign rfl) rfl rfl fun a hF => q_end (n_sq (q_seq (q_seq ?_)))))
 obtain ⟨t_6, hj1, hr⟩ := bindS hr
 refine q_join (fun a w => Fr a 30 [(1, s2.v), (2, s3.v), (3, (.pointer (some ⟨b4, 0, none⟩))), (17, (.bool t_6))] ∧ St [] w0 w m [[⟨b4, [s1.v], 26⟩]]) ?_ ?_
 ·refine q_region (q_x (v := (.agg #[s1.v])) hF hS (ex_loadA (vs := [s1.v]) 0 0 Try.underlying26 rfl sz26 rfl rfl rfl rfl) rfl rfl fun a hF => q_x (v := s2.v) hF hS (ex_move rfl) rfl rfl fun a hF => ?_)
  obtain ⟨t_5, ht_5, hj1⟩ := bindS hj1
  refine q_call (vs := [(.agg #[s1.v]), s2.v]) hF hS Try.func79 (by kernel_rfl) rfl rfl rfl (c_spec_nInput p_g p_s t_5 ht_5 _ m hS.vis s1 h1 s2 h2) ?_
  rintro a w _ rfl hF hS
  refine q_x (v := (.bool (!t_5))) hF hS (ex_not rfl) rfl rfl fun a hF => q_x (v := (.bool (!t_5))) hF hS (ex_move rfl) rfl rfl fun a hF => ?_
  rcases bcase (!t_5) with hc2 | hc2
  ·have hj1 := cond_f hc2 hj1
   refine q_xg (v := s3.v) hF hS (ex_move rfl) (wanted_t hF rfl rfl rfl hc2) rfl fun a hF => q_xg (v := (.int .i64 (goLen p_l))) hF hS (ex_len Try.underlying37 rfl h3.len) (wanted_t hF rfl rfl rfl hc2) rfl fun a hF => q_xg (v := (.bool (decide (20 < (goLen p_l))))) hF hS (ex_ibin rfl rfl rfl) (wanted_t hF rfl rfl rfl hc2) rfl fun a hF => q_x (v := (.bool (decide (20 < (goLen p_l))))) hF hS (ex_pick_f rfl rfl hc2) rfl rfl fun a hF => q_end (n_jn ?_)
   obtain rfl := someI hj1
   exact ⟨hF.sub ⟨rfl, rfl, rfl, rfl, trivial⟩, hS⟩
  ·have hj1 := cond_t hc2 hj1
   refine q_skip hF (wanted_f hF rfl rfl rfl hc2 rfl) rfl fun a hF => q_skip hF (wanted_f hF rfl rfl rfl hc2 rfl) rfl fun a hF => q_skip hF (wanted_f hF rfl rfl rfl hc2 rfl) rfl fun a hF => q_x (v := (.bool true)) hF hS (ex_pick_t rfl rfl hc2) rfl rfl fun a hF => q_end (n_jn ?_)
   obtain rfl := someI hj1
   exact ⟨hF.sub ⟨rfl, rfl, rfl, rfl, trivial⟩, hS⟩
 ·rintro a w ⟨hF, hS⟩
  refine n_sq ?_
  rcases bcase (t_6) with hc3 | hc3
  ·have hr := cond_f hc3 hr
   refine q_cond_f hF rfl hc3 (q_skipc (n_sq (q_seq (q_seq (q_region (q_x (v := s3.v) hF hS (ex_move rfl) rfl rfl fun a hF => q_x (v := (.int .i64 (goLen p_l))) hF hS (ex_len Try.underlying37 rfl h3.len) rfl rfl fun a hF => q_x (v := (.int .i64 0)) hF hS (ex_move rfl) rfl rfl fun a hF => q_end (n_sq (q_block ?_))))))))
   obtain ⟨o4, hl4, hr⟩ := bindS hr
   refine q_loop (fun (t_7 : Int) a w => Fr a 30 [(1, s2.v), (3, (.pointer (some ⟨b4, 0, none⟩))), (18, s3.v), (19, (.int .i64 (goLen p_l))), (20, (.int .i64 t_7))] ∧ St [] w0 w m [[⟨b4, [s1.v], 26⟩]]) (fun (o : (Unit) ⊕ (Bool)) e a w => o = .inl () ∧ e = .exit 0 ∧ Fr a 30 [] ∧ St [] w0 w m []) hl4 ⟨hF.sub ⟨rfl, rfl, rfl, rfl, rfl, trivial⟩, hS⟩ ?_ ?_
   ·clear hF hS
    rintro t_7 a w st ⟨hF, hS⟩ hb4
    unfold spec_nPlan_l1 at hb4
    refine q_seq (q_region (q_x (v := (.bool (decide (t_7 < (goLen p_l))))) hF hS (ex_ibin rfl rfl rfl) rfl rfl fun a hF => q_end (n_sq (q_seq ?_))))
    rcases bcase (decide (t_7 < (goLen p_l))) with hc5 | hc5
    ·have hb4 := cond_f hc5 hb4
     refine q_cond_f hF rfl hc5 (q_exit (x_sq ?_))
     obtain rfl := someI hb4
     exact ⟨nofun, .inl ⟨rfl, rfl, hF.sub trivial, hS.mask [false]⟩⟩
    ·have hb4 := cond_t hc5 hb4
     refine q_cond_t hF rfl hc5 (q_skipc (n_sq (q_seq (q_block (q_seq (q_region ?_))))))
     obtain ⟨e_8, he_8, hb4⟩ := bindS hb4
     obtain ⟨vs9, at9, d9⟩ := h3.at he_8 4 rfl
     obtain ⟨s10, s11, rfl, h10, h11⟩ : ∃ s10 s11 : Sl, vs9 = [(.int .i64 e_8.Level), s10.v, s11.v, (.int .i64 e_8.Sum)] ∧ Rd m s10 e_8.Vars ∧ Rd m s11 e_8.Where := d9
     refine q_x (v := (elP s3 (t_7.toNat * 4))) hF hS (ex_indexAddr Try.underlying37 sz29 rfl rfl (h3.idx he_8)) rfl rfl fun a hF => q_x (v := (.agg #[(.int .i64 e_8.Level), s10.v, s11.v, (.int .i64 e_8.Sum)])) hF hS (ex_loadEA (us := [(.int .i64 e_8.Level), s10.v, s11.v, (.int .i64 e_8.Sum)]) 0 Try.underlying29 rfl sz29 rfl ((at9).at) rfl rfl rfl) rfl rfl fun a hF => q_alloc (cs := [(.int .i64 0), nilS.v, nilS.v, (.int .i64 0)]) hF hS rfl rfl rfl fun a w b12 hF hS => q_store (vs := [(.int .i64 e_8.Level), s10.v, s11.v, (.int .i64 e_8.Sum)]) (cs' := [(.int .i64 e_8.Level), s10.v, s11.v, (.int .i64 e_8.Sum)]) 0 0 hF hS sz29 rfl rfl rfl rfl rfl rfl rfl rfl fun a w hF hS => q_end (n_sq (q_seq (q_region (q_x (v := (.agg #[s1.v])) hF hS (ex_loadA (vs := [s1.v]) 1 0 Try.underlying26 rfl sz26 rfl rfl rfl rfl) rfl rfl fun a hF => q_x (v := s2.v) hF hS (ex_move rfl) rfl rfl fun a hF => q_x (v := (.agg #[(.int .i64 e_8.Level), s10.v, s11.v, (.int .i64 e_8.Sum)])) hF hS (ex_loadA (vs := [(.int .i64 e_8.Level), s10.v, s11.v, (.int .i64 e_8.Sum)]) 0 0 Try.underlying29 rfl sz29 rfl rfl rfl rfl) rfl rfl fun a hF => ?_))))
     obtain ⟨t_13, ht_13, hb4⟩ := bindS hb4
     refine q_call (vs := [(.agg #[s1.v]), s2.v, (.agg #[(.int .i64 e_8.Level), s10.v, s11.v, (.int .i64 e_8.Sum)])]) hF hS Try.func35 (by kernel_rfl) rfl rfl rfl (c_spec_uGood p_g p_s e_8 t_13 ht_13 _ m hS.vis s1 h1 s2 h2 s10 h10 s11 h11) ?_
     rintro a w _ rfl hF hS
     refine q_x (v := (.bool (!t_13))) hF hS (ex_not rfl) rfl rfl fun a hF => q_end (n_sq ?_)
     rcases bcase (!t_13) with hc6 | hc6
     ·have hb4 := cond_f hc6 hb4
      refine q_cond_f hF rfl hc6 (q_skipc (n_ib (n_sq (q_region (q_x (v := (.int .i64 (w64 (t_7 + 1)))) hF hS (ex_ibin rfl rfl rfl) rfl rfl fun a hF => q_x (v := (.int .i64 (w64 (t_7 + 1)))) hF hS (ex_move rfl) rfl rfl fun a hF => q_end ?_)))))
      obtain rfl := someI hb4
      exact ⟨rfl, hF.sub ⟨rfl, rfl, rfl, rfl, rfl, trivial⟩, hS.mask [false, true]⟩
     ·have hb4 := cond_t hc6 hb4
      refine q_cond_t hF rfl hc6 (q_seq (q_region (q_x (v := (.bool false)) hF hS (ex_assign rfl) rfl rfl fun a hF => q_end (n_sq (q_ret (r_ib (r_sq ?_)))))))
      obtain rfl := someI hb4
      refine ⟨nofun, .inr fun ho => ?_⟩
      subst ho
      refine r_ib (r_sq ?_)
      obtain rfl := someI hr
      exact ret_of hF hS rfl (.tmp rfl .nil) rfl
   ·rintro e a w ⟨rfl, rfl, hF, hS⟩
    refine x_ib (n_sq ?_)
    refine q_seq (q_region (q_x (v := (.bool true)) hF hS (ex_assign rfl) rfl rfl fun a hF => q_end (n_sq (q_ret ?_))))
    obtain rfl := someI hr
    exact ret_of hF hS rfl (.tmp rfl .nil) rfl
  ·have hr := cond_t hc3 hr
   refine q_cond_t hF rfl hc3 (q_seq (q_region (q_x (v := (.bool false)) hF hS (ex_assign rfl) rfl rfl fun a hF => q_end (n_sq (q_ret (r_sq ?_))))))
   obtain rfl := someI hr
   exact ret_of hF hS rfl (.tmp rfl .nil) rfl

theorem c_spec_CoversPlan (p_g : impl_Geo) (p_s : List impl_Variable) (p_l : List impl_Table) (p_m : List impl_Table) (r : Bool × Bool) (hr : spec_CoversPlan p_g p_s p_l p_m = some r) (w0 : World) (m : Mem) (hv : Vis m w0) (s1 : Sl) (h1 : Rd m s1 p_g.Parents) (s2 : Sl) (h2 : Rd m s2 p_s) (s3 : Sl) (h3 : Rd m s3 p_l) (s4 : Sl) (h4 : Rd m s4 p_m) :
  Ret Try.prog 13 [(.agg #[s1.v]), s2.v, s3.v, s4.v] w0 (fun v _ => v = (.tuple #[(.bool r.1), (.bool r.2)])) := by
 unfold spec_CoversPlan at hr
 refine ret_start Try.func13 rfl 51 rfl rfl m hv fun a hF hS => q_seq (q_region (q_box (cs := [s1.v]) hF hS rfl rfl rfl fun a w b5 hF hS => q_x (v := (.bool false)) hF hS (ex_assign rfl) rfl rfl fun a hF => q_x (v := (.bool false)) hF hS (ex_assign rfl) rfl rfl fun a hF => q_end (n_sq (q_seq (q_seq ?_)))))
 obtain ⟨t_8, hj1, hr⟩ := bindS hr
 refine q_join (fun a w => Fr a 51 [(1, s2.v), (2, s3.v), (3, s4.v), (4, (.pointer (some ⟨b5, 0, none⟩))), (26, (.bool t_8))] ∧ St [] w0 w m [[⟨b5, [s1.v], 26⟩]]) ?_ ?_
 ·refine q_region (q_x (v := (.agg #[s1.v])) hF hS (ex_loadA (vs := [s1.v]) 0 0 Try.underlying26 rfl sz26 rfl rfl rfl rfl) rfl rfl fun a hF => q_x (v := s2.v) hF hS (ex_move rfl) rfl rfl fun a hF => q_x (v := s3.v) hF hS (ex_move rfl) rfl rfl fun a hF => ?_)
  obtain ⟨t_6, ht_6, hj1⟩ := bindS hj1
  refine q_call (vs := [(.agg #[s1.v]), s2.v, s3.v]) hF hS Try.func45 (by kernel_rfl) rfl rfl rfl (c_spec_nPlan p_g p_s p_l t_6 ht_6 _ m hS.vis s1 h1 s2 h2 s3 h3) ?_
  rintro a w _ rfl hF hS
  refine q_x (v := (.bool (!t_6))) hF hS (ex_not rfl) rfl rfl fun a hF => q_x (v := (.bool (!t_6))) hF hS (ex_move rfl) rfl rfl fun a hF => ?_
  rcases bcase (!t_6) with hc2 | hc2
  ·have hj1 := cond_f hc2 hj1
   refine q_xg (v := (.agg #[s1.v])) hF hS (ex_loadA (vs := [s1.v]) 0 0 Try.underlying26 rfl sz26 rfl rfl rfl rfl) (wanted_t hF rfl rfl rfl hc2) rfl fun a hF => q_xg (v := s2.v) hF hS (ex_move rfl) (wanted_t hF rfl rfl rfl hc2) rfl fun a hF => q_xg (v := s4.v) hF hS (ex_move rfl) (wanted_t hF rfl rfl rfl hc2) rfl fun a hF => ?_
   obtain ⟨t_7, ht_7, hj1⟩ := bindS hj1
   refine q_callg (vs := [(.agg #[s1.v]), s2.v, s4.v]) hF hS (wanted_t hF rfl rfl rfl hc2) Try.func45 (by kernel_rfl) rfl rfl rfl (c_spec_nPlan p_g p_s p_m t_7 ht_7 _ m hS.vis s1 h1 s2 h2 s4 h4) ?_
   rintro a w _ rfl hF hS
   refine q_xg (v := (.bool (!t_7))) hF hS (ex_not rfl) (wanted_t hF rfl rfl rfl hc2) rfl fun a hF => q_x (v := (.bool (!t_7))) hF hS (ex_pick_f rfl rfl hc2) rfl rfl fun a hF => q_end (n_jn ?_)
   obtain rfl := someI hj1
   exact ⟨hF.sub ⟨rfl, rfl, rfl, rfl, rfl, trivial⟩, hS⟩
  ·have hj1 := cond_t hc2 hj1
   refine q_skip hF (wanted_f hF rfl rfl rfl hc2 rfl) rfl fun a hF => q_skip hF (wanted_f hF rfl rfl rfl hc2 rfl) rfl fun a hF => q_skip hF (wanted_f hF rfl rfl rfl hc2 rfl) rfl fun a hF => q_skip hF (wanted_f hF rfl rfl rfl hc2 rfl) rfl fun a hF => q_skip hF (wanted_f hF rfl rfl rfl hc2 rfl) rfl fun a hF => q_x (v := (.bool true)) hF hS (ex_pick_t rfl rfl hc2) rfl rfl fun a hF => q_end (n_jn ?_)
   obtain rfl := someI hj1
   exact ⟨hF.sub ⟨rfl, rfl, rfl, rfl, rfl, trivial⟩, hS⟩
 ·rintro a w ⟨hF, hS⟩
  refine n_sq ?_
  rcases bcase (t_8) with hc3 | hc3
  ·have hr := cond_f hc3 hr
   refine q_cond_f hF rfl hc3 (q_skipc (n_sq (q_seq (q_seq (q_region (q_x (v := s4.v) hF hS (ex_move rfl) rfl rfl fun a hF => q_x (v := (.int .i64 (goLen p_m))) hF hS (ex_len Try.underlying37 rfl h4.len) rfl rfl fun a hF => q_x (v := (.int .i64 0)) hF hS (ex_move rfl) rfl rfl fun a hF => q_end (n_sq (q_block ?_))))))))
   obtain ⟨o4, hl4, hr⟩ := bindS hr
   refine q_loop (fun (t_9 : Int) a w => Fr a 51 [(1, s2.v), (2, s3.v), (4, (.pointer (some ⟨b5, 0, none⟩))), (27, s4.v), (28, (.int .i64 (goLen p_m))), (29, (.int .i64 t_9))] ∧ St [] w0 w m [[⟨b5, [s1.v], 26⟩]]) (fun (o : (Unit) ⊕ (Bool × Bool)) e a w => o = .inl () ∧ e = .exit 0 ∧ Fr a 51 [] ∧ St [] w0 w m []) hl4 ⟨hF.sub ⟨rfl, rfl, rfl, rfl, rfl, rfl, trivial⟩, hS⟩ ?_ ?_
   ·clear hF hS
    rintro t_9 a w st ⟨hF, hS⟩ hb4
    unfold spec_CoversPlan_l1 at hb4
    refine q_seq (q_region (q_x (v := (.bool (decide (t_9 < (goLen p_m))))) hF hS (ex_ibin rfl rfl rfl) rfl rfl fun a hF => q_end (n_sq (q_seq ?_))))
    rcases bcase (decide (t_9 < (goLen p_m))) with hc5 | hc5
    ·have hb4 := cond_f hc5 hb4
     refine q_cond_f hF rfl hc5 (q_exit (x_sq ?_))
     obtain rfl := someI hb4
     exact ⟨nofun, .inl ⟨rfl, rfl, hF.sub trivial, hS.mask [false]⟩⟩
    ·have hb4 := cond_t hc5 hb4
     refine q_cond_t hF rfl hc5 (q_skipc (n_sq (q_seq (q_block (q_seq (q_region ?_))))))
     obtain ⟨e_10, he_10, hb4⟩ := bindS hb4
     obtain ⟨vs11, at11, d11⟩ := h4.at he_10 4 rfl
     obtain ⟨s12, s13, rfl, h12, h13⟩ : ∃ s12 s13 : Sl, vs11 = [(.int .i64 e_10.Level), s12.v, s13.v, (.int .i64 e_10.Sum)] ∧ Rd m s12 e_10.Vars ∧ Rd m s13 e_10.Where := d11
     refine q_x (v := (elP s4 (t_9.toNat * 4))) hF hS (ex_indexAddr Try.underlying37 sz29 rfl rfl (h4.idx he_10)) rfl rfl fun a hF => q_x (v := (.agg #[(.int .i64 e_10.Level), s12.v, s13.v, (.int .i64 e_10.Sum)])) hF hS (ex_loadEA (us := [(.int .i64 e_10.Level), s12.v, s13.v, (.int .i64 e_10.Sum)]) 0 Try.underlying29 rfl sz29 rfl ((at11).at) rfl rfl rfl) rfl rfl fun a hF => q_alloc (cs := [(.int .i64 0), nilS.v, nilS.v, (.int .i64 0)]) hF hS rfl rfl rfl fun a w b14 hF hS => q_store (vs := [(.int .i64 e_10.Level), s12.v, s13.v, (.int .i64 e_10.Sum)]) (cs' := [(.int .i64 e_10.Level), s12.v, s13.v, (.int .i64 e_10.Sum)]) 0 0 hF hS sz29 rfl rfl rfl rfl rfl rfl rfl rfl fun a w hF hS => q_end (n_sq (q_seq (q_region (q_x (v := (.bool false)) hF hS (ex_assign rfl) rfl rfl fun a hF => q_end (n_sq (q_seq (q_seq (q_region (q_x (v := s3.v) hF hS (ex_move rfl) rfl rfl fun a hF => q_x (v := (.int .i64 (goLen p_l))) hF hS (ex_len Try.underlying37 rfl h3.len) rfl rfl fun a hF => q_x (v := (.int .i64 0)) hF hS (ex_move rfl) rfl rfl fun a hF => q_end (n_sq (q_block ?_)))))))))))
     obtain ⟨met_24, hl6, hb4⟩ := bindS hb4
     refine q_loop (fun (s : Bool × Int) a w => ∃ met_15, ∃ t_16, s = (met_15, t_16) ∧ Fr a 51 [(1, s2.v), (2, s3.v), (4, (.pointer (some ⟨b5, 0, none⟩))), (11, (.pointer (some ⟨b14, 0, none⟩))), (12, (.bool met_15)), (27, s4.v), (28, (.int .i64 (goLen p_m))), (29, (.int .i64 t_9)), (33, s3.v), (34, (.int .i64 (goLen p_l))), (35, (.int .i64 t_16))] ∧ St [] w0 w m [[⟨b14, [(.int .i64 e_10.Level), s12.v, s13.v, (.int .i64 e_10.Sum)], 29⟩], [⟨b5, [s1.v], 26⟩]]) (fun (met_24 : Bool) e a w => e = .exit 2 ∧ Fr a 51 [(1, s2.v), (2, s3.v), (4, (.pointer (some ⟨b5, 0, none⟩))), (12, (.bool met_24)), (27, s4.v), (28, (.int .i64 (goLen p_m))), (29, (.int .i64 t_9))] ∧ St [] w0 w m [[⟨b5, [s1.v], 26⟩]]) hl6 ⟨_, _, rfl, hF.sub ⟨rfl, rfl, rfl, rfl, rfl, rfl, rfl, rfl, rfl, rfl, rfl, trivial⟩, hS⟩ ?_ ?_
     ·clear hF hS
      rintro s a w st ⟨met_15, t_16, rfl, hF, hS⟩ hb6
      unfold spec_CoversPlan_l2 at hb6
      refine q_seq (q_region (q_x (v := (.bool (decide (t_16 < (goLen p_l))))) hF hS (ex_ibin rfl rfl rfl) rfl rfl fun a hF => q_end (n_sq (q_seq ?_))))
      rcases bcase (decide (t_16 < (goLen p_l))) with hc7 | hc7
      ·have hb6 := cond_f hc7 hb6
       refine q_cond_f hF rfl hc7 (q_exit (x_sq ?_))
       obtain rfl := someI hb6
       exact ⟨nofun, .inl ⟨rfl, hF.sub ⟨rfl, rfl, rfl, rfl, rfl, rfl, rfl, trivial⟩, hS.mask [false, true]⟩⟩
      ·have hb6 := cond_t hc7 hb6
       refine q_cond_t hF rfl hc7 (q_skipc (n_sq (q_seq (q_block (q_seq (q_region ?_))))))
       obtain ⟨e_17, he_17, hb6⟩ := bindS hb6
       obtain ⟨vs18, at18, d18⟩ := h3.at he_17 4 rfl
       obtain ⟨s19, s20, rfl, h19, h20⟩ : ∃ s19 s20 : Sl, vs18 = [(.int .i64 e_17.Level), s19.v, s20.v, (.int .i64 e_17.Sum)] ∧ Rd m s19 e_17.Vars ∧ Rd m s20 e_17.Where := d18
       refine q_x (v := (elP s3 (t_16.toNat * 4))) hF hS (ex_indexAddr Try.underlying37 sz29 rfl rfl (h3.idx he_17)) rfl rfl fun a hF => q_x (v := (.agg #[(.int .i64 e_17.Level), s19.v, s20.v, (.int .i64 e_17.Sum)])) hF hS (ex_loadEA (us := [(.int .i64 e_17.Level), s19.v, s20.v, (.int .i64 e_17.Sum)]) 0 Try.underlying29 rfl sz29 rfl ((at18).at) rfl rfl rfl) rfl rfl fun a hF => q_alloc (cs := [(.int .i64 0), nilS.v, nilS.v, (.int .i64 0)]) hF hS rfl rfl rfl fun a w b21 hF hS => q_store (vs := [(.int .i64 e_17.Level), s19.v, s20.v, (.int .i64 e_17.Sum)]) (cs' := [(.int .i64 e_17.Level), s19.v, s20.v, (.int .i64 e_17.Sum)]) 0 0 hF hS sz29 rfl rfl rfl rfl rfl rfl rfl rfl fun a w hF hS => q_end (n_sq ?_)
       obtain ⟨met_23, hj8, hb6⟩ := bindS hb6
       refine q_join (fun a w => Fr a 51 [(1, s2.v), (2, s3.v), (4, (.pointer (some ⟨b5, 0, none⟩))), (11, (.pointer (some ⟨b14, 0, none⟩))), (12, (.bool met_23)), (27, s4.v), (28, (.int .i64 (goLen p_m))), (29, (.int .i64 t_9)), (33, s3.v), (34, (.int .i64 (goLen p_l))), (35, (.int .i64 t_16))] ∧ St [] w0 w m [[⟨b14, [(.int .i64 e_10.Level), s12.v, s13.v, (.int .i64 e_10.Sum)], 29⟩], [⟨b5, [s1.v], 26⟩]]) ?_ ?_
       ·refine q_region (q_x (v := (.bool met_15)) hF hS (ex_move rfl) rfl rfl fun a hF => q_x (v := (.bool met_15)) hF hS (ex_move rfl) rfl rfl fun a hF => ?_)
        rcases bcase (met_15) with hc9 | hc9
        ·have hj8 := cond_f hc9 hj8
         refine q_xg (v := (.agg #[s1.v])) hF hS (ex_loadA (vs := [s1.v]) 2 0 Try.underlying26 rfl sz26 rfl rfl rfl rfl) (wanted_t hF rfl rfl rfl hc9) rfl fun a hF => q_xg (v := s2.v) hF hS (ex_move rfl) (wanted_t hF rfl rfl rfl hc9) rfl fun a hF => q_xg (v := (.agg #[(.int .i64 e_10.Level), s12.v, s13.v, (.int .i64 e_10.Sum)])) hF hS (ex_loadA (vs := [(.int .i64 e_10.Level), s12.v, s13.v, (.int .i64 e_10.Sum)]) 1 0 Try.underlying29 rfl sz29 rfl rfl rfl rfl) (wanted_t hF rfl rfl rfl hc9) rfl fun a hF => q_xg (v := (.agg #[(.int .i64 e_17.Level), s19.v, s20.v, (.int .i64 e_17.Sum)])) hF hS (ex_loadA (vs := [(.int .i64 e_17.Level), s19.v, s20.v, (.int .i64 e_17.Sum)]) 0 0 Try.underlying29 rfl sz29 rfl rfl rfl rfl) (wanted_t hF rfl rfl rfl hc9) rfl fun a hF => ?_
         obtain ⟨t_22, ht_22, hj8⟩ := bindS hj8
         refine q_callg (vs := [(.agg #[s1.v]), s2.v, (.agg #[(.int .i64 e_10.Level), s12.v, s13.v, (.int .i64 e_10.Sum)]), (.agg #[(.int .i64 e_17.Level), s19.v, s20.v, (.int .i64 e_17.Sum)])]) hF hS (wanted_t hF rfl rfl rfl hc9) Try.func37 (by kernel_rfl) rfl rfl rfl (c_spec_lFollows p_g p_s e_10 e_17 t_22 ht_22 _ m hS.vis s1 h1 s2 h2 s12 h12 s13 h13 s19 h19 s20 h20) ?_
         rintro a w _ rfl hF hS
         refine q_x (v := (.bool t_22)) hF hS (ex_pick_f rfl rfl hc9) rfl rfl fun a hF => q_x (v := (.bool t_22)) hF hS (ex_assign rfl) rfl rfl fun a hF => q_end (n_jn ?_)
         obtain rfl := someI hj8
         exact ⟨hF.sub ⟨rfl, rfl, rfl, rfl, rfl, rfl, rfl, rfl, rfl, rfl, rfl, trivial⟩, hS.mask [false, true, true]⟩
        ·have hj8 := cond_t hc9 hj8
         refine q_skip hF (wanted_f hF rfl rfl rfl hc9 rfl) rfl fun a hF => q_skip hF (wanted_f hF rfl rfl rfl hc9 rfl) rfl fun a hF => q_skip hF (wanted_f hF rfl rfl rfl hc9 rfl) rfl fun a hF => q_skip hF (wanted_f hF rfl rfl rfl hc9 rfl) rfl fun a hF => q_skip hF (wanted_f hF rfl rfl rfl hc9 rfl) rfl fun a hF => q_x (v := (.bool true)) hF hS (ex_pick_t rfl rfl hc9) rfl rfl fun a hF => q_x (v := (.bool true)) hF hS (ex_assign rfl) rfl rfl fun a hF => q_end (n_jn ?_)
         obtain rfl := someI hj8
         exact ⟨hF.sub ⟨rfl, rfl, rfl, rfl, rfl, rfl, rfl, rfl, rfl, rfl, rfl, trivial⟩, hS.mask [false, true, true]⟩
       ·rintro a w ⟨hF, hS⟩
        refine n_ib (n_sq ?_)
        refine q_region (q_x (v := (.int .i64 (w64 (t_16 + 1)))) hF hS (ex_ibin rfl rfl rfl) rfl rfl fun a hF => q_x (v := (.int .i64 (w64 (t_16 + 1)))) hF hS (ex_move rfl) rfl rfl fun a hF => q_end ?_)
        obtain rfl := someI hb6
        exact ⟨rfl, _, _, rfl, hF.sub ⟨rfl, rfl, rfl, rfl, rfl, rfl, rfl, rfl, rfl, rfl, rfl, trivial⟩, hS⟩
     ·rintro e a w ⟨rfl, hF, hS⟩
      refine x_ib (n_sq ?_)
      refine q_seq (q_region (q_x (v := (.bool met_24)) hF hS (ex_move rfl) rfl rfl fun a hF => q_x (v := (.bool (!met_24))) hF hS (ex_not rfl) rfl rfl fun a hF => q_end (n_sq ?_)))
      rcases bcase (!met_24) with hc10 | hc10
      ·have hb4 := cond_f hc10 hb4
       refine q_cond_f hF rfl hc10 (q_skipc (n_ib (n_sq (q_region (q_x (v := (.int .i64 (w64 (t_9 + 1)))) hF hS (ex_ibin rfl rfl rfl) rfl rfl fun a hF => q_x (v := (.int .i64 (w64 (t_9 + 1)))) hF hS (ex_move rfl) rfl rfl fun a hF => q_end ?_)))))
       obtain rfl := someI hb4
       exact ⟨rfl, hF.sub ⟨rfl, rfl, rfl, rfl, rfl, rfl, trivial⟩, hS⟩
      ·have hb4 := cond_t hc10 hb4
       refine q_cond_t hF rfl hc10 (q_seq (q_region (q_x (v := (.bool false)) hF hS (ex_assign rfl) rfl rfl fun a hF => q_x (v := (.bool true)) hF hS (ex_assign rfl) rfl rfl fun a hF => q_end (n_sq (q_ret (r_ib (r_sq ?_)))))))
       obtain rfl := someI hb4
       refine ⟨nofun, .inr fun ho => ?_⟩
       subst ho
       refine r_ib (r_sq ?_)
       obtain rfl := someI hr
       exact ret_of hF hS rfl (.tmp rfl (.tmp rfl .nil)) rfl
   ·rintro e a w ⟨rfl, rfl, hF, hS⟩
    refine x_ib (n_sq ?_)
    refine q_seq (q_region (q_x (v := (.bool true)) hF hS (ex_assign rfl) rfl rfl fun a hF => q_x (v := (.bool true)) hF hS (ex_assign rfl) rfl rfl fun a hF => q_end (n_sq (q_ret ?_))))
    obtain rfl := someI hr
    exact ret_of hF hS rfl (.tmp rfl (.tmp rfl .nil)) rfl
  ·have hr := cond_t hc3 hr
   refine q_cond_t hF rfl hc3 (q_seq (q_region (q_x (v := (.bool false)) hF hS (ex_assign rfl) rfl rfl fun a hF => q_x (v := (.bool false)) hF hS (ex_assign rfl) rfl rfl fun a hF => q_end (n_sq (q_ret (r_sq ?_))))))
   obtain rfl := someI hr
   exact ret_of hF hS rfl (.tmp rfl (.tmp rfl .nil)) rfl

theorem c_laws_FnJoins (p_code : List (K .u8)) (p_more : List (K .u8)) (r : Bool) (hr : laws_FnJoins p_code p_more = some r) (w0 : World) (m : Mem) (hv : Vis m w0) (s1 : Sl) (h1 : Rd m s1 p_code) (s2 : Sl) (h2 : Rd m s2 p_more) :
  Ret Try.prog 3 [s1.v, s2.v] w0 (fun v _ => v = (.bool r)) := by
 unfold laws_FnJoins at hr
 refine ret_start Try.func3 rfl 122 rfl rfl m hv fun a hF hS => q_seq (q_region (q_x (v := (.bool false)) hF hS (ex_assign rfl) rfl rfl fun a hF => q_end (n_sq (q_seq (q_seq (q_region (q_x (v := s1.v) hF hS (ex_move rfl) rfl rfl fun a hF => q_x (v := s2.v) hF hS (ex_move rfl) rfl rfl fun a hF => ?_)))))))
 obtain ⟨t_3, ht_3, hr⟩ := bindS hr
 refine q_call (vs := [s1.v, s2.v]) hF hS Try.func5 (by kernel_rfl) rfl rfl rfl (c_laws_big p_code p_more t_3 ht_3 _ m hS.vis s1 h1 s2 h2) ?_
 rintro a w _ rfl hF hS
 refine q_end (n_sq ?_)
 rcases bcase (t_3) with hc1 | hc1
 ·have hr := cond_f hc1 hr
  refine q_cond_f hF rfl hc1 (q_skipc (n_sq (q_seq (q_region (q_x (v := s1.v) hF hS (ex_move rfl) rfl rfl fun a hF => ?_)))))
  obtain ⟨t_4, ht_4, hr⟩ := bindS hr
  refine q_call (vs := [s1.v]) hF hS Try.func6 (by kernel_rfl) rfl rfl rfl (c_spec_DrawJoinTables p_code t_4 ht_4 _ m hS.vis s1 h1) ?_
  have hT := hS
  rintro a w _ ⟨m5, q6, q8, q9, q10, q11, s6, s7, s8, s9, s10, s11, rfl, hm5, hR5, h6, h7, h8, h9, h10, h11⟩ hF hS2
  have hS : St _ _ _ _ [q6, q8, q9, q10, q11] := hS.join hR5 hm5
  have hm5 := MLe.weakX (O0 := []) hT hm5
  refine q_x (v := (.tuple #[(.agg #[s6.v]), s7.v, (.agg #[(.int .i64 t_4.2.2.1.Level), s8.v, s9.v, (.int .i64 t_4.2.2.1.Sum)]), (.agg #[(.int .i64 t_4.2.2.2.Level), s10.v, s11.v, (.int .i64 t_4.2.2.2.Sum)])])) hF hS (ex_move rfl) rfl rfl fun a hF => q_x (v := (.agg #[s6.v])) hF hS (ex_extract rfl rfl) rfl rfl fun a hF => q_x (v := s7.v) hF hS (ex_extract rfl rfl) rfl rfl fun a hF => q_x (v := (.agg #[(.int .i64 t_4.2.2.1.Level), s8.v, s9.v, (.int .i64 t_4.2.2.1.Sum)])) hF hS (ex_extract rfl rfl) rfl rfl fun a hF => q_x (v := (.agg #[(.int .i64 t_4.2.2.2.Level), s10.v, s11.v, (.int .i64 t_4.2.2.2.Sum)])) hF hS (ex_extract rfl rfl) rfl rfl fun a hF => q_alloc (cs := [nilS.v]) hF hS rfl rfl rfl fun a w b12 hF hS => q_alloc (cs := [(.int .i64 0), nilS.v, nilS.v, (.int .i64 0)]) hF hS rfl rfl rfl fun a w b13 hF hS => q_alloc (cs := [(.int .i64 0), nilS.v, nilS.v, (.int .i64 0)]) hF hS rfl rfl rfl fun a w b14 hF hS => q_store (vs := [s6.v]) (cs' := [s6.v]) 2 0 hF hS sz26 rfl rfl rfl rfl rfl rfl rfl rfl fun a w hF hS => q_x (v := s7.v) hF hS (ex_assign rfl) rfl rfl fun a hF => q_store (vs := [(.int .i64 t_4.2.2.1.Level), s8.v, s9.v, (.int .i64 t_4.2.2.1.Sum)]) (cs' := [(.int .i64 t_4.2.2.1.Level), s8.v, s9.v, (.int .i64 t_4.2.2.1.Sum)]) 1 0 hF hS sz29 rfl rfl rfl rfl rfl rfl rfl rfl fun a w hF hS => q_store (vs := [(.int .i64 t_4.2.2.2.Level), s10.v, s11.v, (.int .i64 t_4.2.2.2.Sum)]) (cs' := [(.int .i64 t_4.2.2.2.Level), s10.v, s11.v, (.int .i64 t_4.2.2.2.Sum)]) 0 0 hF hS sz29 rfl rfl rfl rfl rfl rfl rfl rfl fun a w hF hS => q_end (n_sq (q_seq (q_region (q_x (v := (.agg #[s6.v])) hF hS (ex_loadA (vs := [s6.v]) 2 0 Try.underlying26 rfl sz26 rfl rfl rfl rfl) rfl rfl fun a hF => q_x (v := s7.v) hF hS (ex_move rfl) rfl rfl fun a hF => q_x (v := (.agg #[(.int .i64 t_4.2.2.1.Level), s8.v, s9.v, (.int .i64 t_4.2.2.1.Sum)])) hF hS (ex_loadA (vs := [(.int .i64 t_4.2.2.1.Level), s8.v, s9.v, (.int .i64 t_4.2.2.1.Sum)]) 1 0 Try.underlying29 rfl sz29 rfl rfl rfl rfl) rfl rfl fun a hF => q_x (v := (.agg #[(.int .i64 t_4.2.2.2.Level), s10.v, s11.v, (.int .i64 t_4.2.2.2.Sum)])) hF hS (ex_loadA (vs := [(.int .i64 t_4.2.2.2.Level), s10.v, s11.v, (.int .i64 t_4.2.2.2.Sum)]) 0 0 Try.underlying29 rfl sz29 rfl rfl rfl rfl) rfl rfl fun a hF => ?_))))
  obtain ⟨m16, hl16, hv16, hz16⟩ := hS.lend
  obtain ⟨t_15, ht_15, hr⟩ := bindS hr
  refine q_call (vs := [(.agg #[s6.v]), s7.v, (.agg #[(.int .i64 t_4.2.2.1.Level), s8.v, s9.v, (.int .i64 t_4.2.2.1.Sum)]), (.agg #[(.int .i64 t_4.2.2.2.Level), s10.v, s11.v, (.int .i64 t_4.2.2.2.Sum)])]) hF hS Try.func7 (by kernel_rfl) rfl rfl rfl (c_impl_JoinTables t_4.1 t_4.2.1 t_4.2.2.1 t_4.2.2.2 t_15 ht_15 _ m16 hv16 s6 (h6.froz hl16 (hz16 3 _ rfl)) s7 (h7.mono hl16) s8 (h8.froz hl16 (hz16 4 _ rfl)) s9 (h9.froz hl16 (hz16 5 _ rfl)) s10 (h10.froz hl16 (hz16 6 _ rfl)) s11 (h11.froz hl16 (hz16 7 _ rfl))) ?_
  rintro a w _ ⟨q18, q19, s18, s19, rfl, hR17, h18, h19⟩ hF hS2
  have hS : St _ _ _ _ [q18, q19, [⟨b14, [(.int .i64 t_4.2.2.2.Level), s10.v, s11.v, (.int .i64 t_4.2.2.2.Sum)], 29⟩], [⟨b13, [(.int .i64 t_4.2.2.1.Level), s8.v, s9.v, (.int .i64 t_4.2.2.1.Sum)], 29⟩], [⟨b12, [s6.v], 26⟩], q6, q8, q9, q10, q11] := hS.joinF hR17
  have h18 := h18.any m5
  have h19 := h19.any m5
  refine q_x (v := (.tuple #[(.agg #[(.int .i64 t_15.1.Level), s18.v, s19.v, (.int .i64 t_15.1.Sum)]), (.bool t_15.2)])) hF hS (ex_move rfl) rfl rfl fun a hF => q_x (v := (.agg #[(.int .i64 t_15.1.Level), s18.v, s19.v, (.int .i64 t_15.1.Sum)])) hF hS (ex_extract rfl rfl) rfl rfl fun a hF => q_x (v := (.bool t_15.2)) hF hS (ex_extract rfl rfl) rfl rfl fun a hF => q_alloc (cs := [(.int .i64 0), nilS.v, nilS.v, (.int .i64 0)]) hF hS rfl rfl rfl fun a w b20 hF hS => q_store (vs := [(.int .i64 t_15.1.Level), s18.v, s19.v, (.int .i64 t_15.1.Sum)]) (cs' := [(.int .i64 t_15.1.Level), s18.v, s19.v, (.int .i64 t_15.1.Sum)]) 0 0 hF hS sz29 rfl rfl rfl rfl rfl rfl rfl rfl fun a w hF hS => q_x (v := (.bool t_15.2)) hF hS (ex_assign rfl) rfl rfl fun a hF => q_end (n_sq (q_seq (q_region (q_x (v := (.agg #[s6.v])) hF hS (ex_loadA (vs := [s6.v]) 5 0 Try.underlying26 rfl sz26 rfl rfl rfl rfl) rfl rfl fun a hF => q_x (v := s7.v) hF hS (ex_move rfl) rfl rfl fun a hF => q_x (v := (.agg #[(.int .i64 t_4.2.2.1.Level), s8.v, s9.v, (.int .i64 t_4.2.2.1.Sum)])) hF hS (ex_loadA (vs := [(.int .i64 t_4.2.2.1.Level), s8.v, s9.v, (.int .i64 t_4.2.2.1.Sum)]) 4 0 Try.underlying29 rfl sz29 rfl rfl rfl rfl) rfl rfl fun a hF => q_x (v := (.agg #[(.int .i64 t_4.2.2.2.Level), s10.v, s11.v, (.int .i64 t_4.2.2.2.Sum)])) hF hS (ex_loadA (vs := [(.int .i64 t_4.2.2.2.Level), s10.v, s11.v, (.int .i64 t_4.2.2.2.Sum)]) 3 0 Try.underlying29 rfl sz29 rfl rfl rfl rfl) rfl rfl fun a hF => ?_))))
  have hS : St _ _ _ _ [q6, [⟨b20, [(.int .i64 t_15.1.Level), s18.v, s19.v, (.int .i64 t_15.1.Sum)], 29⟩], q18, q19, [⟨b14, [(.int .i64 t_4.2.2.2.Level), s10.v, s11.v, (.int .i64 t_4.2.2.2.Sum)], 29⟩], [⟨b13, [(.int .i64 t_4.2.2.1.Level), s8.v, s9.v, (.int .i64 t_4.2.2.1.Sum)], 29⟩], [⟨b12, [s6.v], 26⟩], q8, q9, q10, q11] := hS.sel [6, 0, 1, 2, 3, 4, 5, 7, 8, 9, 10] (by decide)
  obtain ⟨m21, hm21, hS, hz21⟩ := hS.freeze
  have h21 := h6.froz hm21.le hz21
  have hS : St _ _ _ _ [q8, [⟨b20, [(.int .i64 t_15.1.Level), s18.v, s19.v, (.int .i64 t_15.1.Sum)], 29⟩], q18, q19, [⟨b14, [(.int .i64 t_4.2.2.2.Level), s10.v, s11.v, (.int .i64 t_4.2.2.2.Sum)], 29⟩], [⟨b13, [(.int .i64 t_4.2.2.1.Level), s8.v, s9.v, (.int .i64 t_4.2.2.1.Sum)], 29⟩], [⟨b12, [s6.v], 26⟩], q9, q10, q11] := hS.sel [6, 0, 1, 2, 3, 4, 5, 7, 8, 9] (by decide)
  obtain ⟨m22, hm22, hS, hz22⟩ := hS.freeze
  have h22 := (h8.mono hm21.le).froz hm22.le hz22
  have hS : St _ _ _ _ [q9, [⟨b20, [(.int .i64 t_15.1.Level), s18.v, s19.v, (.int .i64 t_15.1.Sum)], 29⟩], q18, q19, [⟨b14, [(.int .i64 t_4.2.2.2.Level), s10.v, s11.v, (.int .i64 t_4.2.2.2.Sum)], 29⟩], [⟨b13, [(.int .i64 t_4.2.2.1.Level), s8.v, s9.v, (.int .i64 t_4.2.2.1.Sum)], 29⟩], [⟨b12, [s6.v], 26⟩], q10, q11] := hS.sel [6, 0, 1, 2, 3, 4, 5, 7, 8] (by decide)
  obtain ⟨m23, hm23, hS, hz23⟩ := hS.freeze
  have h23 := ((h9.mono hm21.le).mono hm22.le).froz hm23.le hz23
  have hS : St _ _ _ _ [q10, [⟨b20, [(.int .i64 t_15.1.Level), s18.v, s19.v, (.int .i64 t_15.1.Sum)], 29⟩], q18, q19, [⟨b14, [(.int .i64 t_4.2.2.2.Level), s10.v, s11.v, (.int .i64 t_4.2.2.2.Sum)], 29⟩], [⟨b13, [(.int .i64 t_4.2.2.1.Level), s8.v, s9.v, (.int .i64 t_4.2.2.1.Sum)], 29⟩], [⟨b12, [s6.v], 26⟩], q11] := hS.sel [6, 0, 1, 2, 3, 4, 5, 7] (by decide)
  obtain ⟨m24, hm24, hS, hz24⟩ := hS.freeze
  have h24 := (((h10.mono hm21.le).mono hm22.le).mono hm23.le).froz hm24.le hz24
  have hS : St _ _ _ _ [q11, [⟨b20, [(.int .i64 t_15.1.Level), s18.v, s19.v, (.int .i64 t_15.1.Sum)], 29⟩], q18, q19, [⟨b14, [(.int .i64 t_4.2.2.2.Level), s10.v, s11.v, (.int .i64 t_4.2.2.2.Sum)], 29⟩], [⟨b13, [(.int .i64 t_4.2.2.1.Level), s8.v, s9.v, (.int .i64 t_4.2.2.1.Sum)], 29⟩], [⟨b12, [s6.v], 26⟩]] := hS.sel [6, 0, 1, 2, 3, 4, 5] (by decide)
  obtain ⟨m25, hm25, hS, hz25⟩ := hS.freeze
  have h25 := ((((h11.mono hm21.le).mono hm22.le).mono hm23.le).mono hm24.le).froz hm25.le hz25
  obtain ⟨t_26, ht_26, hr⟩ := bindS hr
  refine q_call (vs := [(.agg #[s6.v]), s7.v, (.agg #[(.int .i64 t_4.2.2.1.Level), s8.v, s9.v, (.int .i64 t_4.2.2.1.Sum)]), (.agg #[(.int .i64 t_4.2.2.2.Level), s10.v, s11.v, (.int .i64 t_4.2.2.2.Sum)])]) hF hS Try.func8 (by kernel_rfl) rfl rfl rfl (c_spec_JoinTables t_4.1 t_4.2.1 t_4.2.2.1 t_4.2.2.2 t_26 ht_26 _ m25 hS.vis s6 ((((h21.mono hm22.le).mono hm23.le).mono hm24.le).mono hm25.le) s7 (((((h7.mono hm21.le).mono hm22.le).mono hm23.le).mono hm24.le).mono hm25.le) s8 (((h22.mono hm23.le).mono hm24.le).mono hm25.le) s9 ((h23.mono hm24.le).mono hm25.le) s10 (h24.mono hm25.le) s11 h25) ?_
  have hT := hS
  rintro a w _ ⟨m27, q28, q29, s28, s29, rfl, hm27, hR27, h28, h29⟩ hF hS2
  have hS : St _ _ _ _ [q28, q29, [⟨b20, [(.int .i64 t_15.1.Level), s18.v, s19.v, (.int .i64 t_15.1.Sum)], 29⟩], q18, q19, [⟨b14, [(.int .i64 t_4.2.2.2.Level), s10.v, s11.v, (.int .i64 t_4.2.2.2.Sum)], 29⟩], [⟨b13, [(.int .i64 t_4.2.2.1.Level), s8.v, s9.v, (.int .i64 t_4.2.2.1.Sum)], 29⟩], [⟨b12, [s6.v], 26⟩]] := hS.join hR27 hm27
  have hm27 := MLe.weakX (O0 := []) hT hm27
  refine q_x (v := (.tuple #[(.agg #[(.int .i64 t_26.1.Level), s28.v, s29.v, (.int .i64 t_26.1.Sum)]), (.bool t_26.2)])) hF hS (ex_move rfl) rfl rfl fun a hF => q_x (v := (.agg #[(.int .i64 t_26.1.Level), s28.v, s29.v, (.int .i64 t_26.1.Sum)])) hF hS (ex_extract rfl rfl) rfl rfl fun a hF => q_x (v := (.bool t_26.2)) hF hS (ex_extract rfl rfl) rfl rfl fun a hF => q_alloc (cs := [(.int .i64 0), nilS.v, nilS.v, (.int .i64 0)]) hF hS rfl rfl rfl fun a w b30 hF hS => q_store (vs := [(.int .i64 t_26.1.Level), s28.v, s29.v, (.int .i64 t_26.1.Sum)]) (cs' := [(.int .i64 t_26.1.Level), s28.v, s29.v, (.int .i64 t_26.1.Sum)]) 0 0 hF hS sz29 rfl rfl rfl rfl rfl rfl rfl rfl fun a w hF hS => q_x (v := (.bool t_26.2)) hF hS (ex_assign rfl) rfl rfl fun a hF => q_end (n_sq (q_seq (q_seq ?_)))
  obtain ⟨t_33, hj2, hr⟩ := bindS hr
  refine q_join (fun a w => Fr a 122 [(1, s2.v), (5, (.pointer (some ⟨b12, 0, none⟩))), (6, s7.v), (7, (.pointer (some ⟨b13, 0, none⟩))), (8, (.pointer (some ⟨b14, 0, none⟩))), (9, (.pointer (some ⟨b20, 0, none⟩))), (10, (.bool t_15.2)), (59, (.bool t_33))] ∧ St [] w0 w m27 [q18, q19, [⟨b20, [(.int .i64 t_15.1.Level), s18.v, s19.v, (.int .i64 t_15.1.Sum)], 29⟩], [⟨b14, [(.int .i64 t_4.2.2.2.Level), s10.v, s11.v, (.int .i64 t_4.2.2.2.Sum)], 29⟩], [⟨b13, [(.int .i64 t_4.2.2.1.Level), s8.v, s9.v, (.int .i64 t_4.2.2.1.Sum)], 29⟩], [⟨b12, [s6.v], 26⟩]]) ?_ ?_
  ·refine q_region (q_x (v := (.bool t_15.2)) hF hS (ex_move rfl) rfl rfl fun a hF => q_x (v := (.bool t_26.2)) hF hS (ex_move rfl) rfl rfl fun a hF => q_x (v := (.bool (t_15.2 != t_26.2))) hF hS (ex_bne Try.underlying4 rfl rfl) rfl rfl fun a hF => q_x (v := (.bool (t_15.2 != t_26.2))) hF hS (ex_move rfl) rfl rfl fun a hF => ?_)
   rcases bcase (t_15.2 != t_26.2) with hc3 | hc3
   ·have hj2 := cond_f hc3 hj2
    refine q_xg (v := (.agg #[(.int .i64 t_15.1.Level), s18.v, s19.v, (.int .i64 t_15.1.Sum)])) hF hS (ex_loadA (vs := [(.int .i64 t_15.1.Level), s18.v, s19.v, (.int .i64 t_15.1.Sum)]) 3 0 Try.underlying29 rfl sz29 rfl rfl rfl rfl) (wanted_t hF rfl rfl rfl hc3) rfl fun a hF => q_xg (v := (.agg #[(.int .i64 t_26.1.Level), s28.v, s29.v, (.int .i64 t_26.1.Sum)])) hF hS (ex_loadA (vs := [(.int .i64 t_26.1.Level), s28.v, s29.v, (.int .i64 t_26.1.Sum)]) 0 0 Try.underlying29 rfl sz29 rfl rfl rfl rfl) (wanted_t hF rfl rfl rfl hc3) rfl fun a hF => ?_
    obtain ⟨m32, hl32, hv32, hz32⟩ := hS.lend
    obtain ⟨t_31, ht_31, hj2⟩ := bindS hj2
    refine q_callg (vs := [(.agg #[(.int .i64 t_15.1.Level), s18.v, s19.v, (.int .i64 t_15.1.Sum)]), (.agg #[(.int .i64 t_26.1.Level), s28.v, s29.v, (.int .i64 t_26.1.Sum)])]) hF hS (wanted_t hF rfl rfl rfl hc3) Try.func9 (by kernel_rfl) rfl rfl rfl (c_laws_pSameTable t_15.1 t_26.1 t_31 ht_31 _ m32 hv32 s18 (((((((h18.mono hm21.le).mono hm22.le).mono hm23.le).mono hm24.le).mono hm25.le).mono hm27.le).froz hl32 (hz32 4 _ rfl)) s19 (((((((h19.mono hm21.le).mono hm22.le).mono hm23.le).mono hm24.le).mono hm25.le).mono hm27.le).froz hl32 (hz32 5 _ rfl)) s28 (h28.froz hl32 (hz32 1 _ rfl)) s29 (h29.froz hl32 (hz32 2 _ rfl))) ?_
    rintro a w _ rfl hF hS
    refine q_xg (v := (.bool (!t_31))) hF hS (ex_not rfl) (wanted_t hF rfl rfl rfl hc3) rfl fun a hF => q_x (v := (.bool (!t_31))) hF hS (ex_pick_f rfl rfl hc3) rfl rfl fun a hF => q_end (n_jn ?_)
    obtain rfl := someI hj2
    exact ⟨hF.sub ⟨rfl, rfl, rfl, rfl, rfl, rfl, rfl, rfl, trivial⟩, hS.sel [4, 5, 3, 6, 7, 8] (by decide)⟩
   ·have hj2 := cond_t hc3 hj2
    refine q_skip hF (wanted_f hF rfl rfl rfl hc3 rfl) rfl fun a hF => q_skip hF (wanted_f hF rfl rfl rfl hc3 rfl) rfl fun a hF => q_skip hF (wanted_f hF rfl rfl rfl hc3 rfl) rfl fun a hF => q_skip hF (wanted_f hF rfl rfl rfl hc3 rfl) rfl fun a hF => q_x (v := (.bool true)) hF hS (ex_pick_t rfl rfl hc3) rfl rfl fun a hF => q_end (n_jn ?_)
    obtain rfl := someI hj2
    exact ⟨hF.sub ⟨rfl, rfl, rfl, rfl, rfl, rfl, rfl, rfl, trivial⟩, hS.sel [4, 5, 3, 6, 7, 8] (by decide)⟩
  ·rintro a w ⟨hF, hS⟩
   refine n_sq ?_
   rcases bcase (t_33) with hc4 | hc4
   ·have hr := cond_f hc4 hr
    refine q_cond_f hF rfl hc4 (q_skipc (n_sq (q_seq (q_seq (q_region (q_x (v := (.bool t_15.2)) hF hS (ex_move rfl) rfl rfl fun a hF => q_end (n_sq ?_)))))))
    obtain ⟨j5, hj5, hr⟩ := bindS hr
    refine q_join (fun a w => j5 = .inl () ∧ Fr a 122 [(1, s2.v)] ∧ St [] w0 w m27 []) ?_ ?_
    ·rcases bcase (t_15.2) with hc6 | hc6
     ·have hj5 := cond_f hc6 hj5
      refine q_cond_f hF rfl hc6 (q_skipc (n_jn ?_))
      obtain rfl := someI hj5
      exact ⟨rfl, hF.sub ⟨rfl, trivial⟩, hS.mask [false, false, false, false, false, false]⟩
     ·have hj5 := cond_t hc6 hj5
      refine q_cond_t hF rfl hc6 (q_seq (q_region (q_x (v := (.agg #[s6.v])) hF hS (ex_loadA (vs := [s6.v]) 5 0 Try.underlying26 rfl sz26 rfl rfl rfl rfl) rfl rfl fun a hF => q_x (v := s7.v) hF hS (ex_move rfl) rfl rfl fun a hF => q_x (v := (.agg #[(.int .i64 t_4.2.2.1.Level), s8.v, s9.v, (.int .i64 t_4.2.2.1.Sum)])) hF hS (ex_loadA (vs := [(.int .i64 t_4.2.2.1.Level), s8.v, s9.v, (.int .i64 t_4.2.2.1.Sum)]) 4 0 Try.underlying29 rfl sz29 rfl rfl rfl rfl) rfl rfl fun a hF => q_x (v := (.agg #[(.int .i64 t_15.1.Level), s18.v, s19.v, (.int .i64 t_15.1.Sum)])) hF hS (ex_loadA (vs := [(.int .i64 t_15.1.Level), s18.v, s19.v, (.int .i64 t_15.1.Sum)]) 2 0 Try.underlying29 rfl sz29 rfl rfl rfl rfl) rfl rfl fun a hF => ?_)))
      obtain ⟨m35, hl35, hv35, hz35⟩ := hS.lend
      obtain ⟨t_34, ht_34, hj5⟩ := bindS hj5
      refine q_call (vs := [(.agg #[s6.v]), s7.v, (.agg #[(.int .i64 t_4.2.2.1.Level), s8.v, s9.v, (.int .i64 t_4.2.2.1.Sum)]), (.agg #[(.int .i64 t_15.1.Level), s18.v, s19.v, (.int .i64 t_15.1.Sum)])]) hF hS Try.func10 (by kernel_rfl) rfl rfl rfl (c_impl_FollowsFrom t_4.1 t_4.2.1 t_4.2.2.1 t_15.1 t_34 ht_34 _ m35 hv35 s6 ((((((h21.mono hm22.le).mono hm23.le).mono hm24.le).mono hm25.le).mono hm27.le).mono hl35) s7 (((((((h7.mono hm21.le).mono hm22.le).mono hm23.le).mono hm24.le).mono hm25.le).mono hm27.le).mono hl35) s8 (((((h22.mono hm23.le).mono hm24.le).mono hm25.le).mono hm27.le).mono hl35) s9 ((((h23.mono hm24.le).mono hm25.le).mono hm27.le).mono hl35) s18 (((((((h18.mono hm21.le).mono hm22.le).mono hm23.le).mono hm24.le).mono hm25.le).mono hm27.le).froz hl35 (hz35 0 _ rfl)) s19 (((((((h19.mono hm21.le).mono hm22.le).mono hm23.le).mono hm24.le).mono hm25.le).mono hm27.le).froz hl35 (hz35 1 _ rfl))) ?_
      rintro a w _ rfl hF hS
      refine q_x (v := (.tuple #[(.bool t_34.1), (.bool t_34.2)])) hF hS (ex_move rfl) rfl rfl fun a hF => q_x (v := (.bool t_34.1)) hF hS (ex_extract rfl rfl) rfl rfl fun a hF => q_x (v := (.bool t_34.2)) hF hS (ex_extract rfl rfl) rfl rfl fun a hF => q_x (v := (.bool t_34.1)) hF hS (ex_assign rfl) rfl rfl fun a hF => q_x (v := (.bool t_34.2)) hF hS (ex_assign rfl) rfl rfl fun a hF => q_end (n_sq (q_seq (q_region (q_x (v := (.agg #[s6.v])) hF hS (ex_loadA (vs := [s6.v]) 5 0 Try.underlying26 rfl sz26 rfl rfl rfl rfl) rfl rfl fun a hF => q_x (v := s7.v) hF hS (ex_move rfl) rfl rfl fun a hF => q_x (v := (.agg #[(.int .i64 t_4.2.2.2.Level), s10.v, s11.v, (.int .i64 t_4.2.2.2.Sum)])) hF hS (ex_loadA (vs := [(.int .i64 t_4.2.2.2.Level), s10.v, s11.v, (.int .i64 t_4.2.2.2.Sum)]) 3 0 Try.underlying29 rfl sz29 rfl rfl rfl rfl) rfl rfl fun a hF => q_x (v := (.agg #[(.int .i64 t_15.1.Level), s18.v, s19.v, (.int .i64 t_15.1.Sum)])) hF hS (ex_loadA (vs := [(.int .i64 t_15.1.Level), s18.v, s19.v, (.int .i64 t_15.1.Sum)]) 2 0 Try.underlying29 rfl sz29 rfl rfl rfl rfl) rfl rfl fun a hF => ?_))))
      obtain ⟨m37, hl37, hv37, hz37⟩ := hS.lend
      obtain ⟨t_36, ht_36, hj5⟩ := bindS hj5
      refine q_call (vs := [(.agg #[s6.v]), s7.v, (.agg #[(.int .i64 t_4.2.2.2.Level), s10.v, s11.v, (.int .i64 t_4.2.2.2.Sum)]), (.agg #[(.int .i64 t_15.1.Level), s18.v, s19.v, (.int .i64 t_15.1.Sum)])]) hF hS Try.func10 (by kernel_rfl) rfl rfl rfl (c_impl_FollowsFrom t_4.1 t_4.2.1 t_4.2.2.2 t_15.1 t_36 ht_36 _ m37 hv37 s6 ((((((h21.mono hm22.le).mono hm23.le).mono hm24.le).mono hm25.le).mono hm27.le).mono hl37) s7 (((((((h7.mono hm21.le).mono hm22.le).mono hm23.le).mono hm24.le).mono hm25.le).mono hm27.le).mono hl37) s10 (((h24.mono hm25.le).mono hm27.le).mono hl37) s11 ((h25.mono hm27.le).mono hl37) s18 (((((((h18.mono hm21.le).mono hm22.le).mono hm23.le).mono hm24.le).mono hm25.le).mono hm27.le).froz hl37 (hz37 0 _ rfl)) s19 (((((((h19.mono hm21.le).mono hm22.le).mono hm23.le).mono hm24.le).mono hm25.le).mono hm27.le).froz hl37 (hz37 1 _ rfl))) ?_
      rintro a w _ rfl hF hS
      refine q_x (v := (.tuple #[(.bool t_36.1), (.bool t_36.2)])) hF hS (ex_move rfl) rfl rfl fun a hF => q_x (v := (.bool t_36.1)) hF hS (ex_extract rfl rfl) rfl rfl fun a hF => q_x (v := (.bool t_36.2)) hF hS (ex_extract rfl rfl) rfl rfl fun a hF => q_x (v := (.bool t_36.1)) hF hS (ex_assign rfl) rfl rfl fun a hF => q_x (v := (.bool t_36.2)) hF hS (ex_assign rfl) rfl rfl fun a hF => q_end (n_sq (q_seq ?_))
      obtain ⟨t_38, hj7, hj5⟩ := bindS hj5
      refine q_join (fun a w => Fr a 122 [(1, s2.v), (90, (.bool t_38))] ∧ St [] w0 w m27 []) ?_ ?_
      ·refine q_region (q_x (v := (.bool t_34.1)) hF hS (ex_move rfl) rfl rfl fun a hF => q_x (v := (.bool (!t_34.1))) hF hS (ex_not rfl) rfl rfl fun a hF => q_x (v := (.bool (!t_34.1))) hF hS (ex_move rfl) rfl rfl fun a hF => ?_)
       rcases bcase (!t_34.1) with hc8 | hc8
       ·have hj7 := cond_f hc8 hj7
        refine q_xg (v := (.bool t_34.2)) hF hS (ex_move rfl) (wanted_t hF rfl rfl rfl hc8) rfl fun a hF => q_xg (v := (.bool (!t_34.2))) hF hS (ex_not rfl) (wanted_t hF rfl rfl rfl hc8) rfl fun a hF => q_x (v := (.bool (!t_34.2))) hF hS (ex_pick_f rfl rfl hc8) rfl rfl fun a hF => q_x (v := (.bool (!t_34.2))) hF hS (ex_move rfl) rfl rfl fun a hF => ?_
        rcases bcase (!t_34.2) with hc9 | hc9
        ·have hj7 := cond_f hc9 hj7
         refine q_xg (v := (.bool t_36.1)) hF hS (ex_move rfl) (wanted_t hF rfl rfl rfl hc9) rfl fun a hF => q_xg (v := (.bool (!t_36.1))) hF hS (ex_not rfl) (wanted_t hF rfl rfl rfl hc9) rfl fun a hF => q_x (v := (.bool (!t_36.1))) hF hS (ex_pick_f rfl rfl hc9) rfl rfl fun a hF => q_x (v := (.bool (!t_36.1))) hF hS (ex_move rfl) rfl rfl fun a hF => ?_
         rcases bcase (!t_36.1) with hc10 | hc10
         ·have hj7 := cond_f hc10 hj7
          refine q_xg (v := (.bool t_36.2)) hF hS (ex_move rfl) (wanted_t hF rfl rfl rfl hc10) rfl fun a hF => q_xg (v := (.bool (!t_36.2))) hF hS (ex_not rfl) (wanted_t hF rfl rfl rfl hc10) rfl fun a hF => q_x (v := (.bool (!t_36.2))) hF hS (ex_pick_f rfl rfl hc10) rfl rfl fun a hF => q_end (n_jn ?_)
          obtain rfl := someI hj7
          exact ⟨hF.sub ⟨rfl, rfl, trivial⟩, hS.mask [false, false, false, false, false, false]⟩
         ·have hj7 := cond_t hc10 hj7
          refine q_skip hF (wanted_f hF rfl rfl rfl hc10 rfl) rfl fun a hF => q_skip hF (wanted_f hF rfl rfl rfl hc10 rfl) rfl fun a hF => q_x (v := (.bool true)) hF hS (ex_pick_t rfl rfl hc10) rfl rfl fun a hF => q_end (n_jn ?_)
          obtain rfl := someI hj7
          exact ⟨hF.sub ⟨rfl, rfl, trivial⟩, hS.mask [false, false, false, false, false, false]⟩
        ·have hj7 := cond_t hc9 hj7
         refine q_skip hF (wanted_f hF rfl rfl rfl hc9 rfl) rfl fun a hF => q_skip hF (wanted_f hF rfl rfl rfl hc9 rfl) rfl fun a hF => q_x (v := (.bool true)) hF hS (ex_pick_t rfl rfl hc9) rfl rfl fun a hF => q_x (v := (.bool true)) hF hS (ex_move rfl) rfl rfl fun a hF => q_skip hF (wanted_f hF rfl rfl rfl rfl rfl) rfl fun a hF => q_skip hF (wanted_f hF rfl rfl rfl rfl rfl) rfl fun a hF => q_x (v := (.bool true)) hF hS (ex_pick_t rfl rfl rfl) rfl rfl fun a hF => q_end (n_jn ?_)
         obtain rfl := someI hj7
         exact ⟨hF.sub ⟨rfl, rfl, trivial⟩, hS.mask [false, false, false, false, false, false]⟩
       ·have hj7 := cond_t hc8 hj7
        refine q_skip hF (wanted_f hF rfl rfl rfl hc8 rfl) rfl fun a hF => q_skip hF (wanted_f hF rfl rfl rfl hc8 rfl) rfl fun a hF => q_x (v := (.bool true)) hF hS (ex_pick_t rfl rfl hc8) rfl rfl fun a hF => q_x (v := (.bool true)) hF hS (ex_move rfl) rfl rfl fun a hF => q_skip hF (wanted_f hF rfl rfl rfl rfl rfl) rfl fun a hF => q_skip hF (wanted_f hF rfl rfl rfl rfl rfl) rfl fun a hF => q_x (v := (.bool true)) hF hS (ex_pick_t rfl rfl rfl) rfl rfl fun a hF => q_x (v := (.bool true)) hF hS (ex_move rfl) rfl rfl fun a hF => q_skip hF (wanted_f hF rfl rfl rfl rfl rfl) rfl fun a hF => q_skip hF (wanted_f hF rfl rfl rfl rfl rfl) rfl fun a hF => q_x (v := (.bool true)) hF hS (ex_pick_t rfl rfl rfl) rfl rfl fun a hF => q_end (n_jn ?_)
        obtain rfl := someI hj7
        exact ⟨hF.sub ⟨rfl, rfl, trivial⟩, hS.mask [false, false, false, false, false, false]⟩
      ·rintro a w ⟨hF, hS⟩
       refine n_sq ?_
       rcases bcase (t_38) with hc11 | hc11
       ·have hj5 := cond_f hc11 hj5
        refine q_cond_f hF rfl hc11 (q_skipc (n_jn ?_))
        obtain rfl := someI hj5
        exact ⟨rfl, hF.sub ⟨rfl, trivial⟩, hS⟩
       ·have hj5 := cond_t hc11 hj5
        refine q_cond_t hF rfl hc11 (q_seq (q_region (q_x (v := (.bool false)) hF hS (ex_assign rfl) rfl rfl fun a hF => q_end (n_sq (q_ret (r_jn ?_))))))
        obtain rfl := someI hj5
        refine r_sq ?_
        obtain rfl := someI hr
        exact ret_of hF hS rfl (.tmp rfl .nil) rfl
    ·rintro a w ⟨rfl, hF, hS⟩
     refine n_sq ?_
     refine q_seq (q_region (q_x (v := s2.v) hF hS (ex_move rfl) rfl rfl fun a hF => ?_))
     obtain ⟨t_39, ht_39, hr⟩ := bindS hr
     refine q_call (vs := [s2.v]) hF hS Try.func11 (by kernel_rfl) rfl rfl rfl (c_spec_DrawCoversPlan p_more t_39 ht_39 _ m27 hS.vis s2 (((((((h2.mono hm5.le).mono hm21.le).mono hm22.le).mono hm23.le).mono hm24.le).mono hm25.le).mono hm27.le)) ?_
     have hT := hS
     rintro a w _ ⟨m40, q43, q44, s41, s42, s43, s44, rfl, hm40, hR40, h41, h42, h43, h44⟩ hF hS2
     have hS : St _ _ _ _ [q43, q44] := hS.join hR40 hm40
     have hm40 := MLe.weakX (O0 := []) hT hm40
     refine q_x (v := (.tuple #[(.agg #[s41.v]), s42.v, s43.v, s44.v])) hF hS (ex_move rfl) rfl rfl fun a hF => q_x (v := (.agg #[s41.v])) hF hS (ex_extract rfl rfl) rfl rfl fun a hF => q_x (v := s42.v) hF hS (ex_extract rfl rfl) rfl rfl fun a hF => q_x (v := s43.v) hF hS (ex_extract rfl rfl) rfl rfl fun a hF => q_x (v := s44.v) hF hS (ex_extract rfl rfl) rfl rfl fun a hF => q_alloc (cs := [nilS.v]) hF hS rfl rfl rfl fun a w b45 hF hS => q_store (vs := [s41.v]) (cs' := [s41.v]) 0 0 hF hS sz26 rfl rfl rfl rfl rfl rfl rfl rfl fun a w hF hS => q_x (v := s42.v) hF hS (ex_assign rfl) rfl rfl fun a hF => q_x (v := s43.v) hF hS (ex_assign rfl) rfl rfl fun a hF => q_x (v := s44.v) hF hS (ex_assign rfl) rfl rfl fun a hF => q_end (n_sq (q_seq (q_region (q_x (v := (.agg #[s41.v])) hF hS (ex_loadA (vs := [s41.v]) 0 0 Try.underlying26 rfl sz26 rfl rfl rfl rfl) rfl rfl fun a hF => q_x (v := s42.v) hF hS (ex_move rfl) rfl rfl fun a hF => q_x (v := s43.v) hF hS (ex_move rfl) rfl rfl fun a hF => q_x (v := s44.v) hF hS (ex_move rfl) rfl rfl fun a hF => ?_))))
     obtain ⟨m47, hl47, hv47, hz47⟩ := hS.lend
     obtain ⟨t_46, ht_46, hr⟩ := bindS hr
     refine q_call (vs := [(.agg #[s41.v]), s42.v, s43.v, s44.v]) hF hS Try.func12 (by kernel_rfl) rfl rfl rfl (c_impl_CoversPlan t_39.1 t_39.2.1 t_39.2.2.1 t_39.2.2.2 t_46 ht_46 _ m47 hv47 s41 (h41.mono hl47) s42 (h42.mono hl47) s43 (h43.froz hl47 (hz47 1 _ rfl)) s44 (h44.froz hl47 (hz47 2 _ rfl))) ?_
     rintro a w _ rfl hF hS
     refine q_x (v := (.tuple #[(.bool t_46.1), (.bool t_46.2)])) hF hS (ex_move rfl) rfl rfl fun a hF => q_x (v := (.bool t_46.1)) hF hS (ex_extract rfl rfl) rfl rfl fun a hF => q_x (v := (.bool t_46.2)) hF hS (ex_extract rfl rfl) rfl rfl fun a hF => q_x (v := (.bool t_46.1)) hF hS (ex_assign rfl) rfl rfl fun a hF => q_x (v := (.bool t_46.2)) hF hS (ex_assign rfl) rfl rfl fun a hF => q_end (n_sq (q_seq (q_region (q_x (v := (.agg #[s41.v])) hF hS (ex_loadA (vs := [s41.v]) 0 0 Try.underlying26 rfl sz26 rfl rfl rfl rfl) rfl rfl fun a hF => q_x (v := s42.v) hF hS (ex_move rfl) rfl rfl fun a hF => q_x (v := s43.v) hF hS (ex_move rfl) rfl rfl fun a hF => q_x (v := s44.v) hF hS (ex_move rfl) rfl rfl fun a hF => ?_))))
     obtain ⟨m49, hl49, hv49, hz49⟩ := hS.lend
     obtain ⟨t_48, ht_48, hr⟩ := bindS hr
     refine q_call (vs := [(.agg #[s41.v]), s42.v, s43.v, s44.v]) hF hS Try.func13 (by kernel_rfl) rfl rfl rfl (c_spec_CoversPlan t_39.1 t_39.2.1 t_39.2.2.1 t_39.2.2.2 t_48 ht_48 _ m49 hv49 s41 (h41.mono hl49) s42 (h42.mono hl49) s43 (h43.froz hl49 (hz49 1 _ rfl)) s44 (h44.froz hl49 (hz49 2 _ rfl))) ?_
     rintro a w _ rfl hF hS
     refine q_x (v := (.tuple #[(.bool t_48.1), (.bool t_48.2)])) hF hS (ex_move rfl) rfl rfl fun a hF => q_x (v := (.bool t_48.1)) hF hS (ex_extract rfl rfl) rfl rfl fun a hF => q_x (v := (.bool t_48.2)) hF hS (ex_extract rfl rfl) rfl rfl fun a hF => q_x (v := (.bool t_48.1)) hF hS (ex_assign rfl) rfl rfl fun a hF => q_x (v := (.bool t_48.2)) hF hS (ex_assign rfl) rfl rfl fun a hF => q_end (n_sq (q_seq ?_))
     obtain ⟨t_50, hj12, hr⟩ := bindS hr
     refine q_join (fun a w => Fr a 122 [(4, (.bool t_50))] ∧ St [] w0 w m40 []) ?_ ?_
     ·refine q_region (q_x (v := (.bool t_46.2)) hF hS (ex_move rfl) rfl rfl fun a hF => q_x (v := (.bool t_48.2)) hF hS (ex_move rfl) rfl rfl fun a hF => q_x (v := (.bool (t_46.2 == t_48.2))) hF hS (ex_beq Try.underlying4 rfl rfl) rfl rfl fun a hF => q_x (v := (.bool (t_46.2 == t_48.2))) hF hS (ex_move rfl) rfl rfl fun a hF => ?_)
      rcases bcase (t_46.2 == t_48.2) with hc13 | hc13
      ·have hj12 := cond_f hc13 hj12
       refine q_skip hF (wanted_f hF rfl rfl rfl hc13 rfl) rfl fun a hF => q_skip hF (wanted_f hF rfl rfl rfl hc13 rfl) rfl fun a hF => q_skip hF (wanted_f hF rfl rfl rfl hc13 rfl) rfl fun a hF => q_x (v := (.bool false)) hF hS (ex_pick_f rfl rfl hc13) rfl rfl fun a hF => q_x (v := (.bool false)) hF hS (ex_assign rfl) rfl rfl fun a hF => q_end (n_jn ?_)
       obtain rfl := someI hj12
       exact ⟨hF.sub ⟨rfl, trivial⟩, hS.mask [false, false, false]⟩
      ·have hj12 := cond_t hc13 hj12
       refine q_xg (v := (.bool t_46.1)) hF hS (ex_move rfl) (wanted_t hF rfl rfl rfl hc13) rfl fun a hF => q_xg (v := (.bool t_48.1)) hF hS (ex_move rfl) (wanted_t hF rfl rfl rfl hc13) rfl fun a hF => q_xg (v := (.bool (t_46.1 == t_48.1))) hF hS (ex_beq Try.underlying4 rfl rfl) (wanted_t hF rfl rfl rfl hc13) rfl fun a hF => q_x (v := (.bool (t_46.1 == t_48.1))) hF hS (ex_pick_t rfl rfl hc13) rfl rfl fun a hF => q_x (v := (.bool (t_46.1 == t_48.1))) hF hS (ex_assign rfl) rfl rfl fun a hF => q_end (n_jn ?_)
       obtain rfl := someI hj12
       exact ⟨hF.sub ⟨rfl, trivial⟩, hS.mask [false, false, false]⟩
     ·rintro a w ⟨hF, hS⟩
      refine n_sq (q_ret ?_)
      obtain rfl := someI hr
      exact ret_of hF hS rfl (.tmp rfl .nil) rfl
   ·have hr := cond_t hc4 hr
    refine q_cond_t hF rfl hc4 (q_seq (q_region (q_x (v := (.bool false)) hF hS (ex_assign rfl) rfl rfl fun a hF => q_end (n_sq (q_ret (r_sq ?_))))))
    obtain rfl := someI hr
    exact ret_of hF hS rfl (.tmp rfl .nil) rfl
 ·have hr := cond_t hc1 hr
  refine q_cond_t hF rfl hc1 (q_seq (q_region (q_x (v := (.bool true)) hF hS (ex_assign rfl) rfl rfl fun a hF => q_end (n_sq (q_ret (r_sq ?_))))))
  obtain rfl := someI hr
  exact ret_of hF hS rfl (.tmp rfl .nil) rfl

end Go.Proofs.Ytnmimeojimfogaa
