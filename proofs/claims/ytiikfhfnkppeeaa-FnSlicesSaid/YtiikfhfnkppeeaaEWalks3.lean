/- The walks of the functions: each returns what its plain function says. -/
import Derived.Test.YtiikfhfnkppeeaaEWalks2
namespace Go.Proofs.Ytiikfhfnkppeeaa
open Go.Gx Go.Gx.F Go.RowKit
set_option linter.all false
set_option maxRecDepth 10000


theorem c_spec_cbIf (p_c : impl_Cube) (r : impl_Cube × Bool) (hr : spec_cbIf p_c = some r) (w0 : World) (m : Mem) (hv : Vis m w0) (s1 : Sl) (h1 : Rd m s1 p_c.Sizes) (s2 : Sl) (h2 : Rd m s2 p_c.Cells) :
    Ret Try.prog 62 [(.agg #[s1.v, s2.v])] w0 (fun v w => ∃ (m' : Mem) (s0' : Sl) (s1' : Sl), v = (.tuple #[(.agg #[s0'.v, s1'.v]), (.bool r.2)]) ∧ MLe [] w0.heap.size m m' ∧ St [] w0 w m' [] ∧ Rd m' s0' r.1.Sizes ∧ Rd m' s1' r.1.Cells) := by
  unfold spec_cbIf at hr
  refine ret_start Try.func62 rfl 9 rfl rfl m hv fun a hF hS => ?_
  refine q_seq ?_
  refine q_region ?_
  refine q_box (cs := [s1.v, s2.v]) hF hS rfl rfl rfl fun a w b3 hF hS => ?_
  refine q_alloc (cs := [nilS.v, nilS.v]) hF hS rfl rfl rfl fun a w b4 hF hS => ?_
  refine q_x (v := (.bool false)) hF hS (ex_assign rfl) rfl rfl fun a hF => ?_
  refine q_end (n_sq ?_)
  refine q_seq ?_
  refine q_seq ?_
  refine q_region ?_
  refine q_x (v := (.agg #[s1.v, s2.v])) hF hS (ex_loadA (vs := [s1.v, s2.v]) 1 0 Try.underlying46 rfl sz46 rfl rfl rfl rfl) rfl rfl fun a hF => ?_
  obtain ⟨t_5, ht_5, hr⟩ := bindS hr
  refine q_call (vs := [(.agg #[s1.v, s2.v])]) hF hS Try.func67 (by kernel_rfl) rfl rfl rfl (c_spec_cbGood p_c t_5 ht_5 _ m hS.vis s1 h1 s2 h2) ?_
  rintro a w _ rfl hF hS
  refine q_x (v := (.bool (!t_5))) hF hS (ex_not rfl) rfl rfl fun a hF => ?_
  refine q_end (n_sq ?_)
  rcases bcase (!t_5) with hc1 | hc1
  · have hr := cond_f hc1 hr
    refine q_cond_f hF rfl hc1 ?_
    refine q_skipc (n_sq ?_)
    refine q_seq ?_
    refine q_region ?_
    refine q_x (v := (.agg #[s1.v, s2.v])) hF hS (ex_loadA (vs := [s1.v, s2.v]) 1 0 Try.underlying46 rfl sz46 rfl rfl rfl rfl) rfl rfl fun a hF => ?_
    refine q_store (vs := [s1.v, s2.v]) (cs' := [s1.v, s2.v]) 0 0 hF hS sz46 rfl rfl rfl rfl rfl rfl rfl rfl fun a w hF hS => ?_
    refine q_x (v := (.bool true)) hF hS (ex_assign rfl) rfl rfl fun a hF => ?_
    refine q_end (n_sq (q_ret ?_))
    obtain rfl := someI hr
    exact ret_of hF hS rfl (.cellA (us := [s1.v, s2.v]) 0 0 Try.underlying46 rfl sz46 rfl rfl rfl rfl (.tmp rfl .nil)) ⟨m, s1, s2, rfl, (MLe.refl _ _), hS.sel [] (by decide), h1, h2⟩
  · have hr := cond_t hc1 hr
    refine q_cond_t hF rfl hc1 ?_
    refine q_seq ?_
    refine q_region ?_
    refine q_x (v := (.agg #[nilS.v, nilS.v])) hF hS (ex_build (cells := [nilS.v, nilS.v]) rfl (by kernel_rfl)) rfl rfl fun a hF => ?_
    refine q_store (vs := [nilS.v, nilS.v]) (cs' := [nilS.v, nilS.v]) 0 0 hF hS sz46 rfl rfl rfl rfl rfl rfl rfl rfl fun a w hF hS => ?_
    refine q_x (v := (.bool false)) hF hS (ex_assign rfl) rfl rfl fun a hF => ?_
    refine q_end (n_sq (q_ret (r_sq ?_)))
    obtain rfl := someI hr
    exact ret_of hF hS rfl (.cellA (us := [nilS.v, nilS.v]) 0 0 Try.underlying46 rfl sz46 rfl rfl rfl rfl (.tmp rfl .nil)) ⟨m, nilS, nilS, rfl, (MLe.refl _ _), hS.sel [] (by decide), (Rd.nil0 (α := Int) m), (Rd.nil0 (α := Int) m)⟩

theorem c_spec_GroupCube (p_c : impl_Cube) (p_dim : Int) (p_groups : List Int) (r : impl_Cube × Bool) (hr : spec_GroupCube p_c p_dim p_groups = some r) (w0 : World) (m : Mem) (hv : Vis m w0) (s1 : Sl) (h1 : Rd m s1 p_c.Sizes) (s2 : Sl) (h2 : Rd m s2 p_c.Cells) (s3 : Sl) (h3 : Rd m s3 p_groups) :
    Ret Try.prog 37 [(.agg #[s1.v, s2.v]), (.int .i64 p_dim), s3.v] w0 (fun v w => ∃ (m' : Mem) (s0' : Sl) (s1' : Sl), v = (.tuple #[(.agg #[s0'.v, s1'.v]), (.bool r.2)]) ∧ MLe [] w0.heap.size m m' ∧ St [] w0 w m' [] ∧ Rd m' s0' r.1.Sizes ∧ Rd m' s1' r.1.Cells) := by
  unfold spec_GroupCube at hr
  refine ret_start Try.func37 rfl 111 rfl rfl m hv fun a hF hS => ?_
  refine q_seq ?_
  refine q_region ?_
  refine q_box (cs := [s1.v, s2.v]) hF hS rfl rfl rfl fun a w b4 hF hS => ?_
  refine q_alloc (cs := [nilS.v, nilS.v]) hF hS rfl rfl rfl fun a w b5 hF hS => ?_
  refine q_x (v := (.bool false)) hF hS (ex_assign rfl) rfl rfl fun a hF => ?_
  refine q_end (n_sq ?_)
  refine q_seq ?_
  refine q_seq ?_
  obtain ⟨t_11, hj1, hr⟩ := bindS hr
  refine q_join (fun a w => Fr a 111 [(1, (.int .i64 p_dim)), (2, s3.v), (3, (.pointer (some ⟨b4, 0, none⟩))), (6, (.pointer (some ⟨b5, 0, none⟩))), (38, (.bool t_11))] ∧ St [] w0 w m [[⟨b5, [nilS.v, nilS.v], 46⟩], [⟨b4, [s1.v, s2.v], 46⟩]]) ?_ ?_
  · refine q_region ?_
    refine q_x (v := (.agg #[s1.v, s2.v])) hF hS (ex_loadA (vs := [s1.v, s2.v]) 1 0 Try.underlying46 rfl sz46 rfl rfl rfl rfl) rfl rfl fun a hF => ?_
    obtain ⟨t_6, ht_6, hj1⟩ := bindS hj1
    refine q_call (vs := [(.agg #[s1.v, s2.v])]) hF hS Try.func67 (by kernel_rfl) rfl rfl rfl (c_spec_cbGood p_c t_6 ht_6 _ m hS.vis s1 h1 s2 h2) ?_
    rintro a w _ rfl hF hS
    refine q_x (v := (.bool (!t_6))) hF hS (ex_not rfl) rfl rfl fun a hF => ?_
    refine q_x (v := (.bool (!t_6))) hF hS (ex_move rfl) rfl rfl fun a hF => ?_
    rcases bcase (!t_6) with hc2 | hc2
    · have hj1 := cond_f hc2 hj1
      refine q_xg (v := (.int .i64 p_dim)) hF hS (ex_move rfl) (wanted_t hF rfl rfl rfl hc2) rfl fun a hF => ?_
      refine q_xg (v := (.pointer (some ⟨b4, 0, none⟩))) hF hS (ex_fieldAddr Try.underlying46 rfl sz33 rfl rfl) (wanted_t hF rfl rfl rfl hc2) rfl fun a hF => ?_
      refine q_xg (v := s1.v) hF hS (ex_load1 1 0 Try.underlying33 rfl rfl rfl rfl) (wanted_t hF rfl rfl rfl hc2) rfl fun a hF => ?_
      refine q_xg (v := (.int .i64 (goLen p_c.Sizes))) hF hS (ex_len Try.underlying33 rfl h1.len) (wanted_t hF rfl rfl rfl hc2) rfl fun a hF => ?_
      refine q_xg (v := (.int .i64 (w64 ((goLen p_c.Sizes) - 1)))) hF hS (ex_ibin rfl rfl rfl) (wanted_t hF rfl rfl rfl hc2) rfl fun a hF => ?_
      obtain ⟨t_7, ht_7, hj1⟩ := bindS hj1
      refine q_callg (vs := [(.int .i64 p_dim), (.int .i64 0), (.int .i64 (w64 ((goLen p_c.Sizes) - 1)))]) hF hS (wanted_t hF rfl rfl rfl hc2) Try.func44 (by kernel_rfl) rfl rfl rfl (c_spec_l1In p_dim 0 (w64 ((goLen p_c.Sizes) - 1)) t_7 ht_7 _ m hS.vis) ?_
      rintro a w _ rfl hF hS
      refine q_xg (v := (.bool (!t_7))) hF hS (ex_not rfl) (wanted_t hF rfl rfl rfl hc2) rfl fun a hF => ?_
      refine q_x (v := (.bool (!t_7))) hF hS (ex_pick_f rfl rfl hc2) rfl rfl fun a hF => ?_
      refine q_x (v := (.bool (!t_7))) hF hS (ex_move rfl) rfl rfl fun a hF => ?_
      rcases bcase (!t_7) with hc3 | hc3
      · have hj1 := cond_f hc3 hj1
        refine q_xg (v := s3.v) hF hS (ex_move rfl) (wanted_t hF rfl rfl rfl hc3) rfl fun a hF => ?_
        refine q_xg (v := (.int .i64 (goLen p_groups))) hF hS (ex_len Try.underlying33 rfl h3.len) (wanted_t hF rfl rfl rfl hc3) rfl fun a hF => ?_
        refine q_xg (v := (.pointer (some ⟨b4, 0, none⟩))) hF hS (ex_fieldAddr Try.underlying46 rfl sz33 rfl rfl) (wanted_t hF rfl rfl rfl hc3) rfl fun a hF => ?_
        refine q_xg (v := s1.v) hF hS (ex_load1 1 0 Try.underlying33 rfl rfl rfl rfl) (wanted_t hF rfl rfl rfl hc3) rfl fun a hF => ?_
        refine q_xg (v := (.int .i64 p_dim)) hF hS (ex_move rfl) (wanted_t hF rfl rfl rfl hc3) rfl fun a hF => ?_
        obtain ⟨e_8, he_8, hj1⟩ := bindS hj1
        obtain ⟨vs9, at9, d9⟩ := h1.at he_8 1 rfl
        obtain rfl : vs9 = [(.int .i64 e_8)] := d9
        refine q_xg (v := (elP s1 (p_dim.toNat * 1))) hF hS (ex_indexAddr Try.underlying33 sz3 rfl rfl (h1.idx he_8)) (wanted_t hF rfl rfl rfl hc3) rfl fun a hF => ?_
        refine q_xg (v := (.int .i64 e_8)) hF hS (ex_loadE1 0 Try.underlying3 rfl rfl ((at9).at) rfl rfl) (wanted_t hF rfl rfl rfl hc3) rfl fun a hF => ?_
        refine q_xg (v := (.bool ((goLen p_groups) != e_8))) hF hS (ex_ibin rfl rfl rfl) (wanted_t hF rfl rfl rfl hc3) rfl fun a hF => ?_
        refine q_x (v := (.bool ((goLen p_groups) != e_8))) hF hS (ex_pick_f rfl rfl hc3) rfl rfl fun a hF => ?_
        refine q_x (v := (.bool ((goLen p_groups) != e_8))) hF hS (ex_move rfl) rfl rfl fun a hF => ?_
        rcases bcase ((goLen p_groups) != e_8) with hc4 | hc4
        · have hj1 := cond_f hc4 hj1
          refine q_xg (v := s3.v) hF hS (ex_move rfl) (wanted_t hF rfl rfl rfl hc4) rfl fun a hF => ?_
          obtain ⟨t_10, ht_10, hj1⟩ := bindS hj1
          refine q_callg (vs := [s3.v]) hF hS (wanted_t hF rfl rfl rfl hc4) Try.func81 (by kernel_rfl) rfl rfl rfl (c_spec_cbGroups p_groups t_10 ht_10 _ m hS.vis s3 h3) ?_
          rintro a w _ rfl hF hS
          refine q_xg (v := (.bool (t_10 == 0))) hF hS (ex_ibin rfl rfl rfl) (wanted_t hF rfl rfl rfl hc4) rfl fun a hF => ?_
          refine q_x (v := (.bool (t_10 == 0))) hF hS (ex_pick_f rfl rfl hc4) rfl rfl fun a hF => ?_
          refine q_end (n_jn ?_)
          obtain rfl := someI hj1
          exact ⟨hF.sub ⟨rfl, rfl, rfl, rfl, rfl, trivial⟩, hS⟩
        · have hj1 := cond_t hc4 hj1
          refine q_skip hF (wanted_f hF rfl rfl rfl hc4 rfl) rfl fun a hF => ?_
          refine q_skip hF (wanted_f hF rfl rfl rfl hc4 rfl) rfl fun a hF => ?_
          refine q_skip hF (wanted_f hF rfl rfl rfl hc4 rfl) rfl fun a hF => ?_
          refine q_x (v := (.bool true)) hF hS (ex_pick_t rfl rfl hc4) rfl rfl fun a hF => ?_
          refine q_end (n_jn ?_)
          obtain rfl := someI hj1
          exact ⟨hF.sub ⟨rfl, rfl, rfl, rfl, rfl, trivial⟩, hS⟩
      · have hj1 := cond_t hc3 hj1
        refine q_skip hF (wanted_f hF rfl rfl rfl hc3 rfl) rfl fun a hF => ?_
        refine q_skip hF (wanted_f hF rfl rfl rfl hc3 rfl) rfl fun a hF => ?_
        refine q_skip hF (wanted_f hF rfl rfl rfl hc3 rfl) rfl fun a hF => ?_
        refine q_skip hF (wanted_f hF rfl rfl rfl hc3 rfl) rfl fun a hF => ?_
        refine q_skip hF (wanted_f hF rfl rfl rfl hc3 rfl) rfl fun a hF => ?_
        refine q_skip hF (wanted_f hF rfl rfl rfl hc3 rfl) rfl fun a hF => ?_
        refine q_skip hF (wanted_f hF rfl rfl rfl hc3 rfl) rfl fun a hF => ?_
        refine q_skip hF (wanted_f hF rfl rfl rfl hc3 rfl) rfl fun a hF => ?_
        refine q_x (v := (.bool true)) hF hS (ex_pick_t rfl rfl hc3) rfl rfl fun a hF => ?_
        refine q_x (v := (.bool true)) hF hS (ex_move rfl) rfl rfl fun a hF => ?_
        refine q_skip hF (wanted_f hF rfl rfl rfl rfl rfl) rfl fun a hF => ?_
        refine q_skip hF (wanted_f hF rfl rfl rfl rfl rfl) rfl fun a hF => ?_
        refine q_skip hF (wanted_f hF rfl rfl rfl rfl rfl) rfl fun a hF => ?_
        refine q_x (v := (.bool true)) hF hS (ex_pick_t rfl rfl rfl) rfl rfl fun a hF => ?_
        refine q_end (n_jn ?_)
        obtain rfl := someI hj1
        exact ⟨hF.sub ⟨rfl, rfl, rfl, rfl, rfl, trivial⟩, hS⟩
    · have hj1 := cond_t hc2 hj1
      refine q_skip hF (wanted_f hF rfl rfl rfl hc2 rfl) rfl fun a hF => ?_
      refine q_skip hF (wanted_f hF rfl rfl rfl hc2 rfl) rfl fun a hF => ?_
      refine q_skip hF (wanted_f hF rfl rfl rfl hc2 rfl) rfl fun a hF => ?_
      refine q_skip hF (wanted_f hF rfl rfl rfl hc2 rfl) rfl fun a hF => ?_
      refine q_skip hF (wanted_f hF rfl rfl rfl hc2 rfl) rfl fun a hF => ?_
      refine q_skip hF (wanted_f hF rfl rfl rfl hc2 rfl) rfl fun a hF => ?_
      refine q_skip hF (wanted_f hF rfl rfl rfl hc2 rfl) rfl fun a hF => ?_
      refine q_x (v := (.bool true)) hF hS (ex_pick_t rfl rfl hc2) rfl rfl fun a hF => ?_
      refine q_x (v := (.bool true)) hF hS (ex_move rfl) rfl rfl fun a hF => ?_
      refine q_skip hF (wanted_f hF rfl rfl rfl rfl rfl) rfl fun a hF => ?_
      refine q_skip hF (wanted_f hF rfl rfl rfl rfl rfl) rfl fun a hF => ?_
      refine q_skip hF (wanted_f hF rfl rfl rfl rfl rfl) rfl fun a hF => ?_
      refine q_skip hF (wanted_f hF rfl rfl rfl rfl rfl) rfl fun a hF => ?_
      refine q_skip hF (wanted_f hF rfl rfl rfl rfl rfl) rfl fun a hF => ?_
      refine q_skip hF (wanted_f hF rfl rfl rfl rfl rfl) rfl fun a hF => ?_
      refine q_skip hF (wanted_f hF rfl rfl rfl rfl rfl) rfl fun a hF => ?_
      refine q_skip hF (wanted_f hF rfl rfl rfl rfl rfl) rfl fun a hF => ?_
      refine q_x (v := (.bool true)) hF hS (ex_pick_t rfl rfl rfl) rfl rfl fun a hF => ?_
      refine q_x (v := (.bool true)) hF hS (ex_move rfl) rfl rfl fun a hF => ?_
      refine q_skip hF (wanted_f hF rfl rfl rfl rfl rfl) rfl fun a hF => ?_
      refine q_skip hF (wanted_f hF rfl rfl rfl rfl rfl) rfl fun a hF => ?_
      refine q_skip hF (wanted_f hF rfl rfl rfl rfl rfl) rfl fun a hF => ?_
      refine q_x (v := (.bool true)) hF hS (ex_pick_t rfl rfl rfl) rfl rfl fun a hF => ?_
      refine q_end (n_jn ?_)
      obtain rfl := someI hj1
      exact ⟨hF.sub ⟨rfl, rfl, rfl, rfl, rfl, trivial⟩, hS⟩
  · rintro a w ⟨hF, hS⟩
    refine n_sq ?_
    rcases bcase (t_11) with hc5 | hc5
    · have hr := cond_f hc5 hr
      refine q_cond_f hF rfl hc5 ?_
      refine q_skipc (n_sq ?_)
      refine q_seq ?_
      refine q_region ?_
      refine q_x (v := (.pointer (some ⟨b4, 0, none⟩))) hF hS (ex_fieldAddr Try.underlying46 rfl sz33 rfl rfl) rfl rfl fun a hF => ?_
      refine q_x (v := s1.v) hF hS (ex_load1 1 0 Try.underlying33 rfl rfl rfl rfl) rfl rfl fun a hF => ?_
      obtain ⟨t_12, ht_12, hr⟩ := bindS hr
      refine q_call (vs := [s1.v]) hF hS Try.func75 (by kernel_rfl) rfl rfl rfl (c_spec_l1Own p_c.Sizes t_12 ht_12 _ m hS.vis s1 h1) ?_
      rintro a w _ ⟨q14, s14, rfl, hR13, h14⟩ hF hS2
      have hS : St _ _ _ _ [q14, [⟨b5, [nilS.v, nilS.v], 46⟩], [⟨b4, [s1.v, s2.v], 46⟩]] := hS.joinF hR13
      refine q_x (v := (.agg #[s14.v, nilS.v])) hF hS (ex_build (cells := [s14.v, nilS.v]) rfl (by kernel_rfl)) rfl rfl fun a hF => ?_
      refine q_alloc (cs := [nilS.v, nilS.v]) hF hS rfl rfl rfl fun a w b15 hF hS => ?_
      refine q_store (vs := [s14.v, nilS.v]) (cs' := [s14.v, nilS.v]) 0 0 hF hS sz46 rfl rfl rfl rfl rfl rfl rfl rfl fun a w hF hS => ?_
      refine q_end (n_sq ?_)
      refine q_seq ?_
      refine e_region [6] mixed fun w' hw' => ?_
      have hS := hS.below hw'
      refine e_p (v := (.pointer (some ⟨b15, 0, none⟩))) 0 hF rfl (ex_fieldAddr Try.underlying46 rfl sz33 rfl rfl) rfl rfl (by kernel_rfl) (by kernel_rfl) (by kernel_rfl) fun a hF => ?_
      refine e_x (v := s14.v) 1 hF hS rfl (ex_load1 0 0 Try.underlying33 rfl rfl rfl rfl) rfl rfl (by kernel_rfl) (by kernel_rfl) (by kernel_rfl) (by kernel_rfl) fun a hF => ?_
      refine e_p (v := (.int .i64 p_dim)) 2 hF rfl (ex_move rfl) rfl rfl (by kernel_rfl) (by kernel_rfl) (by kernel_rfl) fun a hF => ?_
      refine e_p (v := s3.v) 3 hF rfl (ex_move rfl) rfl rfl (by kernel_rfl) (by kernel_rfl) (by kernel_rfl) fun a hF => ?_
      refine e_one 4 (by kernel_rfl) ?_
      obtain ⟨t_16, ht_16, hr⟩ := bindS hr
      refine e_call (vs := [s3.v]) hF hS rfl Try.func81 (by kernel_rfl) rfl rfl rfl (c_spec_cbGroups p_groups t_16 ht_16 _ m hS.vis s3 h3) ?_
      rintro a w _ rfl hF hS
      obtain ⟨e_17, he_17, hr⟩ := bindS hr
      obtain ⟨vs18, at18, d18⟩ := h14.at he_17 1 rfl
      obtain rfl : vs18 = [(.int .i64 e_17)] := d18
      refine e_p (v := (elP s14 (p_dim.toNat * 1))) 5 hF rfl (ex_indexAddr Try.underlying33 sz3 rfl rfl (h14.idx he_17)) rfl rfl (by kernel_rfl) (by kernel_rfl) (by kernel_rfl) fun a hF => ?_
      refine e_one 6 (by kernel_rfl) ?_
      have hS : St _ _ _ _ [q14, [⟨b15, [s14.v, nilS.v], 46⟩], [⟨b5, [nilS.v, nilS.v], 46⟩], [⟨b4, [s1.v, s2.v], 46⟩]] := hS.sel [1, 0, 2, 3] (by decide)
      refine e_opl rfl rfl rfl fun _ hK => wp_storeE (e' := t_16) (us := [(.int .i64 t_16)]) (vs := [(.int .i64 e_17)]) 0 hF hS h14 sz3 rfl rfl rfl rfl rfl rfl rfl he_17 at18 rfl rfl rfl fun w q19 hS h19 => hK _ _ ?_
      refine e_end (by kernel_rfl) (n_sq ?_) _
      refine q_seq ?_
      refine q_region ?_
      refine q_x (v := (.pointer (some ⟨b15, 0, none⟩))) hF hS (ex_fieldAddr Try.underlying46 rfl sz33 rfl rfl) rfl rfl fun a hF => ?_
      refine q_x (v := s14.v) hF hS (ex_load1 1 0 Try.underlying33 rfl rfl rfl rfl) rfl rfl fun a hF => ?_
      obtain ⟨m21, hl21, hv21, hz21⟩ := hS.lend
      obtain ⟨t_20, ht_20, hr⟩ := bindS hr
      refine q_call (vs := [s14.v]) hF hS Try.func59 (by kernel_rfl) rfl rfl rfl (c_spec_cbCount (goSet t_12 p_dim t_16) t_20 ht_20 _ m21 hv21 s14 (h19.froz hl21 (hz21 0 _ rfl))) ?_
      rintro a w _ rfl hF hS
      obtain ⟨l_22, hl_22, hr⟩ := bindS hr
      refine q_do rfl fun _ hK => wp_make (z := (0 : Int)) hF hS Try.underlying33 inf3 rfl rfl rfl rfl rfl (by decide) hl_22 rfl fun a w q23 s23 hF hS h23 _ => hK _ _ ?_
      refine q_x (v := (.pointer (some ⟨b15, 1, none⟩))) hF hS (ex_fieldAddr Try.underlying46 rfl sz33 rfl rfl) rfl rfl fun a hF => ?_
      refine q_store (vs := [s23.v]) (cs' := [s14.v, s23.v]) 2 0 hF hS sz33 rfl rfl rfl rfl rfl rfl rfl rfl fun a w hF hS => ?_
      refine q_end (n_sq ?_)
      refine q_seq ?_
      refine q_seq ?_
      refine q_region ?_
      refine q_x (v := (.pointer (some ⟨b4, 1, none⟩))) hF hS (ex_fieldAddr Try.underlying46 rfl sz33 rfl rfl) rfl rfl fun a hF => ?_
      refine q_x (v := s2.v) hF hS (ex_load1 4 0 Try.underlying33 rfl rfl rfl rfl) rfl rfl fun a hF => ?_
      refine q_x (v := (.int .i64 (goLen p_c.Cells))) hF hS (ex_len Try.underlying33 rfl h2.len) rfl rfl fun a hF => ?_
      refine q_x (v := (.int .i64 0)) hF hS (ex_move rfl) rfl rfl fun a hF => ?_
      refine q_end (n_sq ?_)
      refine q_block ?_
      obtain ⟨out_60, hl6, hr⟩ := bindS hr
      refine q_loop (fun (s : Int × impl_Cube) a w => ∃ (q27 : Piece), ∃ t_24, ∃ out_25, s = (t_24, out_25) ∧ Fr a 111 [(1, (.int .i64 p_dim)), (2, s3.v), (3, (.pointer (some ⟨b4, 0, none⟩))), (6, (.pointer (some ⟨b5, 0, none⟩))), (8, (.pointer (some ⟨b15, 0, none⟩))), (56, s2.v), (57, (.int .i64 (goLen p_c.Cells))), (58, (.int .i64 t_24))] ∧ St [] w0 w m [q27, q19, [⟨b15, [s14.v, s23.v], 46⟩], [⟨b5, [nilS.v, nilS.v], 46⟩], [⟨b4, [s1.v, s2.v], 46⟩]] ∧ OwnL m 3 q19 s14 out_25.Sizes ∧ out_25.Sizes = goSet t_12 p_dim t_16 ∧ OwnL m 3 q27 s23 out_25.Cells) (fun (out_60 : impl_Cube) e a w => ∃ (q62 : Piece), e = .exit 0 ∧ Fr a 111 [(6, (.pointer (some ⟨b5, 0, none⟩))), (8, (.pointer (some ⟨b15, 0, none⟩)))] ∧ St [] w0 w m [q19, q62, [⟨b15, [s14.v, s23.v], 46⟩], [⟨b5, [nilS.v, nilS.v], 46⟩]] ∧ OwnL m 3 q19 s14 out_60.Sizes ∧ out_60.Sizes = goSet t_12 p_dim t_16 ∧ OwnL m 3 q62 s23 out_60.Cells) hl6 ⟨q23, _, _, rfl, hF.sub ⟨rfl, rfl, rfl, rfl, rfl, rfl, rfl, rfl, trivial⟩, hS, h19, rfl, h23⟩ ?_ ?_
      · clear hF hS
        rintro s a w st ⟨q27, t_24, out_25, rfl, hF, hS, h26, h26k, h27⟩ hb6
        unfold spec_GroupCube_l1 at hb6
        refine q_seq ?_
        refine q_region ?_
        refine q_x (v := (.bool (decide (t_24 < (goLen p_c.Cells))))) hF hS (ex_ibin rfl rfl rfl) rfl rfl fun a hF => ?_
        refine q_end (n_sq ?_)
        refine q_seq ?_
        rcases bcase (decide (t_24 < (goLen p_c.Cells))) with hc7 | hc7
        · have hb6 := cond_f hc7 hb6
          refine q_cond_f hF rfl hc7 ?_
          refine q_exit (x_sq ?_)
          obtain rfl := someI hb6
          exact ⟨nofun, .inl ⟨q27, rfl, hF.sub ⟨rfl, rfl, trivial⟩, hS.sel [1, 0, 2, 3] (by decide), h26, h26k, h27⟩⟩
        · have hb6 := cond_t hc7 hb6
          refine q_cond_t hF rfl hc7 ?_
          refine q_skipc (n_sq ?_)
          refine q_seq ?_
          refine q_block ?_
          refine q_seq ?_
          refine q_region ?_
          refine q_x (v := (.int .i64 t_24)) hF hS (ex_move rfl) rfl rfl fun a hF => ?_
          obtain ⟨e_28, he_28, hb6⟩ := bindS hb6
          obtain ⟨vs29, at29, d29⟩ := h2.at he_28 1 rfl
          obtain rfl : vs29 = [(.int .i64 e_28)] := d29
          refine q_x (v := (elP s2 (t_24.toNat * 1))) hF hS (ex_indexAddr Try.underlying33 sz3 rfl rfl (h2.idx he_28)) rfl rfl fun a hF => ?_
          refine q_x (v := (.int .i64 e_28)) hF hS (ex_loadE1 0 Try.underlying3 rfl rfl ((at29).at) rfl rfl) rfl rfl fun a hF => ?_
          refine q_x (v := (.int .i64 t_24)) hF hS (ex_assign rfl) rfl rfl fun a hF => ?_
          refine q_x (v := (.int .i64 e_28)) hF hS (ex_assign rfl) rfl rfl fun a hF => ?_
          refine q_end (n_sq ?_)
          refine q_seq ?_
          refine q_region ?_
          refine q_x (v := (.pointer (some ⟨b4, 0, none⟩))) hF hS (ex_fieldAddr Try.underlying46 rfl sz33 rfl rfl) rfl rfl fun a hF => ?_
          refine q_x (v := s1.v) hF hS (ex_load1 4 0 Try.underlying33 rfl rfl rfl rfl) rfl rfl fun a hF => ?_
          refine q_x (v := (.int .i64 t_24)) hF hS (ex_move rfl) rfl rfl fun a hF => ?_
          obtain ⟨t_30, ht_30, hb6⟩ := bindS hb6
          refine q_call (vs := [s1.v, (.int .i64 t_24)]) hF hS Try.func82 (by kernel_rfl) rfl rfl rfl (c_spec_cbIndices p_c.Sizes t_24 t_30 ht_30 _ m hS.vis s1 h1) ?_
          rintro a w _ ⟨q32, s32, rfl, hR31, h32⟩ hF hS2
          have hS : St _ _ _ _ [q32, q27, q19, [⟨b15, [s14.v, s23.v], 46⟩], [⟨b5, [nilS.v, nilS.v], 46⟩], [⟨b4, [s1.v, s2.v], 46⟩]] := hS.joinF hR31
          refine q_x (v := s32.v) hF hS (ex_assign rfl) rfl rfl fun a hF => ?_
          refine q_end (n_sq ?_)
          refine q_seq ?_
          refine q_seq ?_
          refine e_region [] mixed fun w' hw' => ?_
          have hS := hS.below hw'
          refine e_p (v := s32.v) 0 hF rfl (ex_move rfl) rfl rfl (by kernel_rfl) (by kernel_rfl) (by kernel_rfl) fun a hF => ?_
          refine e_p (v := (.int .i64 p_dim)) 1 hF rfl (ex_move rfl) rfl rfl (by kernel_rfl) (by kernel_rfl) (by kernel_rfl) fun a hF => ?_
          obtain ⟨e_33, he_33, hb6⟩ := bindS hb6
          obtain ⟨vs34, at34, d34⟩ := h32.at he_33 1 rfl
          obtain rfl : vs34 = [(.int .i64 e_33)] := d34
          refine e_p (v := (elP s32 (p_dim.toNat * 1))) 2 hF rfl (ex_indexAddr Try.underlying33 sz3 rfl rfl (h32.idx he_33)) rfl rfl (by kernel_rfl) (by kernel_rfl) (by kernel_rfl) fun a hF => ?_
          refine e_x (v := (.int .i64 e_33)) 3 hF hS rfl (ex_loadE1 0 Try.underlying3 rfl rfl (at34.at 0 rfl) rfl rfl) rfl rfl (by kernel_rfl) (by kernel_rfl) (by kernel_rfl) (by kernel_rfl) fun a hF => ?_
          refine e_p (v := (.pointer (some ⟨b4, 0, none⟩))) 4 hF rfl (ex_fieldAddr Try.underlying46 rfl sz33 rfl rfl) rfl rfl (by kernel_rfl) (by kernel_rfl) (by kernel_rfl) fun a hF => ?_
          refine e_x (v := s1.v) 5 hF hS rfl (ex_load1 5 0 Try.underlying33 rfl rfl rfl rfl) rfl rfl (by kernel_rfl) (by kernel_rfl) (by kernel_rfl) (by kernel_rfl) fun a hF => ?_
          refine e_p (v := (.int .i64 p_dim)) 6 hF rfl (ex_move rfl) rfl rfl (by kernel_rfl) (by kernel_rfl) (by kernel_rfl) fun a hF => ?_
          obtain ⟨e_35, he_35, hb6⟩ := bindS hb6
          obtain ⟨vs36, at36, d36⟩ := h1.at he_35 1 rfl
          obtain rfl : vs36 = [(.int .i64 e_35)] := d36
          refine e_p (v := (elP s1 (p_dim.toNat * 1))) 7 hF rfl (ex_indexAddr Try.underlying33 sz3 rfl rfl (h1.idx he_35)) rfl rfl (by kernel_rfl) (by kernel_rfl) (by kernel_rfl) fun a hF => ?_
          refine e_x (v := (.int .i64 e_35)) 8 hF hS rfl (ex_loadE1 0 Try.underlying3 rfl rfl ((at36).at) rfl rfl) rfl rfl (by kernel_rfl) (by kernel_rfl) (by kernel_rfl) (by kernel_rfl) fun a hF => ?_
          refine e_p (v := (.bool (e_33 == e_35))) 9 hF rfl (ex_ibin rfl rfl rfl) rfl rfl (by kernel_rfl) (by kernel_rfl) (by kernel_rfl) fun a hF => ?_
          refine e_end (by kernel_rfl) (n_sq ?_) _
          obtain ⟨at_49, hj8, hb6⟩ := bindS hb6
          refine q_join (fun a w => ∃ (q50 : Piece), Fr a 111 [(1, (.int .i64 p_dim)), (2, s3.v), (3, (.pointer (some ⟨b4, 0, none⟩))), (6, (.pointer (some ⟨b5, 0, none⟩))), (8, (.pointer (some ⟨b15, 0, none⟩))), (10, (.int .i64 e_28)), (11, s32.v), (56, s2.v), (57, (.int .i64 (goLen p_c.Cells))), (58, (.int .i64 t_24))] ∧ St [] w0 w m [q50, q19, q27, [⟨b15, [s14.v, s23.v], 46⟩], [⟨b5, [nilS.v, nilS.v], 46⟩], [⟨b4, [s1.v, s2.v], 46⟩]] ∧ OwnL m 3 q50 s32 at_49) ?_ ?_
          · rcases bcase (e_33 == e_35) with hc9 | hc9
            · have hj8 := cond_f hc9 hj8
              refine q_cond_f hF rfl hc9 ?_
              refine q_region ?_
              refine q_x (v := s32.v) hF hS (ex_move rfl) rfl rfl fun a hF => ?_
              refine q_x (v := (.int .i64 p_dim)) hF hS (ex_move rfl) rfl rfl fun a hF => ?_
              refine q_x (v := s3.v) hF hS (ex_move rfl) rfl rfl fun a hF => ?_
              refine q_x (v := s32.v) hF hS (ex_move rfl) rfl rfl fun a hF => ?_
              refine q_x (v := (.int .i64 p_dim)) hF hS (ex_move rfl) rfl rfl fun a hF => ?_
              obtain ⟨e_37, he_37, hj8⟩ := bindS hj8
              obtain ⟨vs38, at38, d38⟩ := h32.at he_37 1 rfl
              obtain rfl : vs38 = [(.int .i64 e_37)] := d38
              refine q_x (v := (elP s32 (p_dim.toNat * 1))) hF hS (ex_indexAddr Try.underlying33 sz3 rfl rfl (h32.idx he_37)) rfl rfl fun a hF => ?_
              refine q_x (v := (.int .i64 e_37)) hF hS (ex_loadE1 0 Try.underlying3 rfl rfl (at38.at 0 rfl) rfl rfl) rfl rfl fun a hF => ?_
              obtain ⟨e_39, he_39, hj8⟩ := bindS hj8
              obtain ⟨vs40, at40, d40⟩ := h3.at he_39 1 rfl
              obtain rfl : vs40 = [(.int .i64 e_39)] := d40
              refine q_x (v := (elP s3 (e_37.toNat * 1))) hF hS (ex_indexAddr Try.underlying33 sz3 rfl rfl (h3.idx he_39)) rfl rfl fun a hF => ?_
              refine q_x (v := (.int .i64 e_39)) hF hS (ex_loadE1 0 Try.underlying3 rfl rfl ((at40).at) rfl rfl) rfl rfl fun a hF => ?_
              obtain ⟨e_41, he_41, hj8⟩ := bindS hj8
              obtain ⟨vs42, at42, d42⟩ := h32.at he_41 1 rfl
              obtain rfl : vs42 = [(.int .i64 e_41)] := d42
              refine q_x (v := (elP s32 (p_dim.toNat * 1))) hF hS (ex_indexAddr Try.underlying33 sz3 rfl rfl (h32.idx he_41)) rfl rfl fun a hF => ?_
              refine q_do rfl fun _ hK => wp_storeE (e' := e_39) (us := [(.int .i64 e_39)]) (vs := [(.int .i64 e_41)]) 0 hF hS h32 sz3 rfl rfl rfl rfl rfl rfl rfl he_41 at42 rfl rfl rfl fun w q43 hS h43 => hK _ _ ?_
              refine q_end (n_jn ?_)
              obtain rfl := someI hj8
              exact ⟨q43, hF.sub ⟨rfl, rfl, rfl, rfl, rfl, rfl, rfl, rfl, rfl, rfl, trivial⟩, hS.sel [0, 2, 1, 3, 4, 5] (by decide), h43⟩
            · have hj8 := cond_t hc9 hj8
              refine q_cond_t hF rfl hc9 ?_
              refine q_region ?_
              refine q_x (v := s32.v) hF hS (ex_move rfl) rfl rfl fun a hF => ?_
              refine q_x (v := (.int .i64 p_dim)) hF hS (ex_move rfl) rfl rfl fun a hF => ?_
              refine q_x (v := (.pointer (some ⟨b15, 0, none⟩))) hF hS (ex_fieldAddr Try.underlying46 rfl sz33 rfl rfl) rfl rfl fun a hF => ?_
              refine q_x (v := s14.v) hF hS (ex_load1 3 0 Try.underlying33 rfl rfl rfl rfl) rfl rfl fun a hF => ?_
              refine q_x (v := (.int .i64 p_dim)) hF hS (ex_move rfl) rfl rfl fun a hF => ?_
              obtain ⟨e_44, he_44, hj8⟩ := bindS hj8
              obtain ⟨vs45, at45, d45⟩ := h26.at he_44 1 rfl
              obtain rfl : vs45 = [(.int .i64 e_44)] := d45
              refine q_x (v := (elP s14 (p_dim.toNat * 1))) hF hS (ex_indexAddr Try.underlying33 sz3 rfl rfl (h26.idx he_44)) rfl rfl fun a hF => ?_
              refine q_x (v := (.int .i64 e_44)) hF hS (ex_loadE1 0 Try.underlying3 rfl rfl (at45.at 2 rfl) rfl rfl) rfl rfl fun a hF => ?_
              obtain ⟨e_46, he_46, hj8⟩ := bindS hj8
              obtain ⟨vs47, at47, d47⟩ := h32.at he_46 1 rfl
              obtain rfl : vs47 = [(.int .i64 e_46)] := d47
              refine q_x (v := (elP s32 (p_dim.toNat * 1))) hF hS (ex_indexAddr Try.underlying33 sz3 rfl rfl (h32.idx he_46)) rfl rfl fun a hF => ?_
              refine q_do rfl fun _ hK => wp_storeE (e' := e_44) (us := [(.int .i64 e_44)]) (vs := [(.int .i64 e_46)]) 0 hF hS h32 sz3 rfl rfl rfl rfl rfl rfl rfl he_46 at47 rfl rfl rfl fun w q48 hS h48 => hK _ _ ?_
              refine q_end (n_jn ?_)
              obtain rfl := someI hj8
              exact ⟨q48, hF.sub ⟨rfl, rfl, rfl, rfl, rfl, rfl, rfl, rfl, rfl, rfl, trivial⟩, hS.sel [0, 2, 1, 3, 4, 5] (by decide), h48⟩
          · rintro a w ⟨q50, hF, hS, h50⟩
            refine n_sq ?_
            refine e_region [11] mixed fun w' hw' => ?_
            have hS := hS.below hw'
            refine e_p (v := (.pointer (some ⟨b15, 1, none⟩))) 0 hF rfl (ex_fieldAddr Try.underlying46 rfl sz33 rfl rfl) rfl rfl (by kernel_rfl) (by kernel_rfl) (by kernel_rfl) fun a hF => ?_
            refine e_x (v := s23.v) 1 hF hS rfl (ex_load1 3 0 Try.underlying33 rfl rfl rfl rfl) rfl rfl (by kernel_rfl) (by kernel_rfl) (by kernel_rfl) (by kernel_rfl) fun a hF => ?_
            refine e_p (v := (.pointer (some ⟨b15, 0, none⟩))) 2 hF rfl (ex_fieldAddr Try.underlying46 rfl sz33 rfl rfl) rfl rfl (by kernel_rfl) (by kernel_rfl) (by kernel_rfl) fun a hF => ?_
            refine e_x (v := s14.v) 3 hF hS rfl (ex_load1 3 0 Try.underlying33 rfl rfl rfl rfl) rfl rfl (by kernel_rfl) (by kernel_rfl) (by kernel_rfl) (by kernel_rfl) fun a hF => ?_
            refine e_p (v := s32.v) 4 hF rfl (ex_move rfl) rfl rfl (by kernel_rfl) (by kernel_rfl) (by kernel_rfl) fun a hF => ?_
            refine e_p (v := (.int .i64 e_28)) 8 hF rfl (ex_move rfl) rfl rfl (by kernel_rfl) (by kernel_rfl) (by kernel_rfl) fun a hF => ?_
            refine e_one 5 (by kernel_rfl) ?_
            obtain ⟨m54, hl54, hv54, hz54⟩ := hS.lend
            obtain ⟨t_53, ht_53, hb6⟩ := bindS hb6
            refine e_call (vs := [s14.v, s32.v]) hF hS rfl Try.func83 (by kernel_rfl) rfl rfl rfl (c_spec_cbAt out_25.Sizes at_49 t_53 ht_53 _ m54 hv54 s14 (h26.froz hl54 (hz54 1 _ rfl)) s32 (h50.froz hl54 (hz54 0 _ rfl))) ?_
            rintro a w _ rfl hF hS
            obtain ⟨e_55, he_55, hb6⟩ := bindS hb6
            obtain ⟨vs56, at56, d56⟩ := h27.at he_55 1 rfl
            obtain rfl : vs56 = [(.int .i64 e_55)] := d56
            refine e_p (v := (elP s23 (t_53.toNat * 1))) 6 hF rfl (ex_indexAddr Try.underlying33 sz3 rfl rfl (h27.idx he_55)) rfl rfl (by kernel_rfl) (by kernel_rfl) (by kernel_rfl) fun a hF => ?_
            refine e_x (v := (.int .i64 e_55)) 7 hF hS rfl (ex_loadE1 0 Try.underlying3 rfl rfl (at56.at 2 rfl) rfl rfl) rfl rfl (by kernel_rfl) (by kernel_rfl) (by kernel_rfl) (by kernel_rfl) fun a hF => ?_
            refine e_p (v := (.int .i64 (w64 (e_55 + e_28)))) 9 hF rfl (ex_ibin rfl rfl rfl) rfl rfl (by kernel_rfl) (by kernel_rfl) (by kernel_rfl) fun a hF => ?_
            obtain ⟨e_57, he_57, hb6⟩ := bindS hb6
            obtain ⟨vs58, at58, d58⟩ := h27.at he_57 1 rfl
            obtain rfl : vs58 = [(.int .i64 e_57)] := d58
            refine e_p (v := (elP s23 (t_53.toNat * 1))) 10 hF rfl (ex_indexAddr Try.underlying33 sz3 rfl rfl (h27.idx he_57)) rfl rfl (by kernel_rfl) (by kernel_rfl) (by kernel_rfl) fun a hF => ?_
            refine e_one 11 (by kernel_rfl) ?_
            have hS : St _ _ _ _ [q27, q50, q19, [⟨b15, [s14.v, s23.v], 46⟩], [⟨b5, [nilS.v, nilS.v], 46⟩], [⟨b4, [s1.v, s2.v], 46⟩]] := hS.sel [2, 0, 1, 3, 4, 5] (by decide)
            refine e_opl rfl rfl rfl fun _ hK => wp_storeE (e' := (w64 (e_55 + e_28))) (us := [(.int .i64 (w64 (e_55 + e_28)))]) (vs := [(.int .i64 e_57)]) 0 hF hS h27 sz3 rfl rfl rfl rfl rfl rfl rfl he_57 at58 rfl rfl rfl fun w q59 hS h59 => hK _ _ ?_
            refine e_end (by kernel_rfl) (n_ib (n_sq ?_)) _
            refine q_region ?_
            refine q_x (v := (.int .i64 (w64 (t_24 + 1)))) hF hS (ex_ibin rfl rfl rfl) rfl rfl fun a hF => ?_
            refine q_x (v := (.int .i64 (w64 (t_24 + 1)))) hF hS (ex_move rfl) rfl rfl fun a hF => ?_
            refine q_end ?_
            obtain rfl := someI hb6
            exact ⟨rfl, q59, _, _, rfl, hF.sub ⟨rfl, rfl, rfl, rfl, rfl, rfl, rfl, rfl, trivial⟩, hS.mask [true, false, true, true, true, true], h26, h26k, h59⟩
      · rintro e a w ⟨q62, rfl, hF, hS, h61, h61k, h62⟩
        refine x_ib (n_sq ?_)
        refine q_seq ?_
        refine q_region ?_
        refine q_x (v := (.agg #[s14.v, s23.v])) hF hS (ex_loadA (vs := [s14.v, s23.v]) 2 0 Try.underlying46 rfl sz46 rfl rfl rfl rfl) rfl rfl fun a hF => ?_
        obtain ⟨m63, hm63, hS, hz63⟩ := hS.freeze
        have h63 := h61.froz hm63.le hz63
        obtain ⟨m64, hm64, hS, hz64⟩ := hS.freeze
        have h64 := (h62.mono hm63.le).froz hm64.le hz64
        obtain ⟨t_65, ht_65, hr⟩ := bindS hr
        refine q_call (vs := [(.agg #[s14.v, s23.v])]) hF hS Try.func62 (by kernel_rfl) rfl rfl rfl (c_spec_cbIf out_60 t_65 ht_65 _ m64 hS.vis s14 (h63.mono hm64.le) s23 h64) ?_
        have hT := hS
        rintro a w _ ⟨m66, s67, s68, rfl, hm66, hR66, h67, h68⟩ hF hS2
        have hS : St _ _ _ _ [[⟨b15, [s14.v, s23.v], 46⟩], [⟨b5, [nilS.v, nilS.v], 46⟩]] := hS.join hR66 hm66
        have hm66 := MLe.weakX (O0 := []) hT hm66
        refine q_x (v := (.agg #[s67.v, s68.v])) hF hS (ex_extract rfl rfl) rfl rfl fun a hF => ?_
        refine q_x (v := (.bool t_65.2)) hF hS (ex_extract rfl rfl) rfl rfl fun a hF => ?_
        refine q_store (vs := [s67.v, s68.v]) (cs' := [s67.v, s68.v]) 1 0 hF hS sz46 rfl rfl rfl rfl rfl rfl rfl rfl fun a w hF hS => ?_
        refine q_x (v := (.bool t_65.2)) hF hS (ex_assign rfl) rfl rfl fun a hF => ?_
        refine q_end (n_sq (q_ret ?_))
        obtain rfl := someI hr
        exact ret_of hF hS rfl (.cellA (us := [s67.v, s68.v]) 1 0 Try.underlying46 rfl sz46 rfl rfl rfl rfl (.tmp rfl .nil)) ⟨m66, s67, s68, rfl, ((hm63.trans hm64).trans hm66), hS.sel [] (by decide), h67, h68⟩
    · have hr := cond_t hc5 hr
      refine q_cond_t hF rfl hc5 ?_
      refine q_seq ?_
      refine q_region ?_
      refine q_x (v := (.agg #[nilS.v, nilS.v])) hF hS (ex_build (cells := [nilS.v, nilS.v]) rfl (by kernel_rfl)) rfl rfl fun a hF => ?_
      refine q_store (vs := [nilS.v, nilS.v]) (cs' := [nilS.v, nilS.v]) 0 0 hF hS sz46 rfl rfl rfl rfl rfl rfl rfl rfl fun a w hF hS => ?_
      refine q_x (v := (.bool false)) hF hS (ex_assign rfl) rfl rfl fun a hF => ?_
      refine q_end (n_sq (q_ret (r_sq ?_)))
      obtain rfl := someI hr
      exact ret_of hF hS rfl (.cellA (us := [nilS.v, nilS.v]) 0 0 Try.underlying46 rfl sz46 rfl rfl rfl rfl (.tmp rfl .nil)) ⟨m, nilS, nilS, rfl, (MLe.refl _ _), hS.sel [] (by decide), (Rd.nil0 (α := Int) m), (Rd.nil0 (α := Int) m)⟩

theorem c_laws_qInts (p_a : List Int) (p_b : List Int) (r : Bool) (hr : laws_qInts p_a p_b = some r) (w0 : World) (m : Mem) (hv : Vis m w0) (s1 : Sl) (h1 : Rd m s1 p_a) (s2 : Sl) (h2 : Rd m s2 p_b) :
    Ret Try.prog 26 [s1.v, s2.v] w0 (fun v _ => v = (.bool r)) := by
  unfold laws_qInts at hr
  refine ret_start Try.func26 rfl 26 rfl rfl m hv fun a hF hS => ?_
  refine q_seq ?_
  refine q_region ?_
  refine q_x (v := (.bool false)) hF hS (ex_assign rfl) rfl rfl fun a hF => ?_
  refine q_end (n_sq ?_)
  refine q_seq ?_
  refine q_seq ?_
  refine q_region ?_
  refine q_x (v := s1.v) hF hS (ex_move rfl) rfl rfl fun a hF => ?_
  refine q_x (v := (.int .i64 (goLen p_a))) hF hS (ex_len Try.underlying33 rfl h1.len) rfl rfl fun a hF => ?_
  refine q_x (v := s2.v) hF hS (ex_move rfl) rfl rfl fun a hF => ?_
  refine q_x (v := (.int .i64 (goLen p_b))) hF hS (ex_len Try.underlying33 rfl h2.len) rfl rfl fun a hF => ?_
  refine q_x (v := (.bool ((goLen p_a) != (goLen p_b)))) hF hS (ex_ibin rfl rfl rfl) rfl rfl fun a hF => ?_
  refine q_end (n_sq ?_)
  rcases bcase ((goLen p_a) != (goLen p_b)) with hc1 | hc1
  · have hr := cond_f hc1 hr
    refine q_cond_f hF rfl hc1 ?_
    refine q_skipc (n_sq ?_)
    refine q_seq ?_
    refine q_seq ?_
    refine q_region ?_
    refine q_x (v := s1.v) hF hS (ex_move rfl) rfl rfl fun a hF => ?_
    refine q_x (v := (.int .i64 (goLen p_a))) hF hS (ex_len Try.underlying33 rfl h1.len) rfl rfl fun a hF => ?_
    refine q_x (v := (.int .i64 0)) hF hS (ex_move rfl) rfl rfl fun a hF => ?_
    refine q_end (n_sq ?_)
    refine q_block ?_
    obtain ⟨o2, hl2, hr⟩ := bindS hr
    refine q_loop (fun (t_3 : Int) a w => Fr a 26 [(0, s1.v), (1, s2.v), (12, (.int .i64 (goLen p_a))), (13, (.int .i64 t_3))] ∧ St [] w0 w m []) (fun (o : (Unit) ⊕ (Bool)) e a w => o = .inl () ∧ e = .exit 0 ∧ Fr a 26 [] ∧ St [] w0 w m []) hl2 ⟨hF.sub ⟨rfl, rfl, rfl, rfl, trivial⟩, hS⟩ ?_ ?_
    · clear hF hS
      rintro t_3 a w st ⟨hF, hS⟩ hb2
      unfold laws_qInts_l1 at hb2
      refine q_seq ?_
      refine q_region ?_
      refine q_x (v := (.bool (decide (t_3 < (goLen p_a))))) hF hS (ex_ibin rfl rfl rfl) rfl rfl fun a hF => ?_
      refine q_end (n_sq ?_)
      refine q_seq ?_
      rcases bcase (decide (t_3 < (goLen p_a))) with hc3 | hc3
      · have hb2 := cond_f hc3 hb2
        refine q_cond_f hF rfl hc3 ?_
        refine q_exit (x_sq ?_)
        obtain rfl := someI hb2
        exact ⟨nofun, .inl ⟨rfl, rfl, hF.sub trivial, hS⟩⟩
      · have hb2 := cond_t hc3 hb2
        refine q_cond_t hF rfl hc3 ?_
        refine q_skipc (n_sq ?_)
        refine q_seq ?_
        refine q_block ?_
        refine q_seq ?_
        refine q_region ?_
        refine q_x (v := (.int .i64 t_3)) hF hS (ex_move rfl) rfl rfl fun a hF => ?_
        refine q_x (v := (.int .i64 t_3)) hF hS (ex_assign rfl) rfl rfl fun a hF => ?_
        refine q_end (n_sq ?_)
        refine q_seq ?_
        refine e_region [] mixed fun w' hw' => ?_
        have hS := hS.below hw'
        refine e_p (v := s1.v) 0 hF rfl (ex_move rfl) rfl rfl (by kernel_rfl) (by kernel_rfl) (by kernel_rfl) fun a hF => ?_
        refine e_p (v := (.int .i64 t_3)) 1 hF rfl (ex_move rfl) rfl rfl (by kernel_rfl) (by kernel_rfl) (by kernel_rfl) fun a hF => ?_
        obtain ⟨e_4, he_4, hb2⟩ := bindS hb2
        obtain ⟨vs5, at5, d5⟩ := h1.at he_4 1 rfl
        obtain rfl : vs5 = [(.int .i64 e_4)] := d5
        refine e_p (v := (elP s1 (t_3.toNat * 1))) 2 hF rfl (ex_indexAddr Try.underlying33 sz3 rfl rfl (h1.idx he_4)) rfl rfl (by kernel_rfl) (by kernel_rfl) (by kernel_rfl) fun a hF => ?_
        refine e_x (v := (.int .i64 e_4)) 3 hF hS rfl (ex_loadE1 0 Try.underlying3 rfl rfl ((at5).at) rfl rfl) rfl rfl (by kernel_rfl) (by kernel_rfl) (by kernel_rfl) (by kernel_rfl) fun a hF => ?_
        refine e_p (v := s2.v) 4 hF rfl (ex_move rfl) rfl rfl (by kernel_rfl) (by kernel_rfl) (by kernel_rfl) fun a hF => ?_
        refine e_p (v := (.int .i64 t_3)) 5 hF rfl (ex_move rfl) rfl rfl (by kernel_rfl) (by kernel_rfl) (by kernel_rfl) fun a hF => ?_
        obtain ⟨e_6, he_6, hb2⟩ := bindS hb2
        obtain ⟨vs7, at7, d7⟩ := h2.at he_6 1 rfl
        obtain rfl : vs7 = [(.int .i64 e_6)] := d7
        refine e_p (v := (elP s2 (t_3.toNat * 1))) 6 hF rfl (ex_indexAddr Try.underlying33 sz3 rfl rfl (h2.idx he_6)) rfl rfl (by kernel_rfl) (by kernel_rfl) (by kernel_rfl) fun a hF => ?_
        refine e_x (v := (.int .i64 e_6)) 7 hF hS rfl (ex_loadE1 0 Try.underlying3 rfl rfl ((at7).at) rfl rfl) rfl rfl (by kernel_rfl) (by kernel_rfl) (by kernel_rfl) (by kernel_rfl) fun a hF => ?_
        refine e_p (v := (.bool (e_4 != e_6))) 8 hF rfl (ex_ibin rfl rfl rfl) rfl rfl (by kernel_rfl) (by kernel_rfl) (by kernel_rfl) fun a hF => ?_
        refine e_end (by kernel_rfl) (n_sq ?_) _
        rcases bcase (e_4 != e_6) with hc4 | hc4
        · have hb2 := cond_f hc4 hb2
          refine q_cond_f hF rfl hc4 ?_
          refine q_skipc (n_ib (n_sq ?_))
          refine q_region ?_
          refine q_x (v := (.int .i64 (w64 (t_3 + 1)))) hF hS (ex_ibin rfl rfl rfl) rfl rfl fun a hF => ?_
          refine q_x (v := (.int .i64 (w64 (t_3 + 1)))) hF hS (ex_move rfl) rfl rfl fun a hF => ?_
          refine q_end ?_
          obtain rfl := someI hb2
          exact ⟨rfl, hF.sub ⟨rfl, rfl, rfl, rfl, trivial⟩, hS⟩
        · have hb2 := cond_t hc4 hb2
          refine q_cond_t hF rfl hc4 ?_
          refine q_seq ?_
          refine q_region ?_
          refine q_x (v := (.bool false)) hF hS (ex_assign rfl) rfl rfl fun a hF => ?_
          refine q_end (n_sq (q_ret (r_ib (r_sq ?_))))
          obtain rfl := someI hb2
          refine ⟨nofun, .inr fun ho => ?_⟩
          subst ho
          refine r_ib (r_sq ?_)
          obtain rfl := someI hr
          exact ret_of hF hS rfl (.tmp rfl .nil) rfl
    · rintro e a w ⟨rfl, rfl, hF, hS⟩
      refine x_ib (n_sq ?_)
      refine q_seq ?_
      refine q_region ?_
      refine q_x (v := (.bool true)) hF hS (ex_assign rfl) rfl rfl fun a hF => ?_
      refine q_end (n_sq (q_ret ?_))
      obtain rfl := someI hr
      exact ret_of hF hS rfl (.tmp rfl .nil) rfl
  · have hr := cond_t hc1 hr
    refine q_cond_t hF rfl hc1 ?_
    refine q_seq ?_
    refine q_region ?_
    refine q_x (v := (.bool false)) hF hS (ex_assign rfl) rfl rfl fun a hF => ?_
    refine q_end (n_sq (q_ret (r_sq ?_)))
    obtain rfl := someI hr
    exact ret_of hF hS rfl (.tmp rfl .nil) rfl

theorem c_slices_Equal_int_int (p_s1 : List Int) (p_s2 : List Int) (r : Bool) (hr : slices_Equal_int_int p_s1 p_s2 = some r) (w0 : World) (m : Mem) (hv : Vis m w0) (s1 : Sl) (h1 : Rd m s1 p_s1) (s2 : Sl) (h2 : Rd m s2 p_s2) :
    Ret Try.prog 84 [s1.v, s2.v] w0 (fun v _ => v = (.bool r)) := by
  unfold slices_Equal_int_int at hr
  refine ret_start Try.func84 rfl 26 rfl rfl m hv fun a hF hS => ?_
  refine q_seq ?_
  refine q_region ?_
  refine q_x (v := (.bool false)) hF hS (ex_assign rfl) rfl rfl fun a hF => ?_
  refine q_end (n_sq ?_)
  refine q_seq ?_
  refine q_seq ?_
  refine q_region ?_
  refine q_x (v := s1.v) hF hS (ex_move rfl) rfl rfl fun a hF => ?_
  refine q_x (v := (.int .i64 (goLen p_s1))) hF hS (ex_len Try.underlying33 rfl h1.len) rfl rfl fun a hF => ?_
  refine q_x (v := s2.v) hF hS (ex_move rfl) rfl rfl fun a hF => ?_
  refine q_x (v := (.int .i64 (goLen p_s2))) hF hS (ex_len Try.underlying33 rfl h2.len) rfl rfl fun a hF => ?_
  refine q_x (v := (.bool ((goLen p_s1) != (goLen p_s2)))) hF hS (ex_ibin rfl rfl rfl) rfl rfl fun a hF => ?_
  refine q_end (n_sq ?_)
  rcases bcase ((goLen p_s1) != (goLen p_s2)) with hc1 | hc1
  · have hr := cond_f hc1 hr
    refine q_cond_f hF rfl hc1 ?_
    refine q_skipc (n_sq ?_)
    refine q_seq ?_
    refine q_seq ?_
    refine q_region ?_
    refine q_x (v := s1.v) hF hS (ex_move rfl) rfl rfl fun a hF => ?_
    refine q_x (v := (.int .i64 (goLen p_s1))) hF hS (ex_len Try.underlying33 rfl h1.len) rfl rfl fun a hF => ?_
    refine q_x (v := (.int .i64 0)) hF hS (ex_move rfl) rfl rfl fun a hF => ?_
    refine q_end (n_sq ?_)
    refine q_block ?_
    obtain ⟨o2, hl2, hr⟩ := bindS hr
    refine q_loop (fun (t_3 : Int) a w => Fr a 26 [(0, s1.v), (1, s2.v), (12, (.int .i64 (goLen p_s1))), (13, (.int .i64 t_3))] ∧ St [] w0 w m []) (fun (o : (Unit) ⊕ (Bool)) e a w => o = .inl () ∧ e = .exit 0 ∧ Fr a 26 [] ∧ St [] w0 w m []) hl2 ⟨hF.sub ⟨rfl, rfl, rfl, rfl, trivial⟩, hS⟩ ?_ ?_
    · clear hF hS
      rintro t_3 a w st ⟨hF, hS⟩ hb2
      unfold slices_Equal_int_int_l1 at hb2
      refine q_seq ?_
      refine q_region ?_
      refine q_x (v := (.bool (decide (t_3 < (goLen p_s1))))) hF hS (ex_ibin rfl rfl rfl) rfl rfl fun a hF => ?_
      refine q_end (n_sq ?_)
      refine q_seq ?_
      rcases bcase (decide (t_3 < (goLen p_s1))) with hc3 | hc3
      · have hb2 := cond_f hc3 hb2
        refine q_cond_f hF rfl hc3 ?_
        refine q_exit (x_sq ?_)
        obtain rfl := someI hb2
        exact ⟨nofun, .inl ⟨rfl, rfl, hF.sub trivial, hS⟩⟩
      · have hb2 := cond_t hc3 hb2
        refine q_cond_t hF rfl hc3 ?_
        refine q_skipc (n_sq ?_)
        refine q_seq ?_
        refine q_block ?_
        refine q_seq ?_
        refine q_region ?_
        refine q_x (v := (.int .i64 t_3)) hF hS (ex_move rfl) rfl rfl fun a hF => ?_
        refine q_x (v := (.int .i64 t_3)) hF hS (ex_assign rfl) rfl rfl fun a hF => ?_
        refine q_end (n_sq ?_)
        refine q_seq ?_
        refine e_region [] mixed fun w' hw' => ?_
        have hS := hS.below hw'
        refine e_p (v := s1.v) 0 hF rfl (ex_move rfl) rfl rfl (by kernel_rfl) (by kernel_rfl) (by kernel_rfl) fun a hF => ?_
        refine e_p (v := (.int .i64 t_3)) 1 hF rfl (ex_move rfl) rfl rfl (by kernel_rfl) (by kernel_rfl) (by kernel_rfl) fun a hF => ?_
        obtain ⟨e_4, he_4, hb2⟩ := bindS hb2
        obtain ⟨vs5, at5, d5⟩ := h1.at he_4 1 rfl
        obtain rfl : vs5 = [(.int .i64 e_4)] := d5
        refine e_p (v := (elP s1 (t_3.toNat * 1))) 2 hF rfl (ex_indexAddr Try.underlying33 sz3 rfl rfl (h1.idx he_4)) rfl rfl (by kernel_rfl) (by kernel_rfl) (by kernel_rfl) fun a hF => ?_
        refine e_x (v := (.int .i64 e_4)) 3 hF hS rfl (ex_loadE1 0 Try.underlying3 rfl rfl ((at5).at) rfl rfl) rfl rfl (by kernel_rfl) (by kernel_rfl) (by kernel_rfl) (by kernel_rfl) fun a hF => ?_
        refine e_p (v := s2.v) 4 hF rfl (ex_move rfl) rfl rfl (by kernel_rfl) (by kernel_rfl) (by kernel_rfl) fun a hF => ?_
        refine e_p (v := (.int .i64 t_3)) 5 hF rfl (ex_move rfl) rfl rfl (by kernel_rfl) (by kernel_rfl) (by kernel_rfl) fun a hF => ?_
        obtain ⟨e_6, he_6, hb2⟩ := bindS hb2
        obtain ⟨vs7, at7, d7⟩ := h2.at he_6 1 rfl
        obtain rfl : vs7 = [(.int .i64 e_6)] := d7
        refine e_p (v := (elP s2 (t_3.toNat * 1))) 6 hF rfl (ex_indexAddr Try.underlying33 sz3 rfl rfl (h2.idx he_6)) rfl rfl (by kernel_rfl) (by kernel_rfl) (by kernel_rfl) fun a hF => ?_
        refine e_x (v := (.int .i64 e_6)) 7 hF hS rfl (ex_loadE1 0 Try.underlying3 rfl rfl ((at7).at) rfl rfl) rfl rfl (by kernel_rfl) (by kernel_rfl) (by kernel_rfl) (by kernel_rfl) fun a hF => ?_
        refine e_p (v := (.bool (e_4 != e_6))) 8 hF rfl (ex_ibin rfl rfl rfl) rfl rfl (by kernel_rfl) (by kernel_rfl) (by kernel_rfl) fun a hF => ?_
        refine e_end (by kernel_rfl) (n_sq ?_) _
        rcases bcase (e_4 != e_6) with hc4 | hc4
        · have hb2 := cond_f hc4 hb2
          refine q_cond_f hF rfl hc4 ?_
          refine q_skipc (n_ib (n_sq ?_))
          refine q_region ?_
          refine q_x (v := (.int .i64 (w64 (t_3 + 1)))) hF hS (ex_ibin rfl rfl rfl) rfl rfl fun a hF => ?_
          refine q_x (v := (.int .i64 (w64 (t_3 + 1)))) hF hS (ex_move rfl) rfl rfl fun a hF => ?_
          refine q_end ?_
          obtain rfl := someI hb2
          exact ⟨rfl, hF.sub ⟨rfl, rfl, rfl, rfl, trivial⟩, hS⟩
        · have hb2 := cond_t hc4 hb2
          refine q_cond_t hF rfl hc4 ?_
          refine q_seq ?_
          refine q_region ?_
          refine q_x (v := (.bool false)) hF hS (ex_assign rfl) rfl rfl fun a hF => ?_
          refine q_end (n_sq (q_ret (r_ib (r_sq ?_))))
          obtain rfl := someI hb2
          refine ⟨nofun, .inr fun ho => ?_⟩
          subst ho
          refine r_ib (r_sq ?_)
          obtain rfl := someI hr
          exact ret_of hF hS rfl (.tmp rfl .nil) rfl
    · rintro e a w ⟨rfl, rfl, hF, hS⟩
      refine x_ib (n_sq ?_)
      refine q_seq ?_
      refine q_region ?_
      refine q_x (v := (.bool true)) hF hS (ex_assign rfl) rfl rfl fun a hF => ?_
      refine q_end (n_sq (q_ret ?_))
      obtain rfl := someI hr
      exact ret_of hF hS rfl (.tmp rfl .nil) rfl
  · have hr := cond_t hc1 hr
    refine q_cond_t hF rfl hc1 ?_
    refine q_seq ?_
    refine q_region ?_
    refine q_x (v := (.bool false)) hF hS (ex_assign rfl) rfl rfl fun a hF => ?_
    refine q_end (n_sq (q_ret (r_sq ?_)))
    obtain rfl := someI hr
    exact ret_of hF hS rfl (.tmp rfl .nil) rfl

theorem c_impl_DifferenceOf (p_a : impl_Cube) (p_b : impl_Cube) (r : impl_Cube × Bool) (hr : impl_DifferenceOf p_a p_b = some r) (w0 : World) (m : Mem) (hv : Vis m w0) (s1 : Sl) (h1 : Rd m s1 p_a.Sizes) (s2 : Sl) (h2 : Rd m s2 p_a.Cells) (s3 : Sl) (h3 : Rd m s3 p_b.Sizes) (s4 : Sl) (h4 : Rd m s4 p_b.Cells) :
    Ret Try.prog 38 [(.agg #[s1.v, s2.v]), (.agg #[s3.v, s4.v])] w0 (fun v w => ∃ (q0' : Piece) (q1' : Piece) (s0' : Sl) (s1' : Sl), v = (.tuple #[(.agg #[s0'.v, s1'.v]), (.bool r.2)]) ∧ St [] w0 w m [q0', q1'] ∧ OwnL m 3 q0' s0' r.1.Sizes ∧ OwnL m 3 q1' s1' r.1.Cells) := by
  unfold impl_DifferenceOf at hr
  refine ret_start Try.func38 rfl 56 rfl rfl m hv fun a hF hS => ?_
  refine q_seq ?_
  refine q_region ?_
  refine q_box (cs := [s1.v, s2.v]) hF hS rfl rfl rfl fun a w b5 hF hS => ?_
  refine q_box (cs := [s3.v, s4.v]) hF hS rfl rfl rfl fun a w b6 hF hS => ?_
  refine q_alloc (cs := [nilS.v, nilS.v]) hF hS rfl rfl rfl fun a w b7 hF hS => ?_
  refine q_x (v := (.bool false)) hF hS (ex_assign rfl) rfl rfl fun a hF => ?_
  refine q_end (n_sq ?_)
  refine q_seq ?_
  refine q_seq ?_
  obtain ⟨t_11, hj1, hr⟩ := bindS hr
  refine q_join (fun a w => Fr a 56 [(2, (.pointer (some ⟨b5, 0, none⟩))), (3, (.pointer (some ⟨b6, 0, none⟩))), (4, (.pointer (some ⟨b7, 0, none⟩))), (24, (.bool t_11))] ∧ St [] w0 w m [[⟨b7, [nilS.v, nilS.v], 46⟩], [⟨b6, [s3.v, s4.v], 46⟩], [⟨b5, [s1.v, s2.v], 46⟩]]) ?_ ?_
  · refine q_region ?_
    refine q_x (v := (.agg #[s1.v, s2.v])) hF hS (ex_loadA (vs := [s1.v, s2.v]) 2 0 Try.underlying46 rfl sz46 rfl rfl rfl rfl) rfl rfl fun a hF => ?_
    obtain ⟨t_8, ht_8, hj1⟩ := bindS hj1
    refine q_call (vs := [(.agg #[s1.v, s2.v])]) hF hS Try.func27 (by kernel_rfl) rfl rfl rfl (c_impl_IsCube p_a t_8 ht_8 _ m hS.vis s1 h1 s2 h2) ?_
    rintro a w _ rfl hF hS
    refine q_x (v := (.bool (!t_8))) hF hS (ex_not rfl) rfl rfl fun a hF => ?_
    refine q_x (v := (.bool (!t_8))) hF hS (ex_move rfl) rfl rfl fun a hF => ?_
    rcases bcase (!t_8) with hc2 | hc2
    · have hj1 := cond_f hc2 hj1
      refine q_xg (v := (.agg #[s3.v, s4.v])) hF hS (ex_loadA (vs := [s3.v, s4.v]) 1 0 Try.underlying46 rfl sz46 rfl rfl rfl rfl) (wanted_t hF rfl rfl rfl hc2) rfl fun a hF => ?_
      obtain ⟨t_9, ht_9, hj1⟩ := bindS hj1
      refine q_callg (vs := [(.agg #[s3.v, s4.v])]) hF hS (wanted_t hF rfl rfl rfl hc2) Try.func27 (by kernel_rfl) rfl rfl rfl (c_impl_IsCube p_b t_9 ht_9 _ m hS.vis s3 h3 s4 h4) ?_
      rintro a w _ rfl hF hS
      refine q_xg (v := (.bool (!t_9))) hF hS (ex_not rfl) (wanted_t hF rfl rfl rfl hc2) rfl fun a hF => ?_
      refine q_x (v := (.bool (!t_9))) hF hS (ex_pick_f rfl rfl hc2) rfl rfl fun a hF => ?_
      refine q_x (v := (.bool (!t_9))) hF hS (ex_move rfl) rfl rfl fun a hF => ?_
      rcases bcase (!t_9) with hc3 | hc3
      · have hj1 := cond_f hc3 hj1
        refine q_xg (v := (.pointer (some ⟨b5, 0, none⟩))) hF hS (ex_fieldAddr Try.underlying46 rfl sz33 rfl rfl) (wanted_t hF rfl rfl rfl hc3) rfl fun a hF => ?_
        refine q_xg (v := s1.v) hF hS (ex_load1 2 0 Try.underlying33 rfl rfl rfl rfl) (wanted_t hF rfl rfl rfl hc3) rfl fun a hF => ?_
        refine q_xg (v := (.pointer (some ⟨b6, 0, none⟩))) hF hS (ex_fieldAddr Try.underlying46 rfl sz33 rfl rfl) (wanted_t hF rfl rfl rfl hc3) rfl fun a hF => ?_
        refine q_xg (v := s3.v) hF hS (ex_load1 1 0 Try.underlying33 rfl rfl rfl rfl) (wanted_t hF rfl rfl rfl hc3) rfl fun a hF => ?_
        obtain ⟨t_10, ht_10, hj1⟩ := bindS hj1
        refine q_callg (vs := [s1.v, s3.v]) hF hS (wanted_t hF rfl rfl rfl hc3) Try.func84 (by kernel_rfl) rfl rfl rfl (c_slices_Equal_int_int p_a.Sizes p_b.Sizes t_10 ht_10 _ m hS.vis s1 h1 s3 h3) ?_
        rintro a w _ rfl hF hS
        refine q_xg (v := (.bool (!t_10))) hF hS (ex_not rfl) (wanted_t hF rfl rfl rfl hc3) rfl fun a hF => ?_
        refine q_x (v := (.bool (!t_10))) hF hS (ex_pick_f rfl rfl hc3) rfl rfl fun a hF => ?_
        refine q_end (n_jn ?_)
        obtain rfl := someI hj1
        exact ⟨hF.sub ⟨rfl, rfl, rfl, rfl, trivial⟩, hS⟩
      · have hj1 := cond_t hc3 hj1
        refine q_skip hF (wanted_f hF rfl rfl rfl hc3 rfl) rfl fun a hF => ?_
        refine q_skip hF (wanted_f hF rfl rfl rfl hc3 rfl) rfl fun a hF => ?_
        refine q_skip hF (wanted_f hF rfl rfl rfl hc3 rfl) rfl fun a hF => ?_
        refine q_skip hF (wanted_f hF rfl rfl rfl hc3 rfl) rfl fun a hF => ?_
        refine q_skip hF (wanted_f hF rfl rfl rfl hc3 rfl) rfl fun a hF => ?_
        refine q_skip hF (wanted_f hF rfl rfl rfl hc3 rfl) rfl fun a hF => ?_
        refine q_x (v := (.bool true)) hF hS (ex_pick_t rfl rfl hc3) rfl rfl fun a hF => ?_
        refine q_end (n_jn ?_)
        obtain rfl := someI hj1
        exact ⟨hF.sub ⟨rfl, rfl, rfl, rfl, trivial⟩, hS⟩
    · have hj1 := cond_t hc2 hj1
      refine q_skip hF (wanted_f hF rfl rfl rfl hc2 rfl) rfl fun a hF => ?_
      refine q_skip hF (wanted_f hF rfl rfl rfl hc2 rfl) rfl fun a hF => ?_
      refine q_skip hF (wanted_f hF rfl rfl rfl hc2 rfl) rfl fun a hF => ?_
      refine q_x (v := (.bool true)) hF hS (ex_pick_t rfl rfl hc2) rfl rfl fun a hF => ?_
      refine q_x (v := (.bool true)) hF hS (ex_move rfl) rfl rfl fun a hF => ?_
      refine q_skip hF (wanted_f hF rfl rfl rfl rfl rfl) rfl fun a hF => ?_
      refine q_skip hF (wanted_f hF rfl rfl rfl rfl rfl) rfl fun a hF => ?_
      refine q_skip hF (wanted_f hF rfl rfl rfl rfl rfl) rfl fun a hF => ?_
      refine q_skip hF (wanted_f hF rfl rfl rfl rfl rfl) rfl fun a hF => ?_
      refine q_skip hF (wanted_f hF rfl rfl rfl rfl rfl) rfl fun a hF => ?_
      refine q_skip hF (wanted_f hF rfl rfl rfl rfl rfl) rfl fun a hF => ?_
      refine q_x (v := (.bool true)) hF hS (ex_pick_t rfl rfl rfl) rfl rfl fun a hF => ?_
      refine q_end (n_jn ?_)
      obtain rfl := someI hj1
      exact ⟨hF.sub ⟨rfl, rfl, rfl, rfl, trivial⟩, hS⟩
  · rintro a w ⟨hF, hS⟩
    refine n_sq ?_
    rcases bcase (t_11) with hc4 | hc4
    · have hr := cond_f hc4 hr
      refine q_cond_f hF rfl hc4 ?_
      refine q_skipc (n_sq ?_)
      refine q_seq ?_
      obtain ⟨out_28, hj5, hr⟩ := bindS hr
      refine q_join (fun a w => ∃ b27, ∃ (q29 : Piece), ∃ (s29 : Sl), ∃ (q30 : Piece), ∃ (s30 : Sl), Fr a 56 [(3, (.pointer (some ⟨b6, 0, none⟩))), (4, (.pointer (some ⟨b7, 0, none⟩))), (6, (.pointer (some ⟨b27, 0, none⟩)))] ∧ St [] w0 w m [q29, q30, [⟨b27, [s29.v, s30.v], 46⟩], [⟨b7, [nilS.v, nilS.v], 46⟩], [⟨b6, [s3.v, s4.v], 46⟩]] ∧ OwnL m 3 q29 s29 out_28.Sizes ∧ OwnL m 3 q30 s30 out_28.Cells) ?_ ?_
      · refine e_region [8] mixed fun w' hw' => ?_
        have hS := hS.below hw'
        refine e_p (v := (.pointer (some ⟨b5, 0, none⟩))) 0 hF rfl (ex_fieldAddr Try.underlying46 rfl sz33 rfl rfl) rfl rfl (by kernel_rfl) (by kernel_rfl) (by kernel_rfl) fun a hF => ?_
        refine e_x (v := s1.v) 1 hF hS rfl (ex_load1 2 0 Try.underlying33 rfl rfl rfl rfl) rfl rfl (by kernel_rfl) (by kernel_rfl) (by kernel_rfl) (by kernel_rfl) fun a hF => ?_
        refine e_p (v := (.pointer (some ⟨b5, 1, none⟩))) 3 hF rfl (ex_fieldAddr Try.underlying46 rfl sz33 rfl rfl) rfl rfl (by kernel_rfl) (by kernel_rfl) (by kernel_rfl) fun a hF => ?_
        refine e_x (v := s2.v) 4 hF hS rfl (ex_load1 2 0 Try.underlying33 rfl rfl rfl rfl) rfl rfl (by kernel_rfl) (by kernel_rfl) (by kernel_rfl) (by kernel_rfl) fun a hF => ?_
        obtain ⟨t_21, ht_21, hj5⟩ := bindS hj5
        obtain ⟨t_24, ht_24, hj5⟩ := bindS hj5
        refine e_all [2, 7] (by kernel_rfl) rfl ⟨?_, ?_, trivial⟩
        · refine e_call (vs := [s1.v]) hF hS rfl Try.func74 (by kernel_rfl) rfl rfl rfl (c_slices_Clone_int_int p_a.Sizes t_21 ht_21 _ m hS.vis s1 h1) ?_
          rintro a w _ ⟨q23, s23, rfl, hR22, h23⟩ hF hS2
          have hS : St _ _ _ _ [q23, [⟨b7, [nilS.v, nilS.v], 46⟩], [⟨b6, [s3.v, s4.v], 46⟩], [⟨b5, [s1.v, s2.v], 46⟩]] := hS.joinF hR22
          refine e_all [5, 7] (by kernel_rfl) rfl ⟨?_, ?_, trivial⟩
          · refine e_call (vs := [s2.v]) hF hS rfl Try.func74 (by kernel_rfl) rfl rfl rfl (c_slices_Clone_int_int p_a.Cells t_24 ht_24 _ m hS.vis s2 h2) ?_
            rintro a w _ ⟨q26, s26, rfl, hR25, h26⟩ hF hS2
            have hS : St _ _ _ _ [q26, q23, [⟨b7, [nilS.v, nilS.v], 46⟩], [⟨b6, [s3.v, s4.v], 46⟩], [⟨b5, [s1.v, s2.v], 46⟩]] := hS.joinF hR25
            refine e_p (v := (.agg #[s23.v, s26.v])) 6 hF rfl (ex_build (cells := [s23.v, s26.v]) rfl (by kernel_rfl)) rfl rfl (by kernel_rfl) (by kernel_rfl) (by kernel_rfl) fun a hF => ?_
            refine e_one 7 (by kernel_rfl) ?_
            refine e_alloc (cs := [nilS.v, nilS.v]) hF hS rfl rfl rfl rfl fun a w b27 hF hS => ?_
            refine e_one 8 (by kernel_rfl) ?_
            refine e_store (vs := [s23.v, s26.v]) (cs' := [s23.v, s26.v]) 0 0 hF hS rfl rfl sz46 rfl rfl rfl rfl rfl rfl rfl rfl fun a w hF hS => ?_
            refine e_end (by kernel_rfl) (n_jn ?_) _
            obtain rfl := someI hj5
            exact ⟨b27, q23, s23, q26, s26, hF.sub ⟨rfl, rfl, rfl, trivial⟩, hS.sel [2, 1, 0, 3, 4] (by decide), h23, h26⟩
          · refine e_alloc (cs := [nilS.v, nilS.v]) hF hS rfl rfl rfl rfl fun a w b27 hF hS => ?_
            refine e_one 5 (by kernel_rfl) ?_
            refine e_call (vs := [s2.v]) hF hS rfl Try.func74 (by kernel_rfl) rfl rfl rfl (c_slices_Clone_int_int p_a.Cells t_24 ht_24 _ m hS.vis s2 h2) ?_
            rintro a w _ ⟨q26, s26, rfl, hR25, h26⟩ hF hS2
            have hS : St _ _ _ _ [q26, [⟨b27, [nilS.v, nilS.v], 46⟩], q23, [⟨b7, [nilS.v, nilS.v], 46⟩], [⟨b6, [s3.v, s4.v], 46⟩], [⟨b5, [s1.v, s2.v], 46⟩]] := hS.joinF hR25
            refine e_p (v := (.agg #[s23.v, s26.v])) 6 hF rfl (ex_build (cells := [s23.v, s26.v]) rfl (by kernel_rfl)) rfl rfl (by kernel_rfl) (by kernel_rfl) (by kernel_rfl) fun a hF => ?_
            refine e_one 8 (by kernel_rfl) ?_
            refine e_store (vs := [s23.v, s26.v]) (cs' := [s23.v, s26.v]) 1 0 hF hS rfl rfl sz46 rfl rfl rfl rfl rfl rfl rfl rfl fun a w hF hS => ?_
            refine e_end (by kernel_rfl) (n_jn ?_) _
            obtain rfl := someI hj5
            exact ⟨b27, q23, s23, q26, s26, hF.sub ⟨rfl, rfl, rfl, trivial⟩, hS.sel [2, 0, 1, 3, 4] (by decide), h23, h26⟩
        · refine e_alloc (cs := [nilS.v, nilS.v]) hF hS rfl rfl rfl rfl fun a w b27 hF hS => ?_
          refine e_one 2 (by kernel_rfl) ?_
          refine e_call (vs := [s1.v]) hF hS rfl Try.func74 (by kernel_rfl) rfl rfl rfl (c_slices_Clone_int_int p_a.Sizes t_21 ht_21 _ m hS.vis s1 h1) ?_
          rintro a w _ ⟨q23, s23, rfl, hR22, h23⟩ hF hS2
          have hS : St _ _ _ _ [q23, [⟨b27, [nilS.v, nilS.v], 46⟩], [⟨b7, [nilS.v, nilS.v], 46⟩], [⟨b6, [s3.v, s4.v], 46⟩], [⟨b5, [s1.v, s2.v], 46⟩]] := hS.joinF hR22
          refine e_one 5 (by kernel_rfl) ?_
          refine e_call (vs := [s2.v]) hF hS rfl Try.func74 (by kernel_rfl) rfl rfl rfl (c_slices_Clone_int_int p_a.Cells t_24 ht_24 _ m hS.vis s2 h2) ?_
          rintro a w _ ⟨q26, s26, rfl, hR25, h26⟩ hF hS2
          have hS : St _ _ _ _ [q26, q23, [⟨b27, [nilS.v, nilS.v], 46⟩], [⟨b7, [nilS.v, nilS.v], 46⟩], [⟨b6, [s3.v, s4.v], 46⟩], [⟨b5, [s1.v, s2.v], 46⟩]] := hS.joinF hR25
          refine e_p (v := (.agg #[s23.v, s26.v])) 6 hF rfl (ex_build (cells := [s23.v, s26.v]) rfl (by kernel_rfl)) rfl rfl (by kernel_rfl) (by kernel_rfl) (by kernel_rfl) fun a hF => ?_
          refine e_one 8 (by kernel_rfl) ?_
          refine e_store (vs := [s23.v, s26.v]) (cs' := [s23.v, s26.v]) 2 0 hF hS rfl rfl sz46 rfl rfl rfl rfl rfl rfl rfl rfl fun a w hF hS => ?_
          refine e_end (by kernel_rfl) (n_jn ?_) _
          obtain rfl := someI hj5
          exact ⟨b27, q23, s23, q26, s26, hF.sub ⟨rfl, rfl, rfl, trivial⟩, hS.sel [1, 0, 2, 3, 4] (by decide), h23, h26⟩
      · rintro a w ⟨b27, q29, s29, q30, s30, hF, hS, h29, h30⟩
        refine n_sq ?_
        refine q_seq ?_
        refine q_seq ?_
        refine q_region ?_
        refine q_x (v := (.pointer (some ⟨b6, 1, none⟩))) hF hS (ex_fieldAddr Try.underlying46 rfl sz33 rfl rfl) rfl rfl fun a hF => ?_
        refine q_x (v := s4.v) hF hS (ex_load1 4 0 Try.underlying33 rfl rfl rfl rfl) rfl rfl fun a hF => ?_
        refine q_x (v := (.int .i64 (goLen p_b.Cells))) hF hS (ex_len Try.underlying33 rfl h4.len) rfl rfl fun a hF => ?_
        refine q_x (v := (.int .i64 0)) hF hS (ex_move rfl) rfl rfl fun a hF => ?_
        refine q_end (n_sq ?_)
        refine q_block ?_
        obtain ⟨out_42, hl6, hr⟩ := bindS hr
        refine q_loop (fun (s : Int × impl_Cube) a w => ∃ (q34 : Piece), ∃ t_31, ∃ out_32, s = (t_31, out_32) ∧ Fr a 56 [(4, (.pointer (some ⟨b7, 0, none⟩))), (6, (.pointer (some ⟨b27, 0, none⟩))), (34, s4.v), (35, (.int .i64 (goLen p_b.Cells))), (36, (.int .i64 t_31))] ∧ St [] w0 w m [q34, q29, [⟨b27, [s29.v, s30.v], 46⟩], [⟨b7, [nilS.v, nilS.v], 46⟩]] ∧ OwnL m 3 q29 s29 out_32.Sizes ∧ out_32.Sizes = out_28.Sizes ∧ OwnL m 3 q34 s30 out_32.Cells) (fun (out_42 : impl_Cube) e a w => ∃ (q44 : Piece), e = .exit 0 ∧ Fr a 56 [(4, (.pointer (some ⟨b7, 0, none⟩))), (6, (.pointer (some ⟨b27, 0, none⟩)))] ∧ St [] w0 w m [q29, q44, [⟨b27, [s29.v, s30.v], 46⟩], [⟨b7, [nilS.v, nilS.v], 46⟩]] ∧ OwnL m 3 q29 s29 out_42.Sizes ∧ out_42.Sizes = out_28.Sizes ∧ OwnL m 3 q44 s30 out_42.Cells) hl6 ⟨q30, _, _, rfl, hF.sub ⟨rfl, rfl, rfl, rfl, rfl, trivial⟩, hS.sel [1, 0, 2, 3] (by decide), h29, rfl, h30⟩ ?_ ?_
        · clear hF hS
          rintro s a w st ⟨q34, t_31, out_32, rfl, hF, hS, h33, h33k, h34⟩ hb6
          unfold impl_DifferenceOf_l1 at hb6
          refine q_seq ?_
          refine q_region ?_
          refine q_x (v := (.bool (decide (t_31 < (goLen p_b.Cells))))) hF hS (ex_ibin rfl rfl rfl) rfl rfl fun a hF => ?_
          refine q_end (n_sq ?_)
          refine q_seq ?_
          rcases bcase (decide (t_31 < (goLen p_b.Cells))) with hc7 | hc7
          · have hb6 := cond_f hc7 hb6
            refine q_cond_f hF rfl hc7 ?_
            refine q_exit (x_sq ?_)
            obtain rfl := someI hb6
            exact ⟨nofun, .inl ⟨q34, rfl, hF.sub ⟨rfl, rfl, trivial⟩, hS.sel [1, 0, 2, 3] (by decide), h33, h33k, h34⟩⟩
          · have hb6 := cond_t hc7 hb6
            refine q_cond_t hF rfl hc7 ?_
            refine q_skipc (n_sq ?_)
            refine q_seq ?_
            refine q_block ?_
            refine q_seq ?_
            refine q_region ?_
            refine q_x (v := (.int .i64 t_31)) hF hS (ex_move rfl) rfl rfl fun a hF => ?_
            obtain ⟨e_35, he_35, hb6⟩ := bindS hb6
            obtain ⟨vs36, at36, d36⟩ := h4.at he_35 1 rfl
            obtain rfl : vs36 = [(.int .i64 e_35)] := d36
            refine q_x (v := (elP s4 (t_31.toNat * 1))) hF hS (ex_indexAddr Try.underlying33 sz3 rfl rfl (h4.idx he_35)) rfl rfl fun a hF => ?_
            refine q_x (v := (.int .i64 e_35)) hF hS (ex_loadE1 0 Try.underlying3 rfl rfl ((at36).at) rfl rfl) rfl rfl fun a hF => ?_
            refine q_x (v := (.int .i64 t_31)) hF hS (ex_assign rfl) rfl rfl fun a hF => ?_
            refine q_x (v := (.int .i64 e_35)) hF hS (ex_assign rfl) rfl rfl fun a hF => ?_
            refine q_end (n_sq ?_)
            refine q_region ?_
            refine q_x (v := (.pointer (some ⟨b27, 1, none⟩))) hF hS (ex_fieldAddr Try.underlying46 rfl sz33 rfl rfl) rfl rfl fun a hF => ?_
            refine q_x (v := s30.v) hF hS (ex_load1 2 0 Try.underlying33 rfl rfl rfl rfl) rfl rfl fun a hF => ?_
            refine q_x (v := (.int .i64 t_31)) hF hS (ex_move rfl) rfl rfl fun a hF => ?_
            obtain ⟨e_37, he_37, hb6⟩ := bindS hb6
            obtain ⟨vs38, at38, d38⟩ := h34.at he_37 1 rfl
            obtain rfl : vs38 = [(.int .i64 e_37)] := d38
            refine q_x (v := (elP s30 (t_31.toNat * 1))) hF hS (ex_indexAddr Try.underlying33 sz3 rfl rfl (h34.idx he_37)) rfl rfl fun a hF => ?_
            refine q_x (v := (.int .i64 e_37)) hF hS (ex_loadE1 0 Try.underlying3 rfl rfl (at38.at 0 rfl) rfl rfl) rfl rfl fun a hF => ?_
            refine q_x (v := (.int .i64 e_35)) hF hS (ex_move rfl) rfl rfl fun a hF => ?_
            refine q_x (v := (.int .i64 (w64 (e_37 - e_35)))) hF hS (ex_ibin rfl rfl rfl) rfl rfl fun a hF => ?_
            obtain ⟨e_39, he_39, hb6⟩ := bindS hb6
            obtain ⟨vs40, at40, d40⟩ := h34.at he_39 1 rfl
            obtain rfl : vs40 = [(.int .i64 e_39)] := d40
            refine q_x (v := (elP s30 (t_31.toNat * 1))) hF hS (ex_indexAddr Try.underlying33 sz3 rfl rfl (h34.idx he_39)) rfl rfl fun a hF => ?_
            refine q_do rfl fun _ hK => wp_storeE (e' := (w64 (e_37 - e_35))) (us := [(.int .i64 (w64 (e_37 - e_35)))]) (vs := [(.int .i64 e_39)]) 0 hF hS h34 sz3 rfl rfl rfl rfl rfl rfl rfl he_39 at40 rfl rfl rfl fun w q41 hS h41 => hK _ _ ?_
            refine q_end (n_ib (n_sq ?_))
            refine q_region ?_
            refine q_x (v := (.int .i64 (w64 (t_31 + 1)))) hF hS (ex_ibin rfl rfl rfl) rfl rfl fun a hF => ?_
            refine q_x (v := (.int .i64 (w64 (t_31 + 1)))) hF hS (ex_move rfl) rfl rfl fun a hF => ?_
            refine q_end ?_
            obtain rfl := someI hb6
            exact ⟨rfl, q41, _, _, rfl, hF.sub ⟨rfl, rfl, rfl, rfl, rfl, trivial⟩, hS, h33, h33k, h41⟩
        · rintro e a w ⟨q44, rfl, hF, hS, h43, h43k, h44⟩
          refine x_ib (n_sq ?_)
          refine q_seq ?_
          refine q_seq ?_
          refine q_region ?_
          refine q_x (v := (.pointer (some ⟨b27, 1, none⟩))) hF hS (ex_fieldAddr Try.underlying46 rfl sz33 rfl rfl) rfl rfl fun a hF => ?_
          refine q_x (v := s30.v) hF hS (ex_load1 2 0 Try.underlying33 rfl rfl rfl rfl) rfl rfl fun a hF => ?_
          obtain ⟨m46, hl46, hv46, hz46⟩ := hS.lend
          obtain ⟨t_45, ht_45, hr⟩ := bindS hr
          refine q_call (vs := [s30.v]) hF hS Try.func80 (by kernel_rfl) rfl rfl rfl (c_impl_areCubeValues out_42.Cells t_45 ht_45 _ m46 hv46 s30 (h44.froz hl46 (hz46 1 _ rfl))) ?_
          rintro a w _ rfl hF hS
          refine q_x (v := (.bool (!t_45))) hF hS (ex_not rfl) rfl rfl fun a hF => ?_
          refine q_end (n_sq ?_)
          rcases bcase (!t_45) with hc8 | hc8
          · have hr := cond_f hc8 hr
            refine q_cond_f hF rfl hc8 ?_
            refine q_skipc (n_sq ?_)
            refine q_seq ?_
            refine q_region ?_
            refine q_x (v := (.agg #[s29.v, s30.v])) hF hS (ex_loadA (vs := [s29.v, s30.v]) 2 0 Try.underlying46 rfl sz46 rfl rfl rfl rfl) rfl rfl fun a hF => ?_
            refine q_store (vs := [s29.v, s30.v]) (cs' := [s29.v, s30.v]) 3 0 hF hS sz46 rfl rfl rfl rfl rfl rfl rfl rfl fun a w hF hS => ?_
            refine q_x (v := (.bool true)) hF hS (ex_assign rfl) rfl rfl fun a hF => ?_
            refine q_end (n_sq (q_ret ?_))
            obtain rfl := someI hr
            exact ret_of hF hS rfl (.cellA (us := [s29.v, s30.v]) 3 0 Try.underlying46 rfl sz46 rfl rfl rfl rfl (.tmp rfl .nil)) ⟨q29, q44, s29, s30, rfl, hS.sel [0, 1] (by decide), h43, h44⟩
          · have hr := cond_t hc8 hr
            refine q_cond_t hF rfl hc8 ?_
            refine q_seq ?_
            refine q_region ?_
            refine q_x (v := (.agg #[nilS.v, nilS.v])) hF hS (ex_build (cells := [nilS.v, nilS.v]) rfl (by kernel_rfl)) rfl rfl fun a hF => ?_
            refine q_store (vs := [nilS.v, nilS.v]) (cs' := [nilS.v, nilS.v]) 3 0 hF hS sz46 rfl rfl rfl rfl rfl rfl rfl rfl fun a w hF hS => ?_
            refine q_x (v := (.bool false)) hF hS (ex_assign rfl) rfl rfl fun a hF => ?_
            refine q_end (n_sq (q_ret (r_sq ?_)))
            obtain rfl := someI hr
            exact ret_of hF hS rfl (.cellA (us := [nilS.v, nilS.v]) 3 0 Try.underlying46 rfl sz46 rfl rfl rfl rfl (.tmp rfl .nil)) ⟨[], [], nilS, nilS, rfl, hS.sel [4, 5] (by decide), (OwnL.nil (α := Int) m 3), (OwnL.nil (α := Int) m 3)⟩
    · have hr := cond_t hc4 hr
      refine q_cond_t hF rfl hc4 ?_
      refine q_seq ?_
      refine q_region ?_
      refine q_x (v := (.agg #[nilS.v, nilS.v])) hF hS (ex_build (cells := [nilS.v, nilS.v]) rfl (by kernel_rfl)) rfl rfl fun a hF => ?_
      refine q_store (vs := [nilS.v, nilS.v]) (cs' := [nilS.v, nilS.v]) 0 0 hF hS sz46 rfl rfl rfl rfl rfl rfl rfl rfl fun a w hF hS => ?_
      refine q_x (v := (.bool false)) hF hS (ex_assign rfl) rfl rfl fun a hF => ?_
      refine q_end (n_sq (q_ret (r_sq ?_)))
      obtain rfl := someI hr
      exact ret_of hF hS rfl (.cellA (us := [nilS.v, nilS.v]) 0 0 Try.underlying46 rfl sz46 rfl rfl rfl rfl (.tmp rfl .nil)) ⟨[], [], nilS, nilS, rfl, hS.sel [3, 4] (by decide), (OwnL.nil (α := Int) m 3), (OwnL.nil (α := Int) m 3)⟩

theorem c_laws_FnSlices (p_code : List (K .u8)) (p_more : List (K .u8)) (r : Bool) (hr : laws_FnSlices p_code p_more = some r) (w0 : World) (m : Mem) (hv : Vis m w0) (s1 : Sl) (h1 : Rd m s1 p_code) (s2 : Sl) (h2 : Rd m s2 p_more) :
    Ret Try.prog 5 [s1.v, s2.v] w0 (fun v _ => v = (.bool r)) := by
  unfold laws_FnSlices at hr
  refine ret_start Try.func5 rfl 197 rfl rfl m hv fun a hF hS => ?_
  refine q_seq ?_
  refine q_region ?_
  refine q_x (v := (.bool false)) hF hS (ex_assign rfl) rfl rfl fun a hF => ?_
  refine q_end (n_sq ?_)
  refine q_seq ?_
  refine q_seq ?_
  refine q_region ?_
  refine q_x (v := s1.v) hF hS (ex_move rfl) rfl rfl fun a hF => ?_
  refine q_x (v := (.int .i64 (goLen p_code))) hF hS (ex_len Try.underlying22 rfl h1.len) rfl rfl fun a hF => ?_
  refine q_x (v := s2.v) hF hS (ex_move rfl) rfl rfl fun a hF => ?_
  refine q_x (v := (.int .i64 (goLen p_more))) hF hS (ex_len Try.underlying22 rfl h2.len) rfl rfl fun a hF => ?_
  refine q_x (v := (.int .i64 (w64 ((goLen p_code) + (goLen p_more))))) hF hS (ex_ibin rfl rfl rfl) rfl rfl fun a hF => ?_
  refine q_x (v := (.bool (decide (1048576 < (w64 ((goLen p_code) + (goLen p_more))))))) hF hS (ex_ibin rfl rfl rfl) rfl rfl fun a hF => ?_
  refine q_end (n_sq ?_)
  rcases bcase (decide (1048576 < (w64 ((goLen p_code) + (goLen p_more))))) with hc1 | hc1
  · have hr := cond_f hc1 hr
    refine q_cond_f hF rfl hc1 ?_
    refine q_skipc (n_sq ?_)
    refine q_seq ?_
    refine q_region ?_
    refine q_x (v := s1.v) hF hS (ex_move rfl) rfl rfl fun a hF => ?_
    obtain ⟨t_3, ht_3, hr⟩ := bindS hr
    refine q_call (vs := [s1.v]) hF hS Try.func32 (by kernel_rfl) rfl rfl rfl (c_spec_DrawSliceOf p_code t_3 ht_3 _ m hS.vis s1 h1) ?_
    have hT := hS
    rintro a w _ ⟨m4, q6, s5, s6, rfl, hm4, hR4, h5, h6⟩ hF hS2
    have hS : St _ _ _ _ [q6] := hS.join hR4 hm4
    have hm4 := MLe.weakX (O0 := []) hT hm4
    refine q_x (v := (.tuple #[(.agg #[s5.v, s6.v]), (.int .i64 t_3.2.1), (.int .i64 t_3.2.2)])) hF hS (ex_move rfl) rfl rfl fun a hF => ?_
    refine q_x (v := (.agg #[s5.v, s6.v])) hF hS (ex_extract rfl rfl) rfl rfl fun a hF => ?_
    refine q_x (v := (.int .i64 t_3.2.1)) hF hS (ex_extract rfl rfl) rfl rfl fun a hF => ?_
    refine q_x (v := (.int .i64 t_3.2.2)) hF hS (ex_extract rfl rfl) rfl rfl fun a hF => ?_
    refine q_alloc (cs := [nilS.v, nilS.v]) hF hS rfl rfl rfl fun a w b7 hF hS => ?_
    refine q_store (vs := [s5.v, s6.v]) (cs' := [s5.v, s6.v]) 0 0 hF hS sz46 rfl rfl rfl rfl rfl rfl rfl rfl fun a w hF hS => ?_
    refine q_x (v := (.int .i64 t_3.2.1)) hF hS (ex_assign rfl) rfl rfl fun a hF => ?_
    refine q_x (v := (.int .i64 t_3.2.2)) hF hS (ex_assign rfl) rfl rfl fun a hF => ?_
    refine q_end (n_sq ?_)
    refine q_seq ?_
    refine q_region ?_
    refine q_x (v := (.agg #[s5.v, s6.v])) hF hS (ex_loadA (vs := [s5.v, s6.v]) 0 0 Try.underlying46 rfl sz46 rfl rfl rfl rfl) rfl rfl fun a hF => ?_
    refine q_x (v := (.int .i64 t_3.2.1)) hF hS (ex_move rfl) rfl rfl fun a hF => ?_
    refine q_x (v := (.int .i64 t_3.2.2)) hF hS (ex_move rfl) rfl rfl fun a hF => ?_
    obtain ⟨m9, hl9, hv9, hz9⟩ := hS.lend
    obtain ⟨t_8, ht_8, hr⟩ := bindS hr
    refine q_call (vs := [(.agg #[s5.v, s6.v]), (.int .i64 t_3.2.1), (.int .i64 t_3.2.2)]) hF hS Try.func33 (by kernel_rfl) rfl rfl rfl (c_impl_SliceOf t_3.1 t_3.2.1 t_3.2.2 t_8 ht_8 _ m9 hv9 s5 (h5.mono hl9) s6 (h6.froz hl9 (hz9 1 _ rfl))) ?_
    rintro a w _ ⟨q11, q12, s11, s12, rfl, hR10, h11, h12⟩ hF hS2
    have hS : St _ _ _ _ [q11, q12, [⟨b7, [s5.v, s6.v], 46⟩], q6] := hS.joinF hR10
    have h11 := h11.any m4
    have h12 := h12.any m4
    refine q_x (v := (.tuple #[(.agg #[s11.v, s12.v]), (.bool t_8.2)])) hF hS (ex_move rfl) rfl rfl fun a hF => ?_
    refine q_x (v := (.agg #[s11.v, s12.v])) hF hS (ex_extract rfl rfl) rfl rfl fun a hF => ?_
    refine q_x (v := (.bool t_8.2)) hF hS (ex_extract rfl rfl) rfl rfl fun a hF => ?_
    refine q_alloc (cs := [nilS.v, nilS.v]) hF hS rfl rfl rfl fun a w b13 hF hS => ?_
    refine q_store (vs := [s11.v, s12.v]) (cs' := [s11.v, s12.v]) 0 0 hF hS sz46 rfl rfl rfl rfl rfl rfl rfl rfl fun a w hF hS => ?_
    refine q_x (v := (.bool t_8.2)) hF hS (ex_assign rfl) rfl rfl fun a hF => ?_
    refine q_end (n_sq ?_)
    refine q_seq ?_
    refine q_region ?_
    refine q_x (v := (.agg #[s5.v, s6.v])) hF hS (ex_loadA (vs := [s5.v, s6.v]) 3 0 Try.underlying46 rfl sz46 rfl rfl rfl rfl) rfl rfl fun a hF => ?_
    refine q_x (v := (.int .i64 t_3.2.1)) hF hS (ex_move rfl) rfl rfl fun a hF => ?_
    refine q_x (v := (.int .i64 t_3.2.2)) hF hS (ex_move rfl) rfl rfl fun a hF => ?_
    obtain ⟨m15, hl15, hv15, hz15⟩ := hS.lend
    obtain ⟨t_14, ht_14, hr⟩ := bindS hr
    refine q_call (vs := [(.agg #[s5.v, s6.v]), (.int .i64 t_3.2.1), (.int .i64 t_3.2.2)]) hF hS Try.func34 (by kernel_rfl) rfl rfl rfl (c_spec_SliceOf t_3.1 t_3.2.1 t_3.2.2 t_14 ht_14 _ m15 hv15 s5 (h5.mono hl15) s6 (h6.froz hl15 (hz15 4 _ rfl))) ?_
    rintro a w _ ⟨q17, q18, s17, s18, rfl, hR16, h17, h18⟩ hF hS2
    have hS : St _ _ _ _ [q17, q18, [⟨b13, [s11.v, s12.v], 46⟩], q11, q12, [⟨b7, [s5.v, s6.v], 46⟩], q6] := hS.joinF hR16
    have h17 := h17.any m4
    have h18 := h18.any m4
    refine q_x (v := (.tuple #[(.agg #[s17.v, s18.v]), (.bool t_14.2)])) hF hS (ex_move rfl) rfl rfl fun a hF => ?_
    refine q_x (v := (.agg #[s17.v, s18.v])) hF hS (ex_extract rfl rfl) rfl rfl fun a hF => ?_
    refine q_x (v := (.bool t_14.2)) hF hS (ex_extract rfl rfl) rfl rfl fun a hF => ?_
    refine q_alloc (cs := [nilS.v, nilS.v]) hF hS rfl rfl rfl fun a w b19 hF hS => ?_
    refine q_store (vs := [s17.v, s18.v]) (cs' := [s17.v, s18.v]) 0 0 hF hS sz46 rfl rfl rfl rfl rfl rfl rfl rfl fun a w hF hS => ?_
    refine q_x (v := (.bool t_14.2)) hF hS (ex_assign rfl) rfl rfl fun a hF => ?_
    refine q_end (n_sq ?_)
    refine q_seq ?_
    refine q_region ?_
    refine q_x (v := s2.v) hF hS (ex_move rfl) rfl rfl fun a hF => ?_
    obtain ⟨t_20, ht_20, hr⟩ := bindS hr
    refine q_call (vs := [s2.v]) hF hS Try.func35 (by kernel_rfl) rfl rfl rfl (c_spec_DrawGroupCube p_more t_20 ht_20 _ m4 hS.vis s2 (h2.mono hm4.le)) ?_
    have hT := hS
    rintro a w _ ⟨m21, q23, q24, s22, s23, s24, rfl, hm21, hR21, h22, h23, h24⟩ hF hS2
    have hS : St _ _ _ _ [q23, q24, [⟨b19, [s17.v, s18.v], 46⟩], q17, q18, [⟨b13, [s11.v, s12.v], 46⟩], q11, q12, [⟨b7, [s5.v, s6.v], 46⟩], q6] := hS.join hR21 hm21
    have hm21 := MLe.weakX (O0 := []) hT hm21
    refine q_x (v := (.tuple #[(.agg #[s22.v, s23.v]), (.int .i64 t_20.2.1), s24.v])) hF hS (ex_move rfl) rfl rfl fun a hF => ?_
    refine q_x (v := (.agg #[s22.v, s23.v])) hF hS (ex_extract rfl rfl) rfl rfl fun a hF => ?_
    refine q_x (v := (.int .i64 t_20.2.1)) hF hS (ex_extract rfl rfl) rfl rfl fun a hF => ?_
    refine q_x (v := s24.v) hF hS (ex_extract rfl rfl) rfl rfl fun a hF => ?_
    refine q_alloc (cs := [nilS.v, nilS.v]) hF hS rfl rfl rfl fun a w b25 hF hS => ?_
    refine q_store (vs := [s22.v, s23.v]) (cs' := [s22.v, s23.v]) 0 0 hF hS sz46 rfl rfl rfl rfl rfl rfl rfl rfl fun a w hF hS => ?_
    refine q_x (v := (.int .i64 t_20.2.1)) hF hS (ex_assign rfl) rfl rfl fun a hF => ?_
    refine q_x (v := s24.v) hF hS (ex_assign rfl) rfl rfl fun a hF => ?_
    refine q_end (n_sq ?_)
    refine q_seq ?_
    refine q_region ?_
    refine q_x (v := (.agg #[s22.v, s23.v])) hF hS (ex_loadA (vs := [s22.v, s23.v]) 0 0 Try.underlying46 rfl sz46 rfl rfl rfl rfl) rfl rfl fun a hF => ?_
    refine q_x (v := (.int .i64 t_20.2.1)) hF hS (ex_move rfl) rfl rfl fun a hF => ?_
    refine q_x (v := s24.v) hF hS (ex_move rfl) rfl rfl fun a hF => ?_
    obtain ⟨m27, hl27, hv27, hz27⟩ := hS.lend
    obtain ⟨t_26, ht_26, hr⟩ := bindS hr
    refine q_call (vs := [(.agg #[s22.v, s23.v]), (.int .i64 t_20.2.1), s24.v]) hF hS Try.func36 (by kernel_rfl) rfl rfl rfl (c_impl_GroupCube t_20.1 t_20.2.1 t_20.2.2 t_26 ht_26 _ m27 hv27 s22 (h22.mono hl27) s23 (h23.froz hl27 (hz27 1 _ rfl)) s24 (h24.froz hl27 (hz27 2 _ rfl))) ?_
    rintro a w _ ⟨q29, q30, s29, s30, rfl, hR28, h29, h30⟩ hF hS2
    have hS : St _ _ _ _ [q29, q30, [⟨b25, [s22.v, s23.v], 46⟩], q23, q24, [⟨b19, [s17.v, s18.v], 46⟩], q17, q18, [⟨b13, [s11.v, s12.v], 46⟩], q11, q12, [⟨b7, [s5.v, s6.v], 46⟩], q6] := hS.joinF hR28
    have h29 := h29.any m21
    have h30 := h30.any m21
    refine q_x (v := (.tuple #[(.agg #[s29.v, s30.v]), (.bool t_26.2)])) hF hS (ex_move rfl) rfl rfl fun a hF => ?_
    refine q_x (v := (.agg #[s29.v, s30.v])) hF hS (ex_extract rfl rfl) rfl rfl fun a hF => ?_
    refine q_x (v := (.bool t_26.2)) hF hS (ex_extract rfl rfl) rfl rfl fun a hF => ?_
    refine q_alloc (cs := [nilS.v, nilS.v]) hF hS rfl rfl rfl fun a w b31 hF hS => ?_
    refine q_store (vs := [s29.v, s30.v]) (cs' := [s29.v, s30.v]) 0 0 hF hS sz46 rfl rfl rfl rfl rfl rfl rfl rfl fun a w hF hS => ?_
    refine q_x (v := (.bool t_26.2)) hF hS (ex_assign rfl) rfl rfl fun a hF => ?_
    refine q_end (n_sq ?_)
    refine q_seq ?_
    refine q_region ?_
    refine q_x (v := (.agg #[s22.v, s23.v])) hF hS (ex_loadA (vs := [s22.v, s23.v]) 3 0 Try.underlying46 rfl sz46 rfl rfl rfl rfl) rfl rfl fun a hF => ?_
    refine q_x (v := (.int .i64 t_20.2.1)) hF hS (ex_move rfl) rfl rfl fun a hF => ?_
    refine q_x (v := s24.v) hF hS (ex_move rfl) rfl rfl fun a hF => ?_
    have hS : St _ _ _ _ [q23, [⟨b31, [s29.v, s30.v], 46⟩], q29, q30, [⟨b25, [s22.v, s23.v], 46⟩], q24, [⟨b19, [s17.v, s18.v], 46⟩], q17, q18, [⟨b13, [s11.v, s12.v], 46⟩], q11, q12, [⟨b7, [s5.v, s6.v], 46⟩], q6] := hS.sel [4, 0, 1, 2, 3, 5, 6, 7, 8, 9, 10, 11, 12, 13] (by decide)
    obtain ⟨m32, hm32, hS, hz32⟩ := hS.freeze
    have h32 := h23.froz hm32.le hz32
    have hS : St _ _ _ _ [q24, [⟨b31, [s29.v, s30.v], 46⟩], q29, q30, [⟨b25, [s22.v, s23.v], 46⟩], [⟨b19, [s17.v, s18.v], 46⟩], q17, q18, [⟨b13, [s11.v, s12.v], 46⟩], q11, q12, [⟨b7, [s5.v, s6.v], 46⟩], q6] := hS.sel [4, 0, 1, 2, 3, 5, 6, 7, 8, 9, 10, 11, 12] (by decide)
    obtain ⟨m33, hm33, hS, hz33⟩ := hS.freeze
    have h33 := (h24.mono hm32.le).froz hm33.le hz33
    obtain ⟨t_34, ht_34, hr⟩ := bindS hr
    refine q_call (vs := [(.agg #[s22.v, s23.v]), (.int .i64 t_20.2.1), s24.v]) hF hS Try.func37 (by kernel_rfl) rfl rfl rfl (c_spec_GroupCube t_20.1 t_20.2.1 t_20.2.2 t_34 ht_34 _ m33 hS.vis s22 ((h22.mono hm32.le).mono hm33.le) s23 (h32.mono hm33.le) s24 h33) ?_
    have hT := hS
    rintro a w _ ⟨m35, s36, s37, rfl, hm35, hR35, h36, h37⟩ hF hS2
    have hS : St _ _ _ _ [[⟨b31, [s29.v, s30.v], 46⟩], q29, q30, [⟨b25, [s22.v, s23.v], 46⟩], [⟨b19, [s17.v, s18.v], 46⟩], q17, q18, [⟨b13, [s11.v, s12.v], 46⟩], q11, q12, [⟨b7, [s5.v, s6.v], 46⟩], q6] := hS.join hR35 hm35
    have hm35 := MLe.weakX (O0 := []) hT hm35
    refine q_x (v := (.tuple #[(.agg #[s36.v, s37.v]), (.bool t_34.2)])) hF hS (ex_move rfl) rfl rfl fun a hF => ?_
    refine q_x (v := (.agg #[s36.v, s37.v])) hF hS (ex_extract rfl rfl) rfl rfl fun a hF => ?_
    refine q_x (v := (.bool t_34.2)) hF hS (ex_extract rfl rfl) rfl rfl fun a hF => ?_
    refine q_alloc (cs := [nilS.v, nilS.v]) hF hS rfl rfl rfl fun a w b38 hF hS => ?_
    refine q_store (vs := [s36.v, s37.v]) (cs' := [s36.v, s37.v]) 0 0 hF hS sz46 rfl rfl rfl rfl rfl rfl rfl rfl fun a w hF hS => ?_
    refine q_x (v := (.bool t_34.2)) hF hS (ex_assign rfl) rfl rfl fun a hF => ?_
    refine q_end (n_sq ?_)
    refine q_seq ?_
    refine q_seq ?_
    obtain ⟨t_47, hj2, hr⟩ := bindS hr
    refine q_join (fun a w => Fr a 197 [(5, (.pointer (some ⟨b7, 0, none⟩))), (6, (.int .i64 t_3.2.1)), (9, (.bool t_8.2)), (12, (.pointer (some ⟨b25, 0, none⟩))), (15, (.pointer (some ⟨b31, 0, none⟩))), (16, (.bool t_26.2)), (113, (.bool t_47))] ∧ St [] w0 w m35 [q29, q30, q6, [⟨b31, [s29.v, s30.v], 46⟩], [⟨b25, [s22.v, s23.v], 46⟩], [⟨b7, [s5.v, s6.v], 46⟩]]) ?_ ?_
    · refine q_region ?_
      refine q_x (v := (.bool t_8.2)) hF hS (ex_move rfl) rfl rfl fun a hF => ?_
      refine q_x (v := (.bool t_14.2)) hF hS (ex_move rfl) rfl rfl fun a hF => ?_
      refine q_x (v := (.bool (t_8.2 != t_14.2))) hF hS (ex_bne Try.underlying4 rfl rfl) rfl rfl fun a hF => ?_
      refine q_x (v := (.bool (t_8.2 != t_14.2))) hF hS (ex_move rfl) rfl rfl fun a hF => ?_
      rcases bcase (t_8.2 != t_14.2) with hc3 | hc3
      · have hj2 := cond_f hc3 hj2
        refine q_xg (v := (.pointer (some ⟨b13, 0, none⟩))) hF hS (ex_fieldAddr Try.underlying46 rfl sz33 rfl rfl) (wanted_t hF rfl rfl rfl hc3) rfl fun a hF => ?_
        refine q_xg (v := s11.v) hF hS (ex_load1 8 0 Try.underlying33 rfl rfl rfl rfl) (wanted_t hF rfl rfl rfl hc3) rfl fun a hF => ?_
        refine q_xg (v := (.pointer (some ⟨b19, 0, none⟩))) hF hS (ex_fieldAddr Try.underlying46 rfl sz33 rfl rfl) (wanted_t hF rfl rfl rfl hc3) rfl fun a hF => ?_
        refine q_xg (v := s17.v) hF hS (ex_load1 5 0 Try.underlying33 rfl rfl rfl rfl) (wanted_t hF rfl rfl rfl hc3) rfl fun a hF => ?_
        obtain ⟨m40, hl40, hv40, hz40⟩ := hS.lend
        obtain ⟨t_39, ht_39, hj2⟩ := bindS hj2
        refine q_callg (vs := [s11.v, s17.v]) hF hS (wanted_t hF rfl rfl rfl hc3) Try.func26 (by kernel_rfl) rfl rfl rfl (c_laws_qInts t_8.1.Sizes t_14.1.Sizes t_39 ht_39 _ m40 hv40 s11 (((((h11.mono hm21.le).mono hm32.le).mono hm33.le).mono hm35.le).froz hl40 (hz40 9 _ rfl)) s17 (((((h17.mono hm21.le).mono hm32.le).mono hm33.le).mono hm35.le).froz hl40 (hz40 6 _ rfl))) ?_
        rintro a w _ rfl hF hS
        refine q_xg (v := (.bool (!t_39))) hF hS (ex_not rfl) (wanted_t hF rfl rfl rfl hc3) rfl fun a hF => ?_
        refine q_x (v := (.bool (!t_39))) hF hS (ex_pick_f rfl rfl hc3) rfl rfl fun a hF => ?_
        refine q_x (v := (.bool (!t_39))) hF hS (ex_move rfl) rfl rfl fun a hF => ?_
        rcases bcase (!t_39) with hc4 | hc4
        · have hj2 := cond_f hc4 hj2
          refine q_xg (v := (.pointer (some ⟨b13, 1, none⟩))) hF hS (ex_fieldAddr Try.underlying46 rfl sz33 rfl rfl) (wanted_t hF rfl rfl rfl hc4) rfl fun a hF => ?_
          refine q_xg (v := s12.v) hF hS (ex_load1 8 0 Try.underlying33 rfl rfl rfl rfl) (wanted_t hF rfl rfl rfl hc4) rfl fun a hF => ?_
          refine q_xg (v := (.pointer (some ⟨b19, 1, none⟩))) hF hS (ex_fieldAddr Try.underlying46 rfl sz33 rfl rfl) (wanted_t hF rfl rfl rfl hc4) rfl fun a hF => ?_
          refine q_xg (v := s18.v) hF hS (ex_load1 5 0 Try.underlying33 rfl rfl rfl rfl) (wanted_t hF rfl rfl rfl hc4) rfl fun a hF => ?_
          obtain ⟨m42, hl42, hv42, hz42⟩ := hS.lend
          obtain ⟨t_41, ht_41, hj2⟩ := bindS hj2
          refine q_callg (vs := [s12.v, s18.v]) hF hS (wanted_t hF rfl rfl rfl hc4) Try.func26 (by kernel_rfl) rfl rfl rfl (c_laws_qInts t_8.1.Cells t_14.1.Cells t_41 ht_41 _ m42 hv42 s12 (((((h12.mono hm21.le).mono hm32.le).mono hm33.le).mono hm35.le).froz hl42 (hz42 10 _ rfl)) s18 (((((h18.mono hm21.le).mono hm32.le).mono hm33.le).mono hm35.le).froz hl42 (hz42 7 _ rfl))) ?_
          rintro a w _ rfl hF hS
          refine q_xg (v := (.bool (!t_41))) hF hS (ex_not rfl) (wanted_t hF rfl rfl rfl hc4) rfl fun a hF => ?_
          refine q_x (v := (.bool (!t_41))) hF hS (ex_pick_f rfl rfl hc4) rfl rfl fun a hF => ?_
          refine q_x (v := (.bool (!t_41))) hF hS (ex_move rfl) rfl rfl fun a hF => ?_
          rcases bcase (!t_41) with hc5 | hc5
          · have hj2 := cond_f hc5 hj2
            refine q_xg (v := (.bool t_26.2)) hF hS (ex_move rfl) (wanted_t hF rfl rfl rfl hc5) rfl fun a hF => ?_
            refine q_xg (v := (.bool t_34.2)) hF hS (ex_move rfl) (wanted_t hF rfl rfl rfl hc5) rfl fun a hF => ?_
            refine q_xg (v := (.bool (t_26.2 != t_34.2))) hF hS (ex_bne Try.underlying4 rfl rfl) (wanted_t hF rfl rfl rfl hc5) rfl fun a hF => ?_
            refine q_x (v := (.bool (t_26.2 != t_34.2))) hF hS (ex_pick_f rfl rfl hc5) rfl rfl fun a hF => ?_
            refine q_x (v := (.bool (t_26.2 != t_34.2))) hF hS (ex_move rfl) rfl rfl fun a hF => ?_
            rcases bcase (t_26.2 != t_34.2) with hc6 | hc6
            · have hj2 := cond_f hc6 hj2
              refine q_xg (v := (.pointer (some ⟨b31, 0, none⟩))) hF hS (ex_fieldAddr Try.underlying46 rfl sz33 rfl rfl) (wanted_t hF rfl rfl rfl hc6) rfl fun a hF => ?_
              refine q_xg (v := s29.v) hF hS (ex_load1 1 0 Try.underlying33 rfl rfl rfl rfl) (wanted_t hF rfl rfl rfl hc6) rfl fun a hF => ?_
              refine q_xg (v := (.pointer (some ⟨b38, 0, none⟩))) hF hS (ex_fieldAddr Try.underlying46 rfl sz33 rfl rfl) (wanted_t hF rfl rfl rfl hc6) rfl fun a hF => ?_
              refine q_xg (v := s36.v) hF hS (ex_load1 0 0 Try.underlying33 rfl rfl rfl rfl) (wanted_t hF rfl rfl rfl hc6) rfl fun a hF => ?_
              obtain ⟨m44, hl44, hv44, hz44⟩ := hS.lend
              obtain ⟨t_43, ht_43, hj2⟩ := bindS hj2
              refine q_callg (vs := [s29.v, s36.v]) hF hS (wanted_t hF rfl rfl rfl hc6) Try.func26 (by kernel_rfl) rfl rfl rfl (c_laws_qInts t_26.1.Sizes t_34.1.Sizes t_43 ht_43 _ m44 hv44 s29 ((((h29.mono hm32.le).mono hm33.le).mono hm35.le).froz hl44 (hz44 2 _ rfl)) s36 (h36.mono hl44)) ?_
              rintro a w _ rfl hF hS
              refine q_xg (v := (.bool (!t_43))) hF hS (ex_not rfl) (wanted_t hF rfl rfl rfl hc6) rfl fun a hF => ?_
              refine q_x (v := (.bool (!t_43))) hF hS (ex_pick_f rfl rfl hc6) rfl rfl fun a hF => ?_
              refine q_x (v := (.bool (!t_43))) hF hS (ex_move rfl) rfl rfl fun a hF => ?_
              rcases bcase (!t_43) with hc7 | hc7
              · have hj2 := cond_f hc7 hj2
                refine q_xg (v := (.pointer (some ⟨b31, 1, none⟩))) hF hS (ex_fieldAddr Try.underlying46 rfl sz33 rfl rfl) (wanted_t hF rfl rfl rfl hc7) rfl fun a hF => ?_
                refine q_xg (v := s30.v) hF hS (ex_load1 1 0 Try.underlying33 rfl rfl rfl rfl) (wanted_t hF rfl rfl rfl hc7) rfl fun a hF => ?_
                refine q_xg (v := (.pointer (some ⟨b38, 1, none⟩))) hF hS (ex_fieldAddr Try.underlying46 rfl sz33 rfl rfl) (wanted_t hF rfl rfl rfl hc7) rfl fun a hF => ?_
                refine q_xg (v := s37.v) hF hS (ex_load1 0 0 Try.underlying33 rfl rfl rfl rfl) (wanted_t hF rfl rfl rfl hc7) rfl fun a hF => ?_
                obtain ⟨m46, hl46, hv46, hz46⟩ := hS.lend
                obtain ⟨t_45, ht_45, hj2⟩ := bindS hj2
                refine q_callg (vs := [s30.v, s37.v]) hF hS (wanted_t hF rfl rfl rfl hc7) Try.func26 (by kernel_rfl) rfl rfl rfl (c_laws_qInts t_26.1.Cells t_34.1.Cells t_45 ht_45 _ m46 hv46 s30 ((((h30.mono hm32.le).mono hm33.le).mono hm35.le).froz hl46 (hz46 3 _ rfl)) s37 (h37.mono hl46)) ?_
                rintro a w _ rfl hF hS
                refine q_xg (v := (.bool (!t_45))) hF hS (ex_not rfl) (wanted_t hF rfl rfl rfl hc7) rfl fun a hF => ?_
                refine q_x (v := (.bool (!t_45))) hF hS (ex_pick_f rfl rfl hc7) rfl rfl fun a hF => ?_
                refine q_end (n_jn ?_)
                obtain rfl := someI hj2
                exact ⟨hF.sub ⟨rfl, rfl, rfl, rfl, rfl, rfl, rfl, trivial⟩, hS.sel [2, 3, 12, 1, 4, 11] (by decide)⟩
              · have hj2 := cond_t hc7 hj2
                refine q_skip hF (wanted_f hF rfl rfl rfl hc7 rfl) rfl fun a hF => ?_
                refine q_skip hF (wanted_f hF rfl rfl rfl hc7 rfl) rfl fun a hF => ?_
                refine q_skip hF (wanted_f hF rfl rfl rfl hc7 rfl) rfl fun a hF => ?_
                refine q_skip hF (wanted_f hF rfl rfl rfl hc7 rfl) rfl fun a hF => ?_
                refine q_skip hF (wanted_f hF rfl rfl rfl hc7 rfl) rfl fun a hF => ?_
                refine q_skip hF (wanted_f hF rfl rfl rfl hc7 rfl) rfl fun a hF => ?_
                refine q_x (v := (.bool true)) hF hS (ex_pick_t rfl rfl hc7) rfl rfl fun a hF => ?_
                refine q_end (n_jn ?_)
                obtain rfl := someI hj2
                exact ⟨hF.sub ⟨rfl, rfl, rfl, rfl, rfl, rfl, rfl, trivial⟩, hS.sel [2, 3, 12, 1, 4, 11] (by decide)⟩
            · have hj2 := cond_t hc6 hj2
              refine q_skip hF (wanted_f hF rfl rfl rfl hc6 rfl) rfl fun a hF => ?_
              refine q_skip hF (wanted_f hF rfl rfl rfl hc6 rfl) rfl fun a hF => ?_
              refine q_skip hF (wanted_f hF rfl rfl rfl hc6 rfl) rfl fun a hF => ?_
              refine q_skip hF (wanted_f hF rfl rfl rfl hc6 rfl) rfl fun a hF => ?_
              refine q_skip hF (wanted_f hF rfl rfl rfl hc6 rfl) rfl fun a hF => ?_
              refine q_skip hF (wanted_f hF rfl rfl rfl hc6 rfl) rfl fun a hF => ?_
              refine q_x (v := (.bool true)) hF hS (ex_pick_t rfl rfl hc6) rfl rfl fun a hF => ?_
              refine q_x (v := (.bool true)) hF hS (ex_move rfl) rfl rfl fun a hF => ?_
              refine q_skip hF (wanted_f hF rfl rfl rfl rfl rfl) rfl fun a hF => ?_
              refine q_skip hF (wanted_f hF rfl rfl rfl rfl rfl) rfl fun a hF => ?_
              refine q_skip hF (wanted_f hF rfl rfl rfl rfl rfl) rfl fun a hF => ?_
              refine q_skip hF (wanted_f hF rfl rfl rfl rfl rfl) rfl fun a hF => ?_
              refine q_skip hF (wanted_f hF rfl rfl rfl rfl rfl) rfl fun a hF => ?_
              refine q_skip hF (wanted_f hF rfl rfl rfl rfl rfl) rfl fun a hF => ?_
              refine q_x (v := (.bool true)) hF hS (ex_pick_t rfl rfl rfl) rfl rfl fun a hF => ?_
              refine q_end (n_jn ?_)
              obtain rfl := someI hj2
              exact ⟨hF.sub ⟨rfl, rfl, rfl, rfl, rfl, rfl, rfl, trivial⟩, hS.sel [2, 3, 12, 1, 4, 11] (by decide)⟩
          · have hj2 := cond_t hc5 hj2
            refine q_skip hF (wanted_f hF rfl rfl rfl hc5 rfl) rfl fun a hF => ?_
            refine q_skip hF (wanted_f hF rfl rfl rfl hc5 rfl) rfl fun a hF => ?_
            refine q_skip hF (wanted_f hF rfl rfl rfl hc5 rfl) rfl fun a hF => ?_
            refine q_x (v := (.bool true)) hF hS (ex_pick_t rfl rfl hc5) rfl rfl fun a hF => ?_
            refine q_x (v := (.bool true)) hF hS (ex_move rfl) rfl rfl fun a hF => ?_
            refine q_skip hF (wanted_f hF rfl rfl rfl rfl rfl) rfl fun a hF => ?_
            refine q_skip hF (wanted_f hF rfl rfl rfl rfl rfl) rfl fun a hF => ?_
            refine q_skip hF (wanted_f hF rfl rfl rfl rfl rfl) rfl fun a hF => ?_
            refine q_skip hF (wanted_f hF rfl rfl rfl rfl rfl) rfl fun a hF => ?_
            refine q_skip hF (wanted_f hF rfl rfl rfl rfl rfl) rfl fun a hF => ?_
            refine q_skip hF (wanted_f hF rfl rfl rfl rfl rfl) rfl fun a hF => ?_
            refine q_x (v := (.bool true)) hF hS (ex_pick_t rfl rfl rfl) rfl rfl fun a hF => ?_
            refine q_x (v := (.bool true)) hF hS (ex_move rfl) rfl rfl fun a hF => ?_
            refine q_skip hF (wanted_f hF rfl rfl rfl rfl rfl) rfl fun a hF => ?_
            refine q_skip hF (wanted_f hF rfl rfl rfl rfl rfl) rfl fun a hF => ?_
            refine q_skip hF (wanted_f hF rfl rfl rfl rfl rfl) rfl fun a hF => ?_
            refine q_skip hF (wanted_f hF rfl rfl rfl rfl rfl) rfl fun a hF => ?_
            refine q_skip hF (wanted_f hF rfl rfl rfl rfl rfl) rfl fun a hF => ?_
            refine q_skip hF (wanted_f hF rfl rfl rfl rfl rfl) rfl fun a hF => ?_
            refine q_x (v := (.bool true)) hF hS (ex_pick_t rfl rfl rfl) rfl rfl fun a hF => ?_
            refine q_end (n_jn ?_)
            obtain rfl := someI hj2
            exact ⟨hF.sub ⟨rfl, rfl, rfl, rfl, rfl, rfl, rfl, trivial⟩, hS.sel [2, 3, 12, 1, 4, 11] (by decide)⟩
        · have hj2 := cond_t hc4 hj2
          refine q_skip hF (wanted_f hF rfl rfl rfl hc4 rfl) rfl fun a hF => ?_
          refine q_skip hF (wanted_f hF rfl rfl rfl hc4 rfl) rfl fun a hF => ?_
          refine q_skip hF (wanted_f hF rfl rfl rfl hc4 rfl) rfl fun a hF => ?_
          refine q_skip hF (wanted_f hF rfl rfl rfl hc4 rfl) rfl fun a hF => ?_
          refine q_skip hF (wanted_f hF rfl rfl rfl hc4 rfl) rfl fun a hF => ?_
          refine q_skip hF (wanted_f hF rfl rfl rfl hc4 rfl) rfl fun a hF => ?_
          refine q_x (v := (.bool true)) hF hS (ex_pick_t rfl rfl hc4) rfl rfl fun a hF => ?_
          refine q_x (v := (.bool true)) hF hS (ex_move rfl) rfl rfl fun a hF => ?_
          refine q_skip hF (wanted_f hF rfl rfl rfl rfl rfl) rfl fun a hF => ?_
          refine q_skip hF (wanted_f hF rfl rfl rfl rfl rfl) rfl fun a hF => ?_
          refine q_skip hF (wanted_f hF rfl rfl rfl rfl rfl) rfl fun a hF => ?_
          refine q_x (v := (.bool true)) hF hS (ex_pick_t rfl rfl rfl) rfl rfl fun a hF => ?_
          refine q_x (v := (.bool true)) hF hS (ex_move rfl) rfl rfl fun a hF => ?_
          refine q_skip hF (wanted_f hF rfl rfl rfl rfl rfl) rfl fun a hF => ?_
          refine q_skip hF (wanted_f hF rfl rfl rfl rfl rfl) rfl fun a hF => ?_
          refine q_skip hF (wanted_f hF rfl rfl rfl rfl rfl) rfl fun a hF => ?_
          refine q_skip hF (wanted_f hF rfl rfl rfl rfl rfl) rfl fun a hF => ?_
          refine q_skip hF (wanted_f hF rfl rfl rfl rfl rfl) rfl fun a hF => ?_
          refine q_skip hF (wanted_f hF rfl rfl rfl rfl rfl) rfl fun a hF => ?_
          refine q_x (v := (.bool true)) hF hS (ex_pick_t rfl rfl rfl) rfl rfl fun a hF => ?_
          refine q_x (v := (.bool true)) hF hS (ex_move rfl) rfl rfl fun a hF => ?_
          refine q_skip hF (wanted_f hF rfl rfl rfl rfl rfl) rfl fun a hF => ?_
          refine q_skip hF (wanted_f hF rfl rfl rfl rfl rfl) rfl fun a hF => ?_
          refine q_skip hF (wanted_f hF rfl rfl rfl rfl rfl) rfl fun a hF => ?_
          refine q_skip hF (wanted_f hF rfl rfl rfl rfl rfl) rfl fun a hF => ?_
          refine q_skip hF (wanted_f hF rfl rfl rfl rfl rfl) rfl fun a hF => ?_
          refine q_skip hF (wanted_f hF rfl rfl rfl rfl rfl) rfl fun a hF => ?_
          refine q_x (v := (.bool true)) hF hS (ex_pick_t rfl rfl rfl) rfl rfl fun a hF => ?_
          refine q_end (n_jn ?_)
          obtain rfl := someI hj2
          exact ⟨hF.sub ⟨rfl, rfl, rfl, rfl, rfl, rfl, rfl, trivial⟩, hS.sel [2, 3, 12, 1, 4, 11] (by decide)⟩
      · have hj2 := cond_t hc3 hj2
        refine q_skip hF (wanted_f hF rfl rfl rfl hc3 rfl) rfl fun a hF => ?_
        refine q_skip hF (wanted_f hF rfl rfl rfl hc3 rfl) rfl fun a hF => ?_
        refine q_skip hF (wanted_f hF rfl rfl rfl hc3 rfl) rfl fun a hF => ?_
        refine q_skip hF (wanted_f hF rfl rfl rfl hc3 rfl) rfl fun a hF => ?_
        refine q_skip hF (wanted_f hF rfl rfl rfl hc3 rfl) rfl fun a hF => ?_
        refine q_skip hF (wanted_f hF rfl rfl rfl hc3 rfl) rfl fun a hF => ?_
        refine q_x (v := (.bool true)) hF hS (ex_pick_t rfl rfl hc3) rfl rfl fun a hF => ?_
        refine q_x (v := (.bool true)) hF hS (ex_move rfl) rfl rfl fun a hF => ?_
        refine q_skip hF (wanted_f hF rfl rfl rfl rfl rfl) rfl fun a hF => ?_
        refine q_skip hF (wanted_f hF rfl rfl rfl rfl rfl) rfl fun a hF => ?_
        refine q_skip hF (wanted_f hF rfl rfl rfl rfl rfl) rfl fun a hF => ?_
        refine q_skip hF (wanted_f hF rfl rfl rfl rfl rfl) rfl fun a hF => ?_
        refine q_skip hF (wanted_f hF rfl rfl rfl rfl rfl) rfl fun a hF => ?_
        refine q_skip hF (wanted_f hF rfl rfl rfl rfl rfl) rfl fun a hF => ?_
        refine q_x (v := (.bool true)) hF hS (ex_pick_t rfl rfl rfl) rfl rfl fun a hF => ?_
        refine q_x (v := (.bool true)) hF hS (ex_move rfl) rfl rfl fun a hF => ?_
        refine q_skip hF (wanted_f hF rfl rfl rfl rfl rfl) rfl fun a hF => ?_
        refine q_skip hF (wanted_f hF rfl rfl rfl rfl rfl) rfl fun a hF => ?_
        refine q_skip hF (wanted_f hF rfl rfl rfl rfl rfl) rfl fun a hF => ?_
        refine q_x (v := (.bool true)) hF hS (ex_pick_t rfl rfl rfl) rfl rfl fun a hF => ?_
        refine q_x (v := (.bool true)) hF hS (ex_move rfl) rfl rfl fun a hF => ?_
        refine q_skip hF (wanted_f hF rfl rfl rfl rfl rfl) rfl fun a hF => ?_
        refine q_skip hF (wanted_f hF rfl rfl rfl rfl rfl) rfl fun a hF => ?_
        refine q_skip hF (wanted_f hF rfl rfl rfl rfl rfl) rfl fun a hF => ?_
        refine q_skip hF (wanted_f hF rfl rfl rfl rfl rfl) rfl fun a hF => ?_
        refine q_skip hF (wanted_f hF rfl rfl rfl rfl rfl) rfl fun a hF => ?_
        refine q_skip hF (wanted_f hF rfl rfl rfl rfl rfl) rfl fun a hF => ?_
        refine q_x (v := (.bool true)) hF hS (ex_pick_t rfl rfl rfl) rfl rfl fun a hF => ?_
        refine q_x (v := (.bool true)) hF hS (ex_move rfl) rfl rfl fun a hF => ?_
        refine q_skip hF (wanted_f hF rfl rfl rfl rfl rfl) rfl fun a hF => ?_
        refine q_skip hF (wanted_f hF rfl rfl rfl rfl rfl) rfl fun a hF => ?_
        refine q_skip hF (wanted_f hF rfl rfl rfl rfl rfl) rfl fun a hF => ?_
        refine q_skip hF (wanted_f hF rfl rfl rfl rfl rfl) rfl fun a hF => ?_
        refine q_skip hF (wanted_f hF rfl rfl rfl rfl rfl) rfl fun a hF => ?_
        refine q_skip hF (wanted_f hF rfl rfl rfl rfl rfl) rfl fun a hF => ?_
        refine q_x (v := (.bool true)) hF hS (ex_pick_t rfl rfl rfl) rfl rfl fun a hF => ?_
        refine q_end (n_jn ?_)
        obtain rfl := someI hj2
        exact ⟨hF.sub ⟨rfl, rfl, rfl, rfl, rfl, rfl, rfl, trivial⟩, hS.sel [2, 3, 12, 1, 4, 11] (by decide)⟩
    · rintro a w ⟨hF, hS⟩
      refine n_sq ?_
      rcases bcase (t_47) with hc8 | hc8
      · have hr := cond_f hc8 hr
        refine q_cond_f hF rfl hc8 ?_
        refine q_skipc (n_sq ?_)
        refine q_seq ?_
        refine q_seq ?_
        obtain ⟨t_54, hj9, hr⟩ := bindS hr
        refine q_join (fun a w => Fr a 197 [(5, (.pointer (some ⟨b7, 0, none⟩))), (6, (.int .i64 t_3.2.1)), (9, (.bool t_8.2)), (144, (.bool t_54))] ∧ St [] w0 w m35 [q6, [⟨b7, [s5.v, s6.v], 46⟩]]) ?_ ?_
        · refine e_region [] mixed fun w' hw' => ?_
          have hS := hS.below hw'
          refine e_p (v := (.bool t_26.2)) 0 hF rfl (ex_move rfl) rfl rfl (by kernel_rfl) (by kernel_rfl) (by kernel_rfl) fun a hF => ?_
          refine e_p (v := (.bool t_26.2)) 1 hF rfl (ex_move rfl) rfl rfl (by kernel_rfl) (by kernel_rfl) (by kernel_rfl) fun a hF => ?_
          rcases bcase (t_26.2) with hc10 | hc10
          · have hj9 := cond_f hc10 hj9
            refine e_skipP 2 hF rfl (wanted_f hF rfl rfl rfl hc10 rfl) rfl (by kernel_rfl) (by kernel_rfl) (by kernel_rfl) fun a hF => ?_
            refine e_skipP 3 hF rfl (wanted_f hF rfl rfl rfl hc10 rfl) rfl (by kernel_rfl) (by kernel_rfl) (by kernel_rfl) fun a hF => ?_
            refine e_skipP 4 hF rfl (wanted_f hF rfl rfl rfl hc10 rfl) rfl (by kernel_rfl) (by kernel_rfl) (by kernel_rfl) fun a hF => ?_
            refine e_skipP 5 hF rfl (wanted_f hF rfl rfl rfl hc10 rfl) rfl (by kernel_rfl) (by kernel_rfl) (by kernel_rfl) fun a hF => ?_
            refine e_skipP 6 hF rfl (wanted_u hF rfl rfl rfl) rfl (by kernel_rfl) (by kernel_rfl) (by kernel_rfl) fun a hF => ?_
            refine e_skipP 7 hF rfl (wanted_u hF rfl rfl rfl) rfl (by kernel_rfl) (by kernel_rfl) (by kernel_rfl) fun a hF => ?_
            refine e_skipP 8 hF rfl (wanted_u hF rfl rfl rfl) rfl (by kernel_rfl) (by kernel_rfl) (by kernel_rfl) fun a hF => ?_
            refine e_skipP 9 hF rfl (wanted_u hF rfl rfl rfl) rfl (by kernel_rfl) (by kernel_rfl) (by kernel_rfl) fun a hF => ?_
            refine e_skipP 10 hF rfl (wanted_f hF rfl rfl rfl hc10 rfl) rfl (by kernel_rfl) (by kernel_rfl) (by kernel_rfl) fun a hF => ?_
            refine e_skipP 11 hF rfl (wanted_f hF rfl rfl rfl hc10 rfl) rfl (by kernel_rfl) (by kernel_rfl) (by kernel_rfl) fun a hF => ?_
            refine e_skipP 12 hF rfl (wanted_u hF rfl rfl rfl) rfl (by kernel_rfl) (by kernel_rfl) (by kernel_rfl) fun a hF => ?_
            refine e_skipP 13 hF rfl (wanted_u hF rfl rfl rfl) rfl (by kernel_rfl) (by kernel_rfl) (by kernel_rfl) fun a hF => ?_
            refine e_skipP 14 hF rfl (wanted_u hF rfl rfl rfl) rfl (by kernel_rfl) (by kernel_rfl) (by kernel_rfl) fun a hF => ?_
            refine e_skipP 15 hF rfl (wanted_u hF rfl rfl rfl) rfl (by kernel_rfl) (by kernel_rfl) (by kernel_rfl) fun a hF => ?_
            refine e_skipP 16 hF rfl (wanted_u hF rfl rfl rfl) rfl (by kernel_rfl) (by kernel_rfl) (by kernel_rfl) fun a hF => ?_
            refine e_skipP 17 hF rfl (wanted_u hF rfl rfl rfl) rfl (by kernel_rfl) (by kernel_rfl) (by kernel_rfl) fun a hF => ?_
            refine e_skipP 18 hF rfl (wanted_u hF rfl rfl rfl) rfl (by kernel_rfl) (by kernel_rfl) (by kernel_rfl) fun a hF => ?_
            refine e_skipP 19 hF rfl (wanted_u hF rfl rfl rfl) rfl (by kernel_rfl) (by kernel_rfl) (by kernel_rfl) fun a hF => ?_
            refine e_skipP 20 hF rfl (wanted_u hF rfl rfl rfl) rfl (by kernel_rfl) (by kernel_rfl) (by kernel_rfl) fun a hF => ?_
            refine e_skipP 21 hF rfl (wanted_u hF rfl rfl rfl) rfl (by kernel_rfl) (by kernel_rfl) (by kernel_rfl) fun a hF => ?_
            refine e_skipP 22 hF rfl (wanted_u hF rfl rfl rfl) rfl (by kernel_rfl) (by kernel_rfl) (by kernel_rfl) fun a hF => ?_
            refine e_skipP 23 hF rfl (wanted_u hF rfl rfl rfl) rfl (by kernel_rfl) (by kernel_rfl) (by kernel_rfl) fun a hF => ?_
            refine e_skipP 24 hF rfl (wanted_u hF rfl rfl rfl) rfl (by kernel_rfl) (by kernel_rfl) (by kernel_rfl) fun a hF => ?_
            refine e_skipP 25 hF rfl (wanted_u hF rfl rfl rfl) rfl (by kernel_rfl) (by kernel_rfl) (by kernel_rfl) fun a hF => ?_
            refine e_skipP 26 hF rfl (wanted_u hF rfl rfl rfl) rfl (by kernel_rfl) (by kernel_rfl) (by kernel_rfl) fun a hF => ?_
            refine e_skipP 27 hF rfl (wanted_u hF rfl rfl rfl) rfl (by kernel_rfl) (by kernel_rfl) (by kernel_rfl) fun a hF => ?_
            refine e_skipP 28 hF rfl (wanted_u hF rfl rfl rfl) rfl (by kernel_rfl) (by kernel_rfl) (by kernel_rfl) fun a hF => ?_
            refine e_skipP 29 hF rfl (wanted_f hF rfl rfl rfl hc10 rfl) rfl (by kernel_rfl) (by kernel_rfl) (by kernel_rfl) fun a hF => ?_
            refine e_p (v := (.bool false)) 30 hF rfl (ex_pick_f rfl rfl hc10) rfl rfl (by kernel_rfl) (by kernel_rfl) (by kernel_rfl) fun a hF => ?_
            refine e_end (by kernel_rfl) (n_jn ?_) _
            obtain rfl := someI hj9
            exact ⟨hF.sub ⟨rfl, rfl, rfl, rfl, trivial⟩, hS.mask [false, false, true, false, false, true]⟩
          · have hj9 := cond_t hc10 hj9
            refine e_xg (v := (.agg #[s29.v, s30.v])) 2 hF hS rfl (ex_loadA (vs := [s29.v, s30.v]) 3 0 Try.underlying46 rfl sz46 rfl rfl rfl rfl) (wanted_t hF rfl rfl rfl hc10) rfl (by kernel_rfl) (by kernel_rfl) (by kernel_rfl) (by kernel_rfl) fun a hF => ?_
            refine e_one 3 (by kernel_rfl) ?_
            obtain ⟨m49, hl49, hv49, hz49⟩ := hS.lend
            obtain ⟨t_48, ht_48, hj9⟩ := bindS hj9
            refine e_callg (vs := [(.agg #[s29.v, s30.v])]) hF hS rfl (wanted_t hF rfl rfl rfl hc10) Try.func27 (by kernel_rfl) rfl rfl rfl (c_impl_IsCube t_26.1 t_48 ht_48 _ m49 hv49 s29 ((((h29.mono hm32.le).mono hm33.le).mono hm35.le).froz hl49 (hz49 0 _ rfl)) s30 ((((h30.mono hm32.le).mono hm33.le).mono hm35.le).froz hl49 (hz49 1 _ rfl))) ?_
            rintro a w _ rfl hF hS
            refine e_pg (v := (.bool (!t_48))) 4 hF rfl (ex_not rfl) (wanted_t hF rfl rfl rfl hc10) rfl (by kernel_rfl) (by kernel_rfl) (by kernel_rfl) fun a hF => ?_
            refine e_pg (v := (.bool (!t_48))) 5 hF rfl (ex_move rfl) (wanted_t hF rfl rfl rfl hc10) rfl (by kernel_rfl) (by kernel_rfl) (by kernel_rfl) fun a hF => ?_
            rcases bcase (!t_48) with hc11 | hc11
            · have hj9 := cond_f hc11 hj9
              refine e_pg (v := (.pointer (some ⟨b31, 1, none⟩))) 6 hF rfl (ex_fieldAddr Try.underlying46 rfl sz33 rfl rfl) (wanted_t hF rfl rfl rfl hc11) rfl (by kernel_rfl) (by kernel_rfl) (by kernel_rfl) fun a hF => ?_
              refine e_xg (v := s30.v) 7 hF hS rfl (ex_load1 3 0 Try.underlying33 rfl rfl rfl rfl) (wanted_t hF rfl rfl rfl hc11) rfl (by kernel_rfl) (by kernel_rfl) (by kernel_rfl) (by kernel_rfl) fun a hF => ?_
              refine e_pg (v := (.int .i64 (goLen t_26.1.Cells))) 8 hF rfl (ex_len Try.underlying33 rfl (((h30.mono hm32.le).mono hm33.le).mono hm35.le).len) (wanted_t hF rfl rfl rfl hc11) rfl (by kernel_rfl) (by kernel_rfl) (by kernel_rfl) fun a hF => ?_
              refine e_pg (v := (.bool ((goLen t_26.1.Cells) == 0))) 9 hF rfl (ex_ibin rfl rfl rfl) (wanted_t hF rfl rfl rfl hc11) rfl (by kernel_rfl) (by kernel_rfl) (by kernel_rfl) fun a hF => ?_
              refine e_pg (v := (.bool ((goLen t_26.1.Cells) == 0))) 10 hF rfl (ex_pick_f rfl rfl hc11) (wanted_t hF rfl rfl rfl hc10) rfl (by kernel_rfl) (by kernel_rfl) (by kernel_rfl) fun a hF => ?_
              refine e_pg (v := (.bool ((goLen t_26.1.Cells) == 0))) 11 hF rfl (ex_move rfl) (wanted_t hF rfl rfl rfl hc10) rfl (by kernel_rfl) (by kernel_rfl) (by kernel_rfl) fun a hF => ?_
              rcases bcase ((goLen t_26.1.Cells) == 0) with hc12 | hc12
              · have hj9 := cond_f hc12 hj9
                refine e_pg (v := (.pointer (some ⟨b31, 1, none⟩))) 12 hF rfl (ex_fieldAddr Try.underlying46 rfl sz33 rfl rfl) (wanted_t hF rfl rfl rfl hc12) rfl (by kernel_rfl) (by kernel_rfl) (by kernel_rfl) fun a hF => ?_
                refine e_xg (v := s30.v) 13 hF hS rfl (ex_load1 3 0 Try.underlying33 rfl rfl rfl rfl) (wanted_t hF rfl rfl rfl hc12) rfl (by kernel_rfl) (by kernel_rfl) (by kernel_rfl) (by kernel_rfl) fun a hF => ?_
                refine e_pg (v := (.pointer (some ⟨b31, 1, none⟩))) 14 hF rfl (ex_fieldAddr Try.underlying46 rfl sz33 rfl rfl) (wanted_t hF rfl rfl rfl hc12) rfl (by kernel_rfl) (by kernel_rfl) (by kernel_rfl) fun a hF => ?_
                refine e_xg (v := s30.v) 15 hF hS rfl (ex_load1 3 0 Try.underlying33 rfl rfl rfl rfl) (wanted_t hF rfl rfl rfl hc12) rfl (by kernel_rfl) (by kernel_rfl) (by kernel_rfl) (by kernel_rfl) fun a hF => ?_
                refine e_pg (v := (.int .i64 (goLen t_26.1.Cells))) 16 hF rfl (ex_len Try.underlying33 rfl (((h30.mono hm32.le).mono hm33.le).mono hm35.le).len) (wanted_t hF rfl rfl rfl hc12) rfl (by kernel_rfl) (by kernel_rfl) (by kernel_rfl) fun a hF => ?_
                refine e_pg (v := (.int .i64 (w64 ((goLen t_26.1.Cells) - 1)))) 17 hF rfl (ex_ibin rfl rfl rfl) (wanted_t hF rfl rfl rfl hc12) rfl (by kernel_rfl) (by kernel_rfl) (by kernel_rfl) fun a hF => ?_
                obtain ⟨e_50, he_50, hj9⟩ := bindS hj9
                obtain ⟨vs51, at51, d51⟩ := (((h30.mono hm32.le).mono hm33.le).mono hm35.le).at he_50 1 rfl
                obtain rfl : vs51 = [(.int .i64 e_50)] := d51
                refine e_pg (v := (elP s30 ((w64 ((goLen t_26.1.Cells) - 1)).toNat * 1))) 18 hF rfl (ex_indexAddr Try.underlying33 sz3 rfl rfl ((((h30.mono hm32.le).mono hm33.le).mono hm35.le).idx he_50)) (wanted_t hF rfl rfl rfl hc12) rfl (by kernel_rfl) (by kernel_rfl) (by kernel_rfl) fun a hF => ?_
                refine e_xg (v := (.int .i64 e_50)) 19 hF hS rfl (ex_loadE1 0 Try.underlying3 rfl rfl (at51.at 1 rfl) rfl rfl) (wanted_t hF rfl rfl rfl hc12) rfl (by kernel_rfl) (by kernel_rfl) (by kernel_rfl) (by kernel_rfl) fun a hF => ?_
                refine e_pg (v := (.pointer (some ⟨b25, 1, none⟩))) 20 hF rfl (ex_fieldAddr Try.underlying46 rfl sz33 rfl rfl) (wanted_t hF rfl rfl rfl hc12) rfl (by kernel_rfl) (by kernel_rfl) (by kernel_rfl) fun a hF => ?_
                refine e_xg (v := s23.v) 21 hF hS rfl (ex_load1 4 0 Try.underlying33 rfl rfl rfl rfl) (wanted_t hF rfl rfl rfl hc12) rfl (by kernel_rfl) (by kernel_rfl) (by kernel_rfl) (by kernel_rfl) fun a hF => ?_
                refine e_pg (v := (.pointer (some ⟨b25, 1, none⟩))) 22 hF rfl (ex_fieldAddr Try.underlying46 rfl sz33 rfl rfl) (wanted_t hF rfl rfl rfl hc12) rfl (by kernel_rfl) (by kernel_rfl) (by kernel_rfl) fun a hF => ?_
                refine e_xg (v := s23.v) 23 hF hS rfl (ex_load1 4 0 Try.underlying33 rfl rfl rfl rfl) (wanted_t hF rfl rfl rfl hc12) rfl (by kernel_rfl) (by kernel_rfl) (by kernel_rfl) (by kernel_rfl) fun a hF => ?_
                refine e_pg (v := (.int .i64 (goLen t_20.1.Cells))) 24 hF rfl (ex_len Try.underlying33 rfl ((h32.mono hm33.le).mono hm35.le).len) (wanted_t hF rfl rfl rfl hc12) rfl (by kernel_rfl) (by kernel_rfl) (by kernel_rfl) fun a hF => ?_
                refine e_pg (v := (.int .i64 (w64 ((goLen t_20.1.Cells) - 1)))) 25 hF rfl (ex_ibin rfl rfl rfl) (wanted_t hF rfl rfl rfl hc12) rfl (by kernel_rfl) (by kernel_rfl) (by kernel_rfl) fun a hF => ?_
                obtain ⟨e_52, he_52, hj9⟩ := bindS hj9
                obtain ⟨vs53, at53, d53⟩ := ((h32.mono hm33.le).mono hm35.le).at he_52 1 rfl
                obtain rfl : vs53 = [(.int .i64 e_52)] := d53
                refine e_pg (v := (elP s23 ((w64 ((goLen t_20.1.Cells) - 1)).toNat * 1))) 26 hF rfl (ex_indexAddr Try.underlying33 sz3 rfl rfl (((h32.mono hm33.le).mono hm35.le).idx he_52)) (wanted_t hF rfl rfl rfl hc12) rfl (by kernel_rfl) (by kernel_rfl) (by kernel_rfl) fun a hF => ?_
                refine e_xg (v := (.int .i64 e_52)) 27 hF hS rfl (ex_loadE1 0 Try.underlying3 rfl rfl ((at53).at) rfl rfl) (wanted_t hF rfl rfl rfl hc12) rfl (by kernel_rfl) (by kernel_rfl) (by kernel_rfl) (by kernel_rfl) fun a hF => ?_
                refine e_pg (v := (.bool (e_50 != e_52))) 28 hF rfl (ex_ibin rfl rfl rfl) (wanted_t hF rfl rfl rfl hc12) rfl (by kernel_rfl) (by kernel_rfl) (by kernel_rfl) fun a hF => ?_
                refine e_pg (v := (.bool (e_50 != e_52))) 29 hF rfl (ex_pick_f rfl rfl hc12) (wanted_t hF rfl rfl rfl hc10) rfl (by kernel_rfl) (by kernel_rfl) (by kernel_rfl) fun a hF => ?_
                refine e_p (v := (.bool (e_50 != e_52))) 30 hF rfl (ex_pick_t rfl rfl hc10) rfl rfl (by kernel_rfl) (by kernel_rfl) (by kernel_rfl) fun a hF => ?_
                refine e_end (by kernel_rfl) (n_jn ?_) _
                obtain rfl := someI hj9
                exact ⟨hF.sub ⟨rfl, rfl, rfl, rfl, trivial⟩, hS.mask [false, false, true, false, false, true]⟩
              · have hj9 := cond_t hc12 hj9
                refine e_skipP 12 hF rfl (wanted_f hF rfl rfl rfl hc12 rfl) rfl (by kernel_rfl) (by kernel_rfl) (by kernel_rfl) fun a hF => ?_
                refine e_skipP 13 hF rfl (wanted_f hF rfl rfl rfl hc12 rfl) rfl (by kernel_rfl) (by kernel_rfl) (by kernel_rfl) fun a hF => ?_
                refine e_skipP 14 hF rfl (wanted_f hF rfl rfl rfl hc12 rfl) rfl (by kernel_rfl) (by kernel_rfl) (by kernel_rfl) fun a hF => ?_
                refine e_skipP 15 hF rfl (wanted_f hF rfl rfl rfl hc12 rfl) rfl (by kernel_rfl) (by kernel_rfl) (by kernel_rfl) fun a hF => ?_
                refine e_skipP 16 hF rfl (wanted_f hF rfl rfl rfl hc12 rfl) rfl (by kernel_rfl) (by kernel_rfl) (by kernel_rfl) fun a hF => ?_
                refine e_skipP 17 hF rfl (wanted_f hF rfl rfl rfl hc12 rfl) rfl (by kernel_rfl) (by kernel_rfl) (by kernel_rfl) fun a hF => ?_
                refine e_skipP 18 hF rfl (wanted_f hF rfl rfl rfl hc12 rfl) rfl (by kernel_rfl) (by kernel_rfl) (by kernel_rfl) fun a hF => ?_
                refine e_skipP 19 hF rfl (wanted_f hF rfl rfl rfl hc12 rfl) rfl (by kernel_rfl) (by kernel_rfl) (by kernel_rfl) fun a hF => ?_
                refine e_skipP 20 hF rfl (wanted_f hF rfl rfl rfl hc12 rfl) rfl (by kernel_rfl) (by kernel_rfl) (by kernel_rfl) fun a hF => ?_
                refine e_skipP 21 hF rfl (wanted_f hF rfl rfl rfl hc12 rfl) rfl (by kernel_rfl) (by kernel_rfl) (by kernel_rfl) fun a hF => ?_
                refine e_skipP 22 hF rfl (wanted_f hF rfl rfl rfl hc12 rfl) rfl (by kernel_rfl) (by kernel_rfl) (by kernel_rfl) fun a hF => ?_
                refine e_skipP 23 hF rfl (wanted_f hF rfl rfl rfl hc12 rfl) rfl (by kernel_rfl) (by kernel_rfl) (by kernel_rfl) fun a hF => ?_
                refine e_skipP 24 hF rfl (wanted_f hF rfl rfl rfl hc12 rfl) rfl (by kernel_rfl) (by kernel_rfl) (by kernel_rfl) fun a hF => ?_
                refine e_skipP 25 hF rfl (wanted_f hF rfl rfl rfl hc12 rfl) rfl (by kernel_rfl) (by kernel_rfl) (by kernel_rfl) fun a hF => ?_
                refine e_skipP 26 hF rfl (wanted_f hF rfl rfl rfl hc12 rfl) rfl (by kernel_rfl) (by kernel_rfl) (by kernel_rfl) fun a hF => ?_
                refine e_skipP 27 hF rfl (wanted_f hF rfl rfl rfl hc12 rfl) rfl (by kernel_rfl) (by kernel_rfl) (by kernel_rfl) fun a hF => ?_
                refine e_skipP 28 hF rfl (wanted_f hF rfl rfl rfl hc12 rfl) rfl (by kernel_rfl) (by kernel_rfl) (by kernel_rfl) fun a hF => ?_
                refine e_pg (v := (.bool true)) 29 hF rfl (ex_pick_t rfl rfl hc12) (wanted_t hF rfl rfl rfl hc10) rfl (by kernel_rfl) (by kernel_rfl) (by kernel_rfl) fun a hF => ?_
                refine e_p (v := (.bool true)) 30 hF rfl (ex_pick_t rfl rfl hc10) rfl rfl (by kernel_rfl) (by kernel_rfl) (by kernel_rfl) fun a hF => ?_
                refine e_end (by kernel_rfl) (n_jn ?_) _
                obtain rfl := someI hj9
                exact ⟨hF.sub ⟨rfl, rfl, rfl, rfl, trivial⟩, hS.mask [false, false, true, false, false, true]⟩
            · have hj9 := cond_t hc11 hj9
              refine e_skipP 6 hF rfl (wanted_f hF rfl rfl rfl hc11 rfl) rfl (by kernel_rfl) (by kernel_rfl) (by kernel_rfl) fun a hF => ?_
              refine e_skipP 7 hF rfl (wanted_f hF rfl rfl rfl hc11 rfl) rfl (by kernel_rfl) (by kernel_rfl) (by kernel_rfl) fun a hF => ?_
              refine e_skipP 8 hF rfl (wanted_f hF rfl rfl rfl hc11 rfl) rfl (by kernel_rfl) (by kernel_rfl) (by kernel_rfl) fun a hF => ?_
              refine e_skipP 9 hF rfl (wanted_f hF rfl rfl rfl hc11 rfl) rfl (by kernel_rfl) (by kernel_rfl) (by kernel_rfl) fun a hF => ?_
              refine e_pg (v := (.bool true)) 10 hF rfl (ex_pick_t rfl rfl hc11) (wanted_t hF rfl rfl rfl hc10) rfl (by kernel_rfl) (by kernel_rfl) (by kernel_rfl) fun a hF => ?_
              refine e_pg (v := (.bool true)) 11 hF rfl (ex_move rfl) (wanted_t hF rfl rfl rfl hc10) rfl (by kernel_rfl) (by kernel_rfl) (by kernel_rfl) fun a hF => ?_
              refine e_skipP 12 hF rfl (wanted_f hF rfl rfl rfl rfl rfl) rfl (by kernel_rfl) (by kernel_rfl) (by kernel_rfl) fun a hF => ?_
              refine e_skipP 13 hF rfl (wanted_f hF rfl rfl rfl rfl rfl) rfl (by kernel_rfl) (by kernel_rfl) (by kernel_rfl) fun a hF => ?_
              refine e_skipP 14 hF rfl (wanted_f hF rfl rfl rfl rfl rfl) rfl (by kernel_rfl) (by kernel_rfl) (by kernel_rfl) fun a hF => ?_
              refine e_skipP 15 hF rfl (wanted_f hF rfl rfl rfl rfl rfl) rfl (by kernel_rfl) (by kernel_rfl) (by kernel_rfl) fun a hF => ?_
              refine e_skipP 16 hF rfl (wanted_f hF rfl rfl rfl rfl rfl) rfl (by kernel_rfl) (by kernel_rfl) (by kernel_rfl) fun a hF => ?_
              refine e_skipP 17 hF rfl (wanted_f hF rfl rfl rfl rfl rfl) rfl (by kernel_rfl) (by kernel_rfl) (by kernel_rfl) fun a hF => ?_
              refine e_skipP 18 hF rfl (wanted_f hF rfl rfl rfl rfl rfl) rfl (by kernel_rfl) (by kernel_rfl) (by kernel_rfl) fun a hF => ?_
              refine e_skipP 19 hF rfl (wanted_f hF rfl rfl rfl rfl rfl) rfl (by kernel_rfl) (by kernel_rfl) (by kernel_rfl) fun a hF => ?_
              refine e_skipP 20 hF rfl (wanted_f hF rfl rfl rfl rfl rfl) rfl (by kernel_rfl) (by kernel_rfl) (by kernel_rfl) fun a hF => ?_
              refine e_skipP 21 hF rfl (wanted_f hF rfl rfl rfl rfl rfl) rfl (by kernel_rfl) (by kernel_rfl) (by kernel_rfl) fun a hF => ?_
              refine e_skipP 22 hF rfl (wanted_f hF rfl rfl rfl rfl rfl) rfl (by kernel_rfl) (by kernel_rfl) (by kernel_rfl) fun a hF => ?_
              refine e_skipP 23 hF rfl (wanted_f hF rfl rfl rfl rfl rfl) rfl (by kernel_rfl) (by kernel_rfl) (by kernel_rfl) fun a hF => ?_
              refine e_skipP 24 hF rfl (wanted_f hF rfl rfl rfl rfl rfl) rfl (by kernel_rfl) (by kernel_rfl) (by kernel_rfl) fun a hF => ?_
              refine e_skipP 25 hF rfl (wanted_f hF rfl rfl rfl rfl rfl) rfl (by kernel_rfl) (by kernel_rfl) (by kernel_rfl) fun a hF => ?_
              refine e_skipP 26 hF rfl (wanted_f hF rfl rfl rfl rfl rfl) rfl (by kernel_rfl) (by kernel_rfl) (by kernel_rfl) fun a hF => ?_
              refine e_skipP 27 hF rfl (wanted_f hF rfl rfl rfl rfl rfl) rfl (by kernel_rfl) (by kernel_rfl) (by kernel_rfl) fun a hF => ?_
              refine e_skipP 28 hF rfl (wanted_f hF rfl rfl rfl rfl rfl) rfl (by kernel_rfl) (by kernel_rfl) (by kernel_rfl) fun a hF => ?_
              refine e_pg (v := (.bool true)) 29 hF rfl (ex_pick_t rfl rfl rfl) (wanted_t hF rfl rfl rfl hc10) rfl (by kernel_rfl) (by kernel_rfl) (by kernel_rfl) fun a hF => ?_
              refine e_p (v := (.bool true)) 30 hF rfl (ex_pick_t rfl rfl hc10) rfl rfl (by kernel_rfl) (by kernel_rfl) (by kernel_rfl) fun a hF => ?_
              refine e_end (by kernel_rfl) (n_jn ?_) _
              obtain rfl := someI hj9
              exact ⟨hF.sub ⟨rfl, rfl, rfl, rfl, trivial⟩, hS.mask [false, false, true, false, false, true]⟩
        · rintro a w ⟨hF, hS⟩
          refine n_sq ?_
          rcases bcase (t_54) with hc13 | hc13
          · have hr := cond_f hc13 hr
            refine q_cond_f hF rfl hc13 ?_
            refine q_skipc (n_sq ?_)
            refine q_seq ?_
            refine q_seq ?_
            refine q_region ?_
            refine q_x (v := (.bool t_8.2)) hF hS (ex_move rfl) rfl rfl fun a hF => ?_
            refine q_x (v := (.bool (!t_8.2))) hF hS (ex_not rfl) rfl rfl fun a hF => ?_
            refine q_end (n_sq ?_)
            rcases bcase (!t_8.2) with hc14 | hc14
            · have hr := cond_f hc14 hr
              refine q_cond_f hF rfl hc14 ?_
              refine q_skipc (n_sq ?_)
              refine q_seq ?_
              obtain ⟨j15, hj15, hr⟩ := bindS hr
              refine q_join (fun a w => ∃ b67, ∃ (q70 : Piece), ∃ (s70 : Sl), ∃ (q71 : Piece), ∃ (s71 : Sl), ∃ is_68, ∃ all_69, j15 = (is_68, all_69) ∧ Fr a 197 [(5, (.pointer (some ⟨b7, 0, none⟩))), (6, (.int .i64 t_3.2.1)), (19, (.pointer (some ⟨b67, 0, none⟩))), (20, (.bool is_68))] ∧ St [] w0 w m35 [q70, q71, q6, [⟨b67, [s70.v, s71.v], 46⟩], [⟨b7, [s5.v, s6.v], 46⟩]] ∧ OwnL m35 3 q70 s70 all_69.Sizes ∧ OwnL m35 3 q71 s71 all_69.Cells) ?_ ?_
              · refine e_region [12] mixed fun w' hw' => ?_
                have hS := hS.below hw'
                refine e_x (v := (.agg #[s5.v, s6.v])) 0 hF hS rfl (ex_loadA (vs := [s5.v, s6.v]) 1 0 Try.underlying46 rfl sz46 rfl rfl rfl rfl) rfl rfl (by kernel_rfl) (by kernel_rfl) (by kernel_rfl) (by kernel_rfl) fun a hF => ?_
                refine e_p (v := (.int .i64 t_3.2.1)) 1 hF rfl (ex_move rfl) rfl rfl (by kernel_rfl) (by kernel_rfl) (by kernel_rfl) fun a hF => ?_
                refine e_p (v := (.pointer (some ⟨b7, 0, none⟩))) 2 hF rfl (ex_fieldAddr Try.underlying46 rfl sz33 rfl rfl) rfl rfl (by kernel_rfl) (by kernel_rfl) (by kernel_rfl) fun a hF => ?_
                refine e_x (v := s5.v) 3 hF hS rfl (ex_load1 1 0 Try.underlying33 rfl rfl rfl rfl) rfl rfl (by kernel_rfl) (by kernel_rfl) (by kernel_rfl) (by kernel_rfl) fun a hF => ?_
                refine e_p (v := (.int .i64 t_3.2.1)) 4 hF rfl (ex_move rfl) rfl rfl (by kernel_rfl) (by kernel_rfl) (by kernel_rfl) fun a hF => ?_
                obtain ⟨e_55, he_55, hj15⟩ := bindS hj15
                obtain ⟨vs56, at56, d56⟩ := ((((h5.mono hm21.le).mono hm32.le).mono hm33.le).mono hm35.le).at he_55 1 rfl
                obtain rfl : vs56 = [(.int .i64 e_55)] := d56
                refine e_p (v := (elP s5 (t_3.2.1.toNat * 1))) 5 hF rfl (ex_indexAddr Try.underlying33 sz3 rfl rfl (((((h5.mono hm21.le).mono hm32.le).mono hm33.le).mono hm35.le).idx he_55)) rfl rfl (by kernel_rfl) (by kernel_rfl) (by kernel_rfl) fun a hF => ?_
                refine e_x (v := (.int .i64 e_55)) 6 hF hS rfl (ex_loadE1 0 Try.underlying3 rfl rfl ((at56).at) rfl rfl) rfl rfl (by kernel_rfl) (by kernel_rfl) (by kernel_rfl) (by kernel_rfl) fun a hF => ?_
                obtain ⟨t_62, ht_62, hj15⟩ := bindS hj15
                refine e_all [7, 11] (by kernel_rfl) rfl ⟨?_, ?_, trivial⟩
                · obtain ⟨m63, hl63, hv63, hz63⟩ := hS.lend
                  refine e_call (vs := [(.agg #[s5.v, s6.v]), (.int .i64 t_3.2.1), (.int .i64 e_55)]) hF hS rfl Try.func33 (by kernel_rfl) rfl rfl rfl (c_impl_SliceOf t_3.1 t_3.2.1 e_55 t_62 ht_62 _ m63 hv63 s5 (((((h5.mono hm21.le).mono hm32.le).mono hm33.le).mono hm35.le).mono hl63) s6 (((((h6.mono hm21.le).mono hm32.le).mono hm33.le).mono hm35.le).froz hl63 (hz63 0 _ rfl))) ?_
                  rintro a w _ ⟨q65, q66, s65, s66, rfl, hR64, h65, h66⟩ hF hS2
                  have hS : St _ _ _ _ [q65, q66, q6, [⟨b7, [s5.v, s6.v], 46⟩]] := hS.joinF hR64
                  have h65 := h65.any m35
                  have h66 := h66.any m35
                  refine e_p (v := (.tuple #[(.agg #[s65.v, s66.v]), (.bool t_62.2)])) 8 hF rfl (ex_move rfl) rfl rfl (by kernel_rfl) (by kernel_rfl) (by kernel_rfl) fun a hF => ?_
                  refine e_p (v := (.agg #[s65.v, s66.v])) 9 hF rfl (ex_extract rfl rfl) rfl rfl (by kernel_rfl) (by kernel_rfl) (by kernel_rfl) fun a hF => ?_
                  refine e_p (v := (.bool t_62.2)) 10 hF rfl (ex_extract rfl rfl) rfl rfl (by kernel_rfl) (by kernel_rfl) (by kernel_rfl) fun a hF => ?_
                  refine e_one 11 (by kernel_rfl) ?_
                  refine e_alloc (cs := [nilS.v, nilS.v]) hF hS rfl rfl rfl rfl fun a w b67 hF hS => ?_
                  refine e_one 12 (by kernel_rfl) ?_
                  refine e_store (vs := [s65.v, s66.v]) (cs' := [s65.v, s66.v]) 0 0 hF hS rfl rfl sz46 rfl rfl rfl rfl rfl rfl rfl rfl fun a w hF hS => ?_
                  refine e_p (v := (.bool t_62.2)) 13 hF rfl (ex_assign rfl) rfl rfl (by kernel_rfl) (by kernel_rfl) (by kernel_rfl) fun a hF => ?_
                  refine e_end (by kernel_rfl) (n_jn ?_) _
                  obtain rfl := someI hj15
                  exact ⟨b67, q65, s65, q66, s66, _, _, rfl, hF.sub ⟨rfl, rfl, rfl, rfl, trivial⟩, hS.sel [1, 2, 3, 0, 4] (by decide), h65, h66⟩
                · refine e_alloc (cs := [nilS.v, nilS.v]) hF hS rfl rfl rfl rfl fun a w b67 hF hS => ?_
                  refine e_one 7 (by kernel_rfl) ?_
                  obtain ⟨m63, hl63, hv63, hz63⟩ := hS.lend
                  refine e_call (vs := [(.agg #[s5.v, s6.v]), (.int .i64 t_3.2.1), (.int .i64 e_55)]) hF hS rfl Try.func33 (by kernel_rfl) rfl rfl rfl (c_impl_SliceOf t_3.1 t_3.2.1 e_55 t_62 ht_62 _ m63 hv63 s5 (((((h5.mono hm21.le).mono hm32.le).mono hm33.le).mono hm35.le).mono hl63) s6 (((((h6.mono hm21.le).mono hm32.le).mono hm33.le).mono hm35.le).froz hl63 (hz63 1 _ rfl))) ?_
                  rintro a w _ ⟨q65, q66, s65, s66, rfl, hR64, h65, h66⟩ hF hS2
                  have hS : St _ _ _ _ [q65, q66, [⟨b67, [nilS.v, nilS.v], 46⟩], q6, [⟨b7, [s5.v, s6.v], 46⟩]] := hS.joinF hR64
                  have h65 := h65.any m35
                  have h66 := h66.any m35
                  refine e_p (v := (.tuple #[(.agg #[s65.v, s66.v]), (.bool t_62.2)])) 8 hF rfl (ex_move rfl) rfl rfl (by kernel_rfl) (by kernel_rfl) (by kernel_rfl) fun a hF => ?_
                  refine e_p (v := (.agg #[s65.v, s66.v])) 9 hF rfl (ex_extract rfl rfl) rfl rfl (by kernel_rfl) (by kernel_rfl) (by kernel_rfl) fun a hF => ?_
                  refine e_p (v := (.bool t_62.2)) 10 hF rfl (ex_extract rfl rfl) rfl rfl (by kernel_rfl) (by kernel_rfl) (by kernel_rfl) fun a hF => ?_
                  refine e_one 12 (by kernel_rfl) ?_
                  refine e_store (vs := [s65.v, s66.v]) (cs' := [s65.v, s66.v]) 2 0 hF hS rfl rfl sz46 rfl rfl rfl rfl rfl rfl rfl rfl fun a w hF hS => ?_
                  refine e_p (v := (.bool t_62.2)) 13 hF rfl (ex_assign rfl) rfl rfl (by kernel_rfl) (by kernel_rfl) (by kernel_rfl) fun a hF => ?_
                  refine e_end (by kernel_rfl) (n_jn ?_) _
                  obtain rfl := someI hj15
                  exact ⟨b67, q65, s65, q66, s66, _, _, rfl, hF.sub ⟨rfl, rfl, rfl, rfl, trivial⟩, hS.sel [0, 1, 3, 2, 4] (by decide), h65, h66⟩
              · rintro a w ⟨b67, q70, s70, q71, s71, is_68, all_69, rfl, hF, hS, h70, h71⟩
                refine n_sq ?_
                refine q_seq ?_
                refine q_seq ?_
                refine q_region ?_
                refine q_x (v := (.bool is_68)) hF hS (ex_move rfl) rfl rfl fun a hF => ?_
                refine q_x (v := (.bool (!is_68))) hF hS (ex_not rfl) rfl rfl fun a hF => ?_
                refine q_end (n_sq ?_)
                rcases bcase (!is_68) with hc16 | hc16
                · have hr := cond_f hc16 hr
                  refine q_cond_f hF rfl hc16 ?_
                  refine q_skipc (n_sq ?_)
                  refine q_seq ?_
                  refine q_seq ?_
                  refine q_region ?_
                  refine q_x (v := (.int .i64 0)) hF hS (ex_assign rfl) rfl rfl fun a hF => ?_
                  refine q_end (n_sq ?_)
                  refine q_block ?_
                  obtain ⟨o17, hl17, hr⟩ := bindS hr
                  refine q_loop (fun (s : Int × impl_Cube) a w => ∃ (q74 : Piece), ∃ (s74 : Sl), ∃ (q75 : Piece), ∃ (s75 : Sl), ∃ k_72, ∃ all_73, s = (k_72, all_73) ∧ Fr a 197 [(5, (.pointer (some ⟨b7, 0, none⟩))), (6, (.int .i64 t_3.2.1)), (19, (.pointer (some ⟨b67, 0, none⟩))), (21, (.int .i64 k_72))] ∧ St [] w0 w m35 [q74, q75, q6, [⟨b67, [s74.v, s75.v], 46⟩], [⟨b7, [s5.v, s6.v], 46⟩]] ∧ OwnL m35 3 q74 s74 all_73.Sizes ∧ OwnL m35 3 q75 s75 all_73.Cells) (fun (o : (impl_Cube) ⊕ (Bool)) e a w => ∃ (q91 : Piece), ∃ (s91 : Sl), ∃ (q92 : Piece), ∃ (s92 : Sl), ∃ all_90, o = .inl all_90 ∧ e = .exit 0 ∧ Fr a 197 [(19, (.pointer (some ⟨b67, 0, none⟩)))] ∧ St [] w0 w m35 [q91, q92, [⟨b67, [s91.v, s92.v], 46⟩]] ∧ OwnL m35 3 q91 s91 all_90.Sizes ∧ OwnL m35 3 q92 s92 all_90.Cells) hl17 ⟨q70, s70, q71, s71, _, _, rfl, hF.sub ⟨rfl, rfl, rfl, rfl, trivial⟩, hS, h70, h71⟩ ?_ ?_
                  · clear hF hS
                    rintro s a w st ⟨q74, s74, q75, s75, k_72, all_73, rfl, hF, hS, h74, h75⟩ hb17
                    unfold laws_FnSlices_l1 at hb17
                    refine q_seq ?_
                    refine q_seq ?_
                    refine q_region ?_
                    refine q_x (v := (.int .i64 k_72)) hF hS (ex_move rfl) rfl rfl fun a hF => ?_
                    refine q_x (v := (.pointer (some ⟨b7, 0, none⟩))) hF hS (ex_fieldAddr Try.underlying46 rfl sz33 rfl rfl) rfl rfl fun a hF => ?_
                    refine q_x (v := s5.v) hF hS (ex_load1 4 0 Try.underlying33 rfl rfl rfl rfl) rfl rfl fun a hF => ?_
                    refine q_x (v := (.int .i64 t_3.2.1)) hF hS (ex_move rfl) rfl rfl fun a hF => ?_
                    obtain ⟨e_76, he_76, hb17⟩ := bindS hb17
                    obtain ⟨vs77, at77, d77⟩ := ((((h5.mono hm21.le).mono hm32.le).mono hm33.le).mono hm35.le).at he_76 1 rfl
                    obtain rfl : vs77 = [(.int .i64 e_76)] := d77
                    refine q_x (v := (elP s5 (t_3.2.1.toNat * 1))) hF hS (ex_indexAddr Try.underlying33 sz3 rfl rfl (((((h5.mono hm21.le).mono hm32.le).mono hm33.le).mono hm35.le).idx he_76)) rfl rfl fun a hF => ?_
                    refine q_x (v := (.int .i64 e_76)) hF hS (ex_loadE1 0 Try.underlying3 rfl rfl ((at77).at) rfl rfl) rfl rfl fun a hF => ?_
                    refine q_x (v := (.bool (decide (k_72 < e_76)))) hF hS (ex_ibin rfl rfl rfl) rfl rfl fun a hF => ?_
                    refine q_end (n_sq ?_)
                    rcases bcase (decide (k_72 < e_76)) with hc18 | hc18
                    · have hb17 := cond_f hc18 hb17
                      refine q_cond_f hF rfl hc18 ?_
                      refine q_exit (x_sq ?_)
                      obtain rfl := someI hb17
                      exact ⟨nofun, .inl ⟨q74, s74, q75, s75, _, rfl, rfl, hF.sub ⟨rfl, trivial⟩, hS.mask [true, true, false, true, false], h74, h75⟩⟩
                    · have hb17 := cond_t hc18 hb17
                      refine q_cond_t hF rfl hc18 ?_
                      refine q_skipc (n_sq ?_)
                      refine q_seq ?_
                      refine q_block ?_
                      refine q_seq ?_
                      refine q_region ?_
                      refine q_x (v := (.agg #[s5.v, s6.v])) hF hS (ex_loadA (vs := [s5.v, s6.v]) 4 0 Try.underlying46 rfl sz46 rfl rfl rfl rfl) rfl rfl fun a hF => ?_
                      refine q_x (v := (.int .i64 t_3.2.1)) hF hS (ex_move rfl) rfl rfl fun a hF => ?_
                      refine q_x (v := (.int .i64 k_72)) hF hS (ex_move rfl) rfl rfl fun a hF => ?_
                      obtain ⟨m79, hl79, hv79, hz79⟩ := hS.lend
                      obtain ⟨t_78, ht_78, hb17⟩ := bindS hb17
                      refine q_call (vs := [(.agg #[s5.v, s6.v]), (.int .i64 t_3.2.1), (.int .i64 k_72)]) hF hS Try.func33 (by kernel_rfl) rfl rfl rfl (c_impl_SliceOf t_3.1 t_3.2.1 k_72 t_78 ht_78 _ m79 hv79 s5 (((((h5.mono hm21.le).mono hm32.le).mono hm33.le).mono hm35.le).mono hl79) s6 (((((h6.mono hm21.le).mono hm32.le).mono hm33.le).mono hm35.le).froz hl79 (hz79 2 _ rfl))) ?_
                      rintro a w _ ⟨q81, q82, s81, s82, rfl, hR80, h81, h82⟩ hF hS2
                      have hS : St _ _ _ _ [q81, q82, q74, q75, q6, [⟨b67, [s74.v, s75.v], 46⟩], [⟨b7, [s5.v, s6.v], 46⟩]] := hS.joinF hR80
                      have h81 := h81.any m35
                      have h82 := h82.any m35
                      refine q_x (v := (.tuple #[(.agg #[s81.v, s82.v]), (.bool t_78.2)])) hF hS (ex_move rfl) rfl rfl fun a hF => ?_
                      refine q_x (v := (.agg #[s81.v, s82.v])) hF hS (ex_extract rfl rfl) rfl rfl fun a hF => ?_
                      refine q_x (v := (.bool t_78.2)) hF hS (ex_extract rfl rfl) rfl rfl fun a hF => ?_
                      refine q_alloc (cs := [nilS.v, nilS.v]) hF hS rfl rfl rfl fun a w b83 hF hS => ?_
                      refine q_store (vs := [s81.v, s82.v]) (cs' := [s81.v, s82.v]) 0 0 hF hS sz46 rfl rfl rfl rfl rfl rfl rfl rfl fun a w hF hS => ?_
                      refine q_x (v := (.bool t_78.2)) hF hS (ex_assign rfl) rfl rfl fun a hF => ?_
                      refine q_end (n_sq ?_)
                      refine q_seq ?_
                      refine q_seq ?_
                      refine q_region ?_
                      refine q_x (v := (.bool t_78.2)) hF hS (ex_move rfl) rfl rfl fun a hF => ?_
                      refine q_x (v := (.bool (!t_78.2))) hF hS (ex_not rfl) rfl rfl fun a hF => ?_
                      refine q_end (n_sq ?_)
                      rcases bcase (!t_78.2) with hc19 | hc19
                      · have hb17 := cond_f hc19 hb17
                        refine q_cond_f hF rfl hc19 ?_
                        refine q_skipc (n_sq ?_)
                        refine q_seq ?_
                        refine q_region ?_
                        refine q_x (v := (.agg #[s74.v, s75.v])) hF hS (ex_loadA (vs := [s74.v, s75.v]) 6 0 Try.underlying46 rfl sz46 rfl rfl rfl rfl) rfl rfl fun a hF => ?_
                        refine q_x (v := (.agg #[s81.v, s82.v])) hF hS (ex_loadA (vs := [s81.v, s82.v]) 0 0 Try.underlying46 rfl sz46 rfl rfl rfl rfl) rfl rfl fun a hF => ?_
                        obtain ⟨m85, hl85, hv85, hz85⟩ := hS.lend
                        obtain ⟨t_84, ht_84, hb17⟩ := bindS hb17
                        refine q_call (vs := [(.agg #[s74.v, s75.v]), (.agg #[s81.v, s82.v])]) hF hS Try.func38 (by kernel_rfl) rfl rfl rfl (c_impl_DifferenceOf all_73 t_78.1 t_84 ht_84 _ m85 hv85 s74 (h74.froz hl85 (hz85 3 _ rfl)) s75 (h75.froz hl85 (hz85 4 _ rfl)) s81 (h81.froz hl85 (hz85 1 _ rfl)) s82 (h82.froz hl85 (hz85 2 _ rfl))) ?_
                        rintro a w _ ⟨q87, q88, s87, s88, rfl, hR86, h87, h88⟩ hF hS2
                        have hS : St _ _ _ _ [q87, q88, [⟨b83, [s81.v, s82.v], 46⟩], q81, q82, q74, q75, q6, [⟨b67, [s74.v, s75.v], 46⟩], [⟨b7, [s5.v, s6.v], 46⟩]] := hS.joinF hR86
                        have h87 := h87.any m35
                        have h88 := h88.any m35
                        refine q_x (v := (.tuple #[(.agg #[s87.v, s88.v]), (.bool t_84.2)])) hF hS (ex_move rfl) rfl rfl fun a hF => ?_
                        refine q_x (v := (.agg #[s87.v, s88.v])) hF hS (ex_extract rfl rfl) rfl rfl fun a hF => ?_
                        refine q_x (v := (.bool t_84.2)) hF hS (ex_extract rfl rfl) rfl rfl fun a hF => ?_
                        refine q_alloc (cs := [nilS.v, nilS.v]) hF hS rfl rfl rfl fun a w b89 hF hS => ?_
                        refine q_store (vs := [s87.v, s88.v]) (cs' := [s87.v, s88.v]) 0 0 hF hS sz46 rfl rfl rfl rfl rfl rfl rfl rfl fun a w hF hS => ?_
                        refine q_x (v := (.bool t_84.2)) hF hS (ex_assign rfl) rfl rfl fun a hF => ?_
                        refine q_end (n_sq ?_)
                        refine q_seq ?_
                        refine q_seq ?_
                        refine q_region ?_
                        refine q_x (v := (.bool t_84.2)) hF hS (ex_move rfl) rfl rfl fun a hF => ?_
                        refine q_x (v := (.bool (!t_84.2))) hF hS (ex_not rfl) rfl rfl fun a hF => ?_
                        refine q_end (n_sq ?_)
                        rcases bcase (!t_84.2) with hc20 | hc20
                        · have hb17 := cond_f hc20 hb17
                          refine q_cond_f hF rfl hc20 ?_
                          refine q_skipc (n_sq ?_)
                          refine q_region ?_
                          refine q_x (v := (.agg #[s87.v, s88.v])) hF hS (ex_loadA (vs := [s87.v, s88.v]) 0 0 Try.underlying46 rfl sz46 rfl rfl rfl rfl) rfl rfl fun a hF => ?_
                          refine q_store (vs := [s87.v, s88.v]) (cs' := [s87.v, s88.v]) 9 0 hF hS sz46 rfl rfl rfl rfl rfl rfl rfl rfl fun a w hF hS => ?_
                          refine q_end (n_ib (n_sq ?_))
                          refine q_region ?_
                          refine q_x (v := (.int .i64 k_72)) hF hS (ex_move rfl) rfl rfl fun a hF => ?_
                          refine q_x (v := (.int .i64 (w64 (k_72 + 1)))) hF hS (ex_ibin rfl rfl rfl) rfl rfl fun a hF => ?_
                          refine q_x (v := (.int .i64 (w64 (k_72 + 1)))) hF hS (ex_assign rfl) rfl rfl fun a hF => ?_
                          refine q_end ?_
                          obtain rfl := someI hb17
                          exact ⟨rfl, q87, s87, q88, s88, _, _, rfl, hF.sub ⟨rfl, rfl, rfl, rfl, trivial⟩, hS.mask [false, true, true, false, false, false, false, false, true, true, true], h87, h88⟩
                        · have hb17 := cond_t hc20 hb17
                          refine q_cond_t hF rfl hc20 ?_
                          refine q_seq ?_
                          refine q_region ?_
                          refine q_x (v := (.bool true)) hF hS (ex_assign rfl) rfl rfl fun a hF => ?_
                          refine q_end (n_sq (q_ret (r_sq (r_ib (r_sq ?_)))))
                          obtain rfl := someI hb17
                          refine ⟨nofun, .inr fun ho => ?_⟩
                          subst ho
                          refine r_ib (r_sq ?_)
                          obtain rfl := someI hr
                          exact ret_of hF hS rfl (.tmp rfl .nil) rfl
                      · have hb17 := cond_t hc19 hb17
                        refine q_cond_t hF rfl hc19 ?_
                        refine q_seq ?_
                        refine q_region ?_
                        refine q_x (v := (.bool false)) hF hS (ex_assign rfl) rfl rfl fun a hF => ?_
                        refine q_end (n_sq (q_ret (r_sq (r_ib (r_sq ?_)))))
                        obtain rfl := someI hb17
                        refine ⟨nofun, .inr fun ho => ?_⟩
                        subst ho
                        refine r_ib (r_sq ?_)
                        obtain rfl := someI hr
                        exact ret_of hF hS rfl (.tmp rfl .nil) rfl
                  · rintro e a w ⟨q91, s91, q92, s92, all_90, rfl, rfl, hF, hS, h91, h92⟩
                    refine x_ib (n_sq ?_)
                    refine q_seq ?_
                    refine q_seq ?_
                    refine q_region ?_
                    refine q_x (v := (.pointer (some ⟨b67, 1, none⟩))) hF hS (ex_fieldAddr Try.underlying46 rfl sz33 rfl rfl) rfl rfl fun a hF => ?_
                    refine q_x (v := s92.v) hF hS (ex_load1 2 0 Try.underlying33 rfl rfl rfl rfl) rfl rfl fun a hF => ?_
                    refine q_x (v := (.int .i64 (goLen all_90.Cells))) hF hS (ex_len Try.underlying33 rfl h92.len) rfl rfl fun a hF => ?_
                    refine q_x (v := (.int .i64 0)) hF hS (ex_move rfl) rfl rfl fun a hF => ?_
                    refine q_end (n_sq ?_)
                    refine q_block ?_
                    obtain ⟨o21, hl21, hr⟩ := bindS hr
                    refine q_loop (fun (t_93 : Int) a w => Fr a 197 [(188, s92.v), (189, (.int .i64 (goLen all_90.Cells))), (190, (.int .i64 t_93))] ∧ St [] w0 w m35 [q92]) (fun (o : (Unit) ⊕ (Bool)) e a w => o = .inl () ∧ e = .exit 2 ∧ Fr a 197 [] ∧ St [] w0 w m35 []) hl21 ⟨hF.sub ⟨rfl, rfl, rfl, trivial⟩, hS.mask [false, true, false]⟩ ?_ ?_
                    · clear hF hS
                      rintro t_93 a w st ⟨hF, hS⟩ hb21
                      unfold laws_FnSlices_l2 at hb21
                      refine q_seq ?_
                      refine q_region ?_
                      refine q_x (v := (.bool (decide (t_93 < (goLen all_90.Cells))))) hF hS (ex_ibin rfl rfl rfl) rfl rfl fun a hF => ?_
                      refine q_end (n_sq ?_)
                      refine q_seq ?_
                      rcases bcase (decide (t_93 < (goLen all_90.Cells))) with hc22 | hc22
                      · have hb21 := cond_f hc22 hb21
                        refine q_cond_f hF rfl hc22 ?_
                        refine q_exit (x_sq ?_)
                        obtain rfl := someI hb21
                        exact ⟨nofun, .inl ⟨rfl, rfl, hF.sub trivial, hS.mask [false]⟩⟩
                      · have hb21 := cond_t hc22 hb21
                        refine q_cond_t hF rfl hc22 ?_
                        refine q_skipc (n_sq ?_)
                        refine q_seq ?_
                        refine q_block ?_
                        refine q_seq ?_
                        refine q_region ?_
                        obtain ⟨e_94, he_94, hb21⟩ := bindS hb21
                        obtain ⟨vs95, at95, d95⟩ := h92.at he_94 1 rfl
                        obtain rfl : vs95 = [(.int .i64 e_94)] := d95
                        refine q_x (v := (elP s92 (t_93.toNat * 1))) hF hS (ex_indexAddr Try.underlying33 sz3 rfl rfl (h92.idx he_94)) rfl rfl fun a hF => ?_
                        refine q_x (v := (.int .i64 e_94)) hF hS (ex_loadE1 0 Try.underlying3 rfl rfl (at95.at 0 rfl) rfl rfl) rfl rfl fun a hF => ?_
                        refine q_x (v := (.int .i64 e_94)) hF hS (ex_assign rfl) rfl rfl fun a hF => ?_
                        refine q_end (n_sq ?_)
                        refine q_seq ?_
                        refine q_region ?_
                        refine q_x (v := (.int .i64 e_94)) hF hS (ex_move rfl) rfl rfl fun a hF => ?_
                        refine q_x (v := (.bool (e_94 != 0))) hF hS (ex_ibin rfl rfl rfl) rfl rfl fun a hF => ?_
                        refine q_end (n_sq ?_)
                        rcases bcase (e_94 != 0) with hc23 | hc23
                        · have hb21 := cond_f hc23 hb21
                          refine q_cond_f hF rfl hc23 ?_
                          refine q_skipc (n_ib (n_sq ?_))
                          refine q_region ?_
                          refine q_x (v := (.int .i64 (w64 (t_93 + 1)))) hF hS (ex_ibin rfl rfl rfl) rfl rfl fun a hF => ?_
                          refine q_x (v := (.int .i64 (w64 (t_93 + 1)))) hF hS (ex_move rfl) rfl rfl fun a hF => ?_
                          refine q_end ?_
                          obtain rfl := someI hb21
                          exact ⟨rfl, hF.sub ⟨rfl, rfl, rfl, trivial⟩, hS⟩
                        · have hb21 := cond_t hc23 hb21
                          refine q_cond_t hF rfl hc23 ?_
                          refine q_seq ?_
                          refine q_region ?_
                          refine q_x (v := (.bool false)) hF hS (ex_assign rfl) rfl rfl fun a hF => ?_
                          refine q_end (n_sq (q_ret (r_ib (r_sq ?_))))
                          obtain rfl := someI hb21
                          refine ⟨nofun, .inr fun ho => ?_⟩
                          subst ho
                          refine r_ib (r_sq ?_)
                          obtain rfl := someI hr
                          exact ret_of hF hS rfl (.tmp rfl .nil) rfl
                    · rintro e a w ⟨rfl, rfl, hF, hS⟩
                      refine x_ib (n_sq ?_)
                      refine q_seq ?_
                      refine q_region ?_
                      refine q_x (v := (.bool true)) hF hS (ex_assign rfl) rfl rfl fun a hF => ?_
                      refine q_end (n_sq (q_ret ?_))
                      obtain rfl := someI hr
                      exact ret_of hF hS rfl (.tmp rfl .nil) rfl
                · have hr := cond_t hc16 hr
                  refine q_cond_t hF rfl hc16 ?_
                  refine q_seq ?_
                  refine q_region ?_
                  refine q_x (v := (.bool false)) hF hS (ex_assign rfl) rfl rfl fun a hF => ?_
                  refine q_end (n_sq (q_ret (r_sq ?_)))
                  obtain rfl := someI hr
                  exact ret_of hF hS rfl (.tmp rfl .nil) rfl
            · have hr := cond_t hc14 hr
              refine q_cond_t hF rfl hc14 ?_
              refine q_seq ?_
              refine q_region ?_
              refine q_x (v := (.bool true)) hF hS (ex_assign rfl) rfl rfl fun a hF => ?_
              refine q_end (n_sq (q_ret (r_sq ?_)))
              obtain rfl := someI hr
              exact ret_of hF hS rfl (.tmp rfl .nil) rfl
          · have hr := cond_t hc13 hr
            refine q_cond_t hF rfl hc13 ?_
            refine q_seq ?_
            refine q_region ?_
            refine q_x (v := (.bool false)) hF hS (ex_assign rfl) rfl rfl fun a hF => ?_
            refine q_end (n_sq (q_ret (r_sq ?_)))
            obtain rfl := someI hr
            exact ret_of hF hS rfl (.tmp rfl .nil) rfl
      · have hr := cond_t hc8 hr
        refine q_cond_t hF rfl hc8 ?_
        refine q_seq ?_
        refine q_region ?_
        refine q_x (v := (.bool false)) hF hS (ex_assign rfl) rfl rfl fun a hF => ?_
        refine q_end (n_sq (q_ret (r_sq ?_)))
        obtain rfl := someI hr
        exact ret_of hF hS rfl (.tmp rfl .nil) rfl
  · have hr := cond_t hc1 hr
    refine q_cond_t hF rfl hc1 ?_
    refine q_seq ?_
    refine q_region ?_
    refine q_x (v := (.bool true)) hF hS (ex_assign rfl) rfl rfl fun a hF => ?_
    refine q_end (n_sq (q_ret (r_sq ?_)))
    obtain rfl := someI hr
    exact ret_of hF hS rfl (.tmp rfl .nil) rfl

end Go.Proofs.Ytiikfhfnkppeeaa
