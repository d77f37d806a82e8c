/- The walks of the functions: each returns what its plain function says. -/
import Derived.Test.YtkgmphgbmjbfhaaJWalks1
namespace Go.Proofs.Ytkgmphgbmjbfhaa
open Go.Gx Go.Gx.F Go.RowKit
set_option linter.all false
set_option maxRecDepth 10000


theorem c_impl_scopeBefore (p_l : List impl_Entry) (p_scope : Int) (r : Bool) (hr : impl_scopeBefore p_l p_scope = some r) (w0 : World) (m : Mem) (hv : Vis m w0) (s1 : Sl) (h1 : Rd m s1 p_l) :
    Ret Try.prog 148 [s1.v, (.int .i64 p_scope)] w0 (fun v _ => v = (.bool r)) := by
  unfold impl_scopeBefore at hr
  refine ret_start Try.func148 rfl 18 rfl rfl m hv fun a hF hS => ?_
  refine q_seq ?_
  refine q_region ?_
  refine q_x (v := (.bool false)) hF hS (ex_assign rfl) rfl rfl fun a hF => ?_
  refine q_end (n_sq ?_)
  refine q_seq ?_
  refine q_seq ?_
  refine q_region ?_
  refine q_x (v := s1.v) hF hS (ex_move rfl) rfl rfl fun a hF => ?_
  refine q_x (v := (.int .i64 (goLen p_l))) hF hS (ex_len Try.underlying81 rfl h1.len) rfl rfl fun a hF => ?_
  refine q_x (v := (.int .i64 0)) hF hS (ex_move rfl) rfl rfl fun a hF => ?_
  refine q_end (n_sq ?_)
  refine q_block ?_
  obtain ⟨o1, hl1, hr⟩ := bindS hr
  refine q_loop (fun (t_2 : Int) a w => Fr a 18 [(1, (.int .i64 p_scope)), (7, s1.v), (8, (.int .i64 (goLen p_l))), (9, (.int .i64 t_2))] ∧ St [] w0 w m []) (fun (o : (Unit) ⊕ (Bool)) e a w => o = .inl () ∧ e = .exit 0 ∧ Fr a 18 [] ∧ St [] w0 w m []) hl1 ⟨hF.sub ⟨rfl, rfl, rfl, rfl, trivial⟩, hS⟩ ?_ ?_
  · clear hF hS
    rintro t_2 a w st ⟨hF, hS⟩ hb1
    unfold impl_scopeBefore_l1 at hb1
    refine q_seq ?_
    refine q_region ?_
    refine q_x (v := (.bool (decide (t_2 < (goLen p_l))))) hF hS (ex_ibin rfl rfl rfl) rfl rfl fun a hF => ?_
    refine q_end (n_sq ?_)
    refine q_seq ?_
    rcases hc2 : (decide (t_2 < (goLen p_l))) with _ | _
    · have hb1 := cond_f hc2 hb1
      refine q_cond_f hF rfl hc2 ?_
      refine q_exit (x_sq ?_)
      obtain rfl := someI hb1
      exact ⟨nofun, .inl ⟨rfl, rfl, hF.sub trivial, hS⟩⟩
    · have hb1 := cond_t hc2 hb1
      refine q_cond_t hF rfl hc2 ?_
      refine q_skipc (n_sq ?_)
      refine q_seq ?_
      refine q_block ?_
      refine q_seq ?_
      refine q_region ?_
      obtain ⟨e_3, he_3, hb1⟩ := bindS hb1
      obtain ⟨vs4, at4, d4⟩ := h1.at he_3 5 rfl
      obtain rfl : vs4 = [(.int .i64 e_3.Scope), (.int .i64 e_3.Loss.Ratio.Num), (.int .i64 e_3.Loss.Ratio.Den), (.int .i64 e_3.Loss.Rho.Num), (.int .i64 e_3.Loss.Rho.Den)] := d4
      refine q_x (v := (elP s1 (t_2.toNat * 5))) hF hS (ex_indexAddr Try.underlying81 sz116 rfl rfl (h1.idx he_3)) rfl rfl fun a hF => ?_
      refine q_x (v := (.agg #[(.int .i64 e_3.Scope), (.int .i64 e_3.Loss.Ratio.Num), (.int .i64 e_3.Loss.Ratio.Den), (.int .i64 e_3.Loss.Rho.Num), (.int .i64 e_3.Loss.Rho.Den)])) hF hS (ex_loadEA (us := [(.int .i64 e_3.Scope), (.int .i64 e_3.Loss.Ratio.Num), (.int .i64 e_3.Loss.Ratio.Den), (.int .i64 e_3.Loss.Rho.Num), (.int .i64 e_3.Loss.Rho.Den)]) 0 Try.underlying116 rfl sz116 rfl ((at4).at) rfl rfl rfl) rfl rfl fun a hF => ?_
      refine q_alloc (cs := [(.int .i64 0), (.int .i64 0), (.int .i64 0), (.int .i64 0), (.int .i64 0)]) hF hS rfl rfl rfl fun a w b5 hF hS => ?_
      refine q_store (vs := [(.int .i64 e_3.Scope), (.int .i64 e_3.Loss.Ratio.Num), (.int .i64 e_3.Loss.Ratio.Den), (.int .i64 e_3.Loss.Rho.Num), (.int .i64 e_3.Loss.Rho.Den)]) (cs' := [(.int .i64 e_3.Scope), (.int .i64 e_3.Loss.Ratio.Num), (.int .i64 e_3.Loss.Ratio.Den), (.int .i64 e_3.Loss.Rho.Num), (.int .i64 e_3.Loss.Rho.Den)]) 0 0 hF hS sz116 rfl rfl rfl rfl rfl rfl rfl rfl fun a w hF hS => ?_
      refine q_end (n_sq ?_)
      refine q_seq ?_
      refine q_region ?_
      refine q_x (v := (.pointer (some ⟨b5, 0, none⟩))) hF hS (ex_fieldAddr Try.underlying116 rfl sz3 rfl rfl) rfl rfl fun a hF => ?_
      refine q_x (v := (.int .i64 e_3.Scope)) hF hS (ex_load1 0 0 Try.underlying3 rfl rfl rfl rfl) rfl rfl fun a hF => ?_
      refine q_x (v := (.int .i64 p_scope)) hF hS (ex_move rfl) rfl rfl fun a hF => ?_
      refine q_x (v := (.bool (e_3.Scope == p_scope))) hF hS (ex_ibin rfl rfl rfl) rfl rfl fun a hF => ?_
      refine q_end (n_sq ?_)
      rcases hc3 : (e_3.Scope == p_scope) with _ | _
      · have hb1 := cond_f hc3 hb1
        refine q_cond_f hF rfl hc3 ?_
        refine q_skipc (n_ib (n_sq ?_))
        refine q_region ?_
        refine q_x (v := (.int .i64 (w64 (t_2 + 1)))) hF hS (ex_ibin rfl rfl rfl) rfl rfl fun a hF => ?_
        refine q_x (v := (.int .i64 (w64 (t_2 + 1)))) hF hS (ex_move rfl) rfl rfl fun a hF => ?_
        refine q_end ?_
        obtain rfl := someI hb1
        exact ⟨rfl, hF.sub ⟨rfl, rfl, rfl, rfl, trivial⟩, hS.mask [false]⟩
      · have hb1 := cond_t hc3 hb1
        refine q_cond_t hF rfl hc3 ?_
        refine q_seq ?_
        refine q_region ?_
        refine q_x (v := (.bool true)) hF hS (ex_assign rfl) rfl rfl fun a hF => ?_
        refine q_end (n_sq (q_ret (r_ib (r_sq ?_))))
        obtain rfl := someI hb1
        refine ⟨nofun, .inr fun ho => ?_⟩
        subst ho
        refine r_ib (r_sq ?_)
        obtain rfl := someI hr
        exact ret_of hF hS rfl (.tmp rfl .nil) rfl
  · rintro e a w ⟨rfl, rfl, hF, hS⟩
    refine x_ib (n_sq ?_)
    refine q_seq ?_
    refine q_region ?_
    refine q_x (v := (.bool false)) hF hS (ex_assign rfl) rfl rfl fun a hF => ?_
    refine q_end (n_sq (q_ret ?_))
    obtain rfl := someI hr
    exact ret_of hF hS rfl (.tmp rfl .nil) rfl

theorem c_impl_cmpFrac (p_a : impl_Frac) (p_b : impl_Frac) (r : Int) (hr : impl_cmpFrac p_a p_b = some r) (w0 : World) (m : Mem) (hv : Vis m w0) :
    Ret Try.prog 102 [(.agg #[(.int .i64 p_a.Num), (.int .i64 p_a.Den)]), (.agg #[(.int .i64 p_b.Num), (.int .i64 p_b.Den)])] w0 (fun v _ => v = (.int .i64 r)) := by
  unfold impl_cmpFrac at hr
  refine ret_start Try.func102 rfl 25 rfl rfl m hv fun a hF hS => ?_
  refine q_seq ?_
  refine q_region ?_
  refine q_box (cs := [(.int .i64 p_a.Num), (.int .i64 p_a.Den)]) hF hS rfl rfl rfl fun a w b1 hF hS => ?_
  refine q_box (cs := [(.int .i64 p_b.Num), (.int .i64 p_b.Den)]) hF hS rfl rfl rfl fun a w b2 hF hS => ?_
  refine q_x (v := (.int .i64 0)) hF hS (ex_assign rfl) rfl rfl fun a hF => ?_
  refine q_end (n_sq ?_)
  refine q_seq ?_
  refine e_region [] mixed fun w' hw' => ?_
  have hS := hS.below hw'
  refine e_p (v := (.pointer (some ⟨b1, 0, none⟩))) 0 hF rfl (ex_fieldAddr Try.underlying26 rfl sz3 rfl rfl) rfl rfl (by kernel_rfl) (by kernel_rfl) (by kernel_rfl) fun a hF => ?_
  refine e_x (v := (.int .i64 p_a.Num)) 1 hF hS rfl (ex_load1 1 0 Try.underlying3 rfl rfl rfl rfl) rfl rfl (by kernel_rfl) (by kernel_rfl) (by kernel_rfl) (by kernel_rfl) fun a hF => ?_
  refine e_p (v := (.pointer (some ⟨b2, 1, none⟩))) 2 hF rfl (ex_fieldAddr Try.underlying26 rfl sz3 rfl rfl) rfl rfl (by kernel_rfl) (by kernel_rfl) (by kernel_rfl) fun a hF => ?_
  refine e_x (v := (.int .i64 p_b.Den)) 3 hF hS rfl (ex_load1 0 0 Try.underlying3 rfl rfl rfl rfl) rfl rfl (by kernel_rfl) (by kernel_rfl) (by kernel_rfl) (by kernel_rfl) fun a hF => ?_
  refine e_p (v := (.int .i64 (w64 (p_a.Num * p_b.Den)))) 4 hF rfl (ex_ibin rfl rfl rfl) rfl rfl (by kernel_rfl) (by kernel_rfl) (by kernel_rfl) fun a hF => ?_
  refine e_p (v := (.pointer (some ⟨b2, 0, none⟩))) 5 hF rfl (ex_fieldAddr Try.underlying26 rfl sz3 rfl rfl) rfl rfl (by kernel_rfl) (by kernel_rfl) (by kernel_rfl) fun a hF => ?_
  refine e_x (v := (.int .i64 p_b.Num)) 6 hF hS rfl (ex_load1 0 0 Try.underlying3 rfl rfl rfl rfl) rfl rfl (by kernel_rfl) (by kernel_rfl) (by kernel_rfl) (by kernel_rfl) fun a hF => ?_
  refine e_p (v := (.pointer (some ⟨b1, 1, none⟩))) 7 hF rfl (ex_fieldAddr Try.underlying26 rfl sz3 rfl rfl) rfl rfl (by kernel_rfl) (by kernel_rfl) (by kernel_rfl) fun a hF => ?_
  refine e_x (v := (.int .i64 p_a.Den)) 8 hF hS rfl (ex_load1 1 0 Try.underlying3 rfl rfl rfl rfl) rfl rfl (by kernel_rfl) (by kernel_rfl) (by kernel_rfl) (by kernel_rfl) fun a hF => ?_
  refine e_p (v := (.int .i64 (w64 (p_b.Num * p_a.Den)))) 9 hF rfl (ex_ibin rfl rfl rfl) rfl rfl (by kernel_rfl) (by kernel_rfl) (by kernel_rfl) fun a hF => ?_
  refine e_p (v := (.int .i64 (w64 (p_a.Num * p_b.Den)))) 10 hF rfl (ex_assign rfl) rfl rfl (by kernel_rfl) (by kernel_rfl) (by kernel_rfl) fun a hF => ?_
  refine e_p (v := (.int .i64 (w64 (p_b.Num * p_a.Den)))) 11 hF rfl (ex_assign rfl) rfl rfl (by kernel_rfl) (by kernel_rfl) (by kernel_rfl) fun a hF => ?_
  refine e_end (by kernel_rfl) (n_sq ?_) _
  refine q_seq ?_
  refine q_block ?_
  refine q_seq ?_
  refine q_region ?_
  refine q_x (v := (.int .i64 (w64 (p_a.Num * p_b.Den)))) hF hS (ex_move rfl) rfl rfl fun a hF => ?_
  refine q_x (v := (.int .i64 (w64 (p_b.Num * p_a.Den)))) hF hS (ex_move rfl) rfl rfl fun a hF => ?_
  refine q_x (v := (.bool (decide ((w64 (p_a.Num * p_b.Den)) < (w64 (p_b.Num * p_a.Den)))))) hF hS (ex_ibin rfl rfl rfl) rfl rfl fun a hF => ?_
  refine q_x (v := (.bool (decide ((w64 (p_a.Num * p_b.Den)) < (w64 (p_b.Num * p_a.Den)))))) hF hS (ex_assign rfl) rfl rfl fun a hF => ?_
  refine q_end (n_sq ?_)
  rcases hc1 : (decide ((w64 (p_a.Num * p_b.Den)) < (w64 (p_b.Num * p_a.Den)))) with _ | _
  · have hr := cond_f hc1 hr
    refine q_cond_f hF rfl hc1 ?_
    refine q_seq ?_
    refine q_region ?_
    refine q_x (v := (.int .i64 (w64 (p_a.Num * p_b.Den)))) hF hS (ex_move rfl) rfl rfl fun a hF => ?_
    refine q_x (v := (.int .i64 (w64 (p_b.Num * p_a.Den)))) hF hS (ex_move rfl) rfl rfl fun a hF => ?_
    refine q_x (v := (.bool (decide ((w64 (p_b.Num * p_a.Den)) < (w64 (p_a.Num * p_b.Den)))))) hF hS (ex_ibin rfl rfl rfl) rfl rfl fun a hF => ?_
    refine q_x (v := (.bool (decide ((w64 (p_b.Num * p_a.Den)) < (w64 (p_a.Num * p_b.Den)))))) hF hS (ex_assign rfl) rfl rfl fun a hF => ?_
    refine q_end (n_sq ?_)
    rcases hc2 : (decide ((w64 (p_b.Num * p_a.Den)) < (w64 (p_a.Num * p_b.Den)))) with _ | _
    · have hr := cond_f hc2 hr
      refine q_cond_f hF rfl hc2 ?_
      refine q_skipc (n_ib (n_sq ?_))
      refine q_seq ?_
      refine q_region ?_
      refine q_x (v := (.int .i64 0)) hF hS (ex_assign rfl) rfl rfl fun a hF => ?_
      refine q_end (n_sq (q_ret ?_))
      obtain rfl := someI hr
      exact ret_of hF hS rfl (.tmp rfl .nil) rfl
    · have hr := cond_t hc2 hr
      refine q_cond_t hF rfl hc2 ?_
      refine q_seq ?_
      refine q_region ?_
      refine q_x (v := (.int .i64 1)) hF hS (ex_assign rfl) rfl rfl fun a hF => ?_
      refine q_end (n_sq (q_ret (r_ib (r_sq ?_))))
      obtain rfl := someI hr
      exact ret_of hF hS rfl (.tmp rfl .nil) rfl
  · have hr := cond_t hc1 hr
    refine q_cond_t hF rfl hc1 ?_
    refine q_seq ?_
    refine q_region ?_
    refine q_x (v := (.int .i64 (-1))) hF hS (ex_assign rfl) rfl rfl fun a hF => ?_
    refine q_end (n_sq (q_ret (r_ib (r_sq ?_))))
    obtain rfl := someI hr
    exact ret_of hF hS rfl (.tmp rfl .nil) rfl

theorem c_impl_greatest (p_a : impl_Loss) (p_b : impl_Loss) (r : impl_Loss) (hr : impl_greatest p_a p_b = some r) (w0 : World) (m : Mem) (hv : Vis m w0) :
    Ret Try.prog 84 [(.agg #[(.int .i64 p_a.Ratio.Num), (.int .i64 p_a.Ratio.Den), (.int .i64 p_a.Rho.Num), (.int .i64 p_a.Rho.Den)]), (.agg #[(.int .i64 p_b.Ratio.Num), (.int .i64 p_b.Ratio.Den), (.int .i64 p_b.Rho.Num), (.int .i64 p_b.Rho.Den)])] w0 (fun v _ => v = (.agg #[(.int .i64 r.Ratio.Num), (.int .i64 r.Ratio.Den), (.int .i64 r.Rho.Num), (.int .i64 r.Rho.Den)])) := by
  unfold impl_greatest at hr
  refine ret_start Try.func84 rfl 24 rfl rfl m hv fun a hF hS => ?_
  refine q_seq ?_
  refine q_region ?_
  refine q_box (cs := [(.int .i64 p_a.Ratio.Num), (.int .i64 p_a.Ratio.Den), (.int .i64 p_a.Rho.Num), (.int .i64 p_a.Rho.Den)]) hF hS rfl rfl rfl fun a w b1 hF hS => ?_
  refine q_box (cs := [(.int .i64 p_b.Ratio.Num), (.int .i64 p_b.Ratio.Den), (.int .i64 p_b.Rho.Num), (.int .i64 p_b.Rho.Den)]) hF hS rfl rfl rfl fun a w b2 hF hS => ?_
  refine q_alloc (cs := [(.int .i64 0), (.int .i64 0), (.int .i64 0), (.int .i64 0)]) hF hS rfl rfl rfl fun a w b3 hF hS => ?_
  refine q_end (n_sq ?_)
  refine q_seq ?_
  refine q_seq ?_
  refine q_region ?_
  refine q_x (v := (.pointer (some ⟨b2, 0, none⟩))) hF hS (ex_fieldAddr Try.underlying28 rfl sz26 rfl rfl) rfl rfl fun a hF => ?_
  refine q_x (v := (.agg #[(.int .i64 p_b.Ratio.Num), (.int .i64 p_b.Ratio.Den)])) hF hS (ex_loadA (vs := [(.int .i64 p_b.Ratio.Num), (.int .i64 p_b.Ratio.Den)]) 1 0 Try.underlying26 rfl sz26 rfl rfl rfl rfl) rfl rfl fun a hF => ?_
  refine q_x (v := (.pointer (some ⟨b1, 0, none⟩))) hF hS (ex_fieldAddr Try.underlying28 rfl sz26 rfl rfl) rfl rfl fun a hF => ?_
  refine q_x (v := (.agg #[(.int .i64 p_a.Ratio.Num), (.int .i64 p_a.Ratio.Den)])) hF hS (ex_loadA (vs := [(.int .i64 p_a.Ratio.Num), (.int .i64 p_a.Ratio.Den)]) 2 0 Try.underlying26 rfl sz26 rfl rfl rfl rfl) rfl rfl fun a hF => ?_
  obtain ⟨t_4, ht_4, hr⟩ := bindS hr
  refine q_call (vs := [(.agg #[(.int .i64 p_b.Ratio.Num), (.int .i64 p_b.Ratio.Den)]), (.agg #[(.int .i64 p_a.Ratio.Num), (.int .i64 p_a.Ratio.Den)])]) hF hS Try.func102 (by kernel_rfl) rfl rfl rfl (c_impl_cmpFrac p_b.Ratio p_a.Ratio t_4 ht_4 _ m hS.vis) ?_
  rintro a w _ rfl hF hS
  refine q_x (v := (.bool (decide (0 < t_4)))) hF hS (ex_ibin rfl rfl rfl) rfl rfl fun a hF => ?_
  refine q_end (n_sq ?_)
  obtain ⟨a_5, hj1, hr⟩ := bindS hr
  refine q_join (fun a w => Fr a 24 [(2, (.pointer (some ⟨b1, 0, none⟩))), (3, (.pointer (some ⟨b2, 0, none⟩))), (4, (.pointer (some ⟨b3, 0, none⟩)))] ∧ St [] w0 w m [[⟨b3, [(.int .i64 0), (.int .i64 0), (.int .i64 0), (.int .i64 0)], 28⟩], [⟨b2, [(.int .i64 p_b.Ratio.Num), (.int .i64 p_b.Ratio.Den), (.int .i64 p_b.Rho.Num), (.int .i64 p_b.Rho.Den)], 28⟩], [⟨b1, [(.int .i64 a_5.Ratio.Num), (.int .i64 a_5.Ratio.Den), (.int .i64 a_5.Rho.Num), (.int .i64 a_5.Rho.Den)], 28⟩]]) ?_ ?_
  · rcases hc2 : (decide (0 < t_4)) with _ | _
    · have hj1 := cond_f hc2 hj1
      refine q_cond_f hF rfl hc2 ?_
      refine q_skipc (n_jn ?_)
      obtain rfl := someI hj1
      exact ⟨hF.sub ⟨rfl, rfl, rfl, trivial⟩, hS⟩
    · have hj1 := cond_t hc2 hj1
      refine q_cond_t hF rfl hc2 ?_
      refine q_region ?_
      refine q_x (v := (.pointer (some ⟨b2, 0, none⟩))) hF hS (ex_fieldAddr Try.underlying28 rfl sz26 rfl rfl) rfl rfl fun a hF => ?_
      refine q_x (v := (.agg #[(.int .i64 p_b.Ratio.Num), (.int .i64 p_b.Ratio.Den)])) hF hS (ex_loadA (vs := [(.int .i64 p_b.Ratio.Num), (.int .i64 p_b.Ratio.Den)]) 1 0 Try.underlying26 rfl sz26 rfl rfl rfl rfl) rfl rfl fun a hF => ?_
      refine q_x (v := (.pointer (some ⟨b1, 0, none⟩))) hF hS (ex_fieldAddr Try.underlying28 rfl sz26 rfl rfl) rfl rfl fun a hF => ?_
      refine q_store (vs := [(.int .i64 p_b.Ratio.Num), (.int .i64 p_b.Ratio.Den)]) (cs' := [(.int .i64 p_b.Ratio.Num), (.int .i64 p_b.Ratio.Den), (.int .i64 p_a.Rho.Num), (.int .i64 p_a.Rho.Den)]) 2 0 hF hS sz26 rfl rfl rfl rfl rfl rfl rfl rfl fun a w hF hS => ?_
      refine q_end (n_jn ?_)
      obtain rfl := someI hj1
      exact ⟨hF.sub ⟨rfl, rfl, rfl, trivial⟩, hS⟩
  · rintro a w ⟨hF, hS⟩
    refine n_sq ?_
    refine q_seq ?_
    refine q_seq ?_
    refine q_region ?_
    refine q_x (v := (.pointer (some ⟨b2, 2, none⟩))) hF hS (ex_fieldAddr Try.underlying28 rfl sz26 rfl rfl) rfl rfl fun a hF => ?_
    refine q_x (v := (.agg #[(.int .i64 p_b.Rho.Num), (.int .i64 p_b.Rho.Den)])) hF hS (ex_loadA (vs := [(.int .i64 p_b.Rho.Num), (.int .i64 p_b.Rho.Den)]) 1 0 Try.underlying26 rfl sz26 rfl rfl rfl rfl) rfl rfl fun a hF => ?_
    refine q_x (v := (.pointer (some ⟨b1, 2, none⟩))) hF hS (ex_fieldAddr Try.underlying28 rfl sz26 rfl rfl) rfl rfl fun a hF => ?_
    refine q_x (v := (.agg #[(.int .i64 a_5.Rho.Num), (.int .i64 a_5.Rho.Den)])) hF hS (ex_loadA (vs := [(.int .i64 a_5.Rho.Num), (.int .i64 a_5.Rho.Den)]) 2 0 Try.underlying26 rfl sz26 rfl rfl rfl rfl) rfl rfl fun a hF => ?_
    obtain ⟨t_6, ht_6, hr⟩ := bindS hr
    refine q_call (vs := [(.agg #[(.int .i64 p_b.Rho.Num), (.int .i64 p_b.Rho.Den)]), (.agg #[(.int .i64 a_5.Rho.Num), (.int .i64 a_5.Rho.Den)])]) hF hS Try.func102 (by kernel_rfl) rfl rfl rfl (c_impl_cmpFrac p_b.Rho a_5.Rho t_6 ht_6 _ m hS.vis) ?_
    rintro a w _ rfl hF hS
    refine q_x (v := (.bool (decide (0 < t_6)))) hF hS (ex_ibin rfl rfl rfl) rfl rfl fun a hF => ?_
    refine q_end (n_sq ?_)
    obtain ⟨a_7, hj3, hr⟩ := bindS hr
    refine q_join (fun a w => Fr a 24 [(2, (.pointer (some ⟨b1, 0, none⟩))), (4, (.pointer (some ⟨b3, 0, none⟩)))] ∧ St [] w0 w m [[⟨b3, [(.int .i64 0), (.int .i64 0), (.int .i64 0), (.int .i64 0)], 28⟩], [⟨b1, [(.int .i64 a_7.Ratio.Num), (.int .i64 a_7.Ratio.Den), (.int .i64 a_7.Rho.Num), (.int .i64 a_7.Rho.Den)], 28⟩]]) ?_ ?_
    · rcases hc4 : (decide (0 < t_6)) with _ | _
      · have hj3 := cond_f hc4 hj3
        refine q_cond_f hF rfl hc4 ?_
        refine q_skipc (n_jn ?_)
        obtain rfl := someI hj3
        exact ⟨hF.sub ⟨rfl, rfl, trivial⟩, hS.mask [true, false, true]⟩
      · have hj3 := cond_t hc4 hj3
        refine q_cond_t hF rfl hc4 ?_
        refine q_region ?_
        refine q_x (v := (.pointer (some ⟨b2, 2, none⟩))) hF hS (ex_fieldAddr Try.underlying28 rfl sz26 rfl rfl) rfl rfl fun a hF => ?_
        refine q_x (v := (.agg #[(.int .i64 p_b.Rho.Num), (.int .i64 p_b.Rho.Den)])) hF hS (ex_loadA (vs := [(.int .i64 p_b.Rho.Num), (.int .i64 p_b.Rho.Den)]) 1 0 Try.underlying26 rfl sz26 rfl rfl rfl rfl) rfl rfl fun a hF => ?_
        refine q_x (v := (.pointer (some ⟨b1, 2, none⟩))) hF hS (ex_fieldAddr Try.underlying28 rfl sz26 rfl rfl) rfl rfl fun a hF => ?_
        refine q_store (vs := [(.int .i64 p_b.Rho.Num), (.int .i64 p_b.Rho.Den)]) (cs' := [(.int .i64 a_5.Ratio.Num), (.int .i64 a_5.Ratio.Den), (.int .i64 p_b.Rho.Num), (.int .i64 p_b.Rho.Den)]) 2 0 hF hS sz26 rfl rfl rfl rfl rfl rfl rfl rfl fun a w hF hS => ?_
        refine q_end (n_jn ?_)
        obtain rfl := someI hj3
        exact ⟨hF.sub ⟨rfl, rfl, trivial⟩, hS.mask [true, false, true]⟩
    · rintro a w ⟨hF, hS⟩
      refine n_sq ?_
      refine q_seq ?_
      refine q_region ?_
      refine q_x (v := (.agg #[(.int .i64 a_7.Ratio.Num), (.int .i64 a_7.Ratio.Den), (.int .i64 a_7.Rho.Num), (.int .i64 a_7.Rho.Den)])) hF hS (ex_loadA (vs := [(.int .i64 a_7.Ratio.Num), (.int .i64 a_7.Ratio.Den), (.int .i64 a_7.Rho.Num), (.int .i64 a_7.Rho.Den)]) 1 0 Try.underlying28 rfl sz28 rfl rfl rfl rfl) rfl rfl fun a hF => ?_
      refine q_store (vs := [(.int .i64 a_7.Ratio.Num), (.int .i64 a_7.Ratio.Den), (.int .i64 a_7.Rho.Num), (.int .i64 a_7.Rho.Den)]) (cs' := [(.int .i64 a_7.Ratio.Num), (.int .i64 a_7.Ratio.Den), (.int .i64 a_7.Rho.Num), (.int .i64 a_7.Rho.Den)]) 0 0 hF hS sz28 rfl rfl rfl rfl rfl rfl rfl rfl fun a w hF hS => ?_
      refine q_end (n_sq (q_ret ?_))
      obtain rfl := someI hr
      exact ret_of hF hS rfl (.cellA (us := [(.int .i64 a_7.Ratio.Num), (.int .i64 a_7.Ratio.Den), (.int .i64 a_7.Rho.Num), (.int .i64 a_7.Rho.Den)]) 0 0 Try.underlying28 rfl sz28 rfl rfl rfl rfl .nil) rfl

theorem c_impl_ledgerLoss (p_l : List impl_Entry) (r : impl_Loss × Bool) (hr : impl_ledgerLoss p_l = some r) (w0 : World) (m : Mem) (hv : Vis m w0) (s1 : Sl) (h1 : Rd m s1 p_l) :
    Ret Try.prog 131 [s1.v] w0 (fun v _ => v = (.tuple #[(.agg #[(.int .i64 r.1.Ratio.Num), (.int .i64 r.1.Ratio.Den), (.int .i64 r.1.Rho.Num), (.int .i64 r.1.Rho.Den)]), (.bool r.2)])) := by
  unfold impl_ledgerLoss at hr
  refine ret_start Try.func131 rfl 82 rfl rfl m hv fun a hF hS => ?_
  refine q_seq ?_
  refine q_region ?_
  refine q_alloc (cs := [(.int .i64 0), (.int .i64 0), (.int .i64 0), (.int .i64 0)]) hF hS rfl rfl rfl fun a w b2 hF hS => ?_
  refine q_x (v := (.bool false)) hF hS (ex_assign rfl) rfl rfl fun a hF => ?_
  refine q_end (n_sq ?_)
  refine q_seq ?_
  refine q_region ?_
  obtain ⟨t_3, ht_3, hr⟩ := bindS hr
  refine q_call (vs := []) hF hS Try.func80 (by kernel_rfl) rfl rfl rfl (c_impl_NoLoss  t_3 ht_3 _ m hS.vis) ?_
  rintro a w _ rfl hF hS
  refine q_alloc (cs := [(.int .i64 0), (.int .i64 0), (.int .i64 0), (.int .i64 0)]) hF hS rfl rfl rfl fun a w b4 hF hS => ?_
  refine q_store (vs := [(.int .i64 t_3.Ratio.Num), (.int .i64 t_3.Ratio.Den), (.int .i64 t_3.Rho.Num), (.int .i64 t_3.Rho.Den)]) (cs' := [(.int .i64 t_3.Ratio.Num), (.int .i64 t_3.Ratio.Den), (.int .i64 t_3.Rho.Num), (.int .i64 t_3.Rho.Den)]) 0 0 hF hS sz28 rfl rfl rfl rfl rfl rfl rfl rfl fun a w hF hS => ?_
  refine q_x (v := (.bool true)) hF hS (ex_assign rfl) rfl rfl fun a hF => ?_
  refine q_end (n_sq ?_)
  refine q_seq ?_
  refine q_seq ?_
  refine q_region ?_
  refine q_x (v := s1.v) hF hS (ex_move rfl) rfl rfl fun a hF => ?_
  refine q_x (v := (.int .i64 (goLen p_l))) hF hS (ex_len Try.underlying81 rfl h1.len) rfl rfl fun a hF => ?_
  refine q_x (v := (.int .i64 0)) hF hS (ex_move rfl) rfl rfl fun a hF => ?_
  refine q_end (n_sq ?_)
  refine q_block ?_
  obtain ⟨o1, hl1, hr⟩ := bindS hr
  refine q_loop (fun (s : Int × impl_Loss) a w => ∃ t_5, ∃ first_6, s = (t_5, first_6) ∧ Fr a 82 [(0, s1.v), (2, (.pointer (some ⟨b2, 0, none⟩))), (4, (.pointer (some ⟨b4, 0, none⟩))), (15, s1.v), (16, (.int .i64 (goLen p_l))), (17, (.int .i64 t_5))] ∧ St [] w0 w m [[⟨b4, [(.int .i64 first_6.Ratio.Num), (.int .i64 first_6.Ratio.Den), (.int .i64 first_6.Rho.Num), (.int .i64 first_6.Rho.Den)], 28⟩], [⟨b2, [(.int .i64 0), (.int .i64 0), (.int .i64 0), (.int .i64 0)], 28⟩]]) (fun (o : (impl_Loss) ⊕ (impl_Loss × Bool)) e a w => ∃ first_12, o = .inl first_12 ∧ e = .exit 0 ∧ Fr a 82 [(0, s1.v), (2, (.pointer (some ⟨b2, 0, none⟩))), (4, (.pointer (some ⟨b4, 0, none⟩)))] ∧ St [] w0 w m [[⟨b4, [(.int .i64 first_12.Ratio.Num), (.int .i64 first_12.Ratio.Den), (.int .i64 first_12.Rho.Num), (.int .i64 first_12.Rho.Den)], 28⟩], [⟨b2, [(.int .i64 0), (.int .i64 0), (.int .i64 0), (.int .i64 0)], 28⟩]]) hl1 ⟨_, _, rfl, hF.sub ⟨rfl, rfl, rfl, rfl, rfl, rfl, trivial⟩, hS⟩ ?_ ?_
  · clear hF hS
    rintro s a w st ⟨t_5, first_6, rfl, hF, hS⟩ hb1
    unfold impl_ledgerLoss_l1 at hb1
    refine q_seq ?_
    refine q_region ?_
    refine q_x (v := (.bool (decide (t_5 < (goLen p_l))))) hF hS (ex_ibin rfl rfl rfl) rfl rfl fun a hF => ?_
    refine q_end (n_sq ?_)
    refine q_seq ?_
    rcases hc2 : (decide (t_5 < (goLen p_l))) with _ | _
    · have hb1 := cond_f hc2 hb1
      refine q_cond_f hF rfl hc2 ?_
      refine q_exit (x_sq ?_)
      obtain rfl := someI hb1
      exact ⟨nofun, .inl ⟨_, rfl, rfl, hF.sub ⟨rfl, rfl, rfl, trivial⟩, hS⟩⟩
    · have hb1 := cond_t hc2 hb1
      refine q_cond_t hF rfl hc2 ?_
      refine q_skipc (n_sq ?_)
      refine q_seq ?_
      refine q_block ?_
      refine q_seq ?_
      refine q_region ?_
      obtain ⟨e_7, he_7, hb1⟩ := bindS hb1
      obtain ⟨vs8, at8, d8⟩ := h1.at he_7 5 rfl
      obtain rfl : vs8 = [(.int .i64 e_7.Scope), (.int .i64 e_7.Loss.Ratio.Num), (.int .i64 e_7.Loss.Ratio.Den), (.int .i64 e_7.Loss.Rho.Num), (.int .i64 e_7.Loss.Rho.Den)] := d8
      refine q_x (v := (elP s1 (t_5.toNat * 5))) hF hS (ex_indexAddr Try.underlying81 sz116 rfl rfl (h1.idx he_7)) rfl rfl fun a hF => ?_
      refine q_x (v := (.agg #[(.int .i64 e_7.Scope), (.int .i64 e_7.Loss.Ratio.Num), (.int .i64 e_7.Loss.Ratio.Den), (.int .i64 e_7.Loss.Rho.Num), (.int .i64 e_7.Loss.Rho.Den)])) hF hS (ex_loadEA (us := [(.int .i64 e_7.Scope), (.int .i64 e_7.Loss.Ratio.Num), (.int .i64 e_7.Loss.Ratio.Den), (.int .i64 e_7.Loss.Rho.Num), (.int .i64 e_7.Loss.Rho.Den)]) 0 Try.underlying116 rfl sz116 rfl ((at8).at) rfl rfl rfl) rfl rfl fun a hF => ?_
      refine q_alloc (cs := [(.int .i64 0), (.int .i64 0), (.int .i64 0), (.int .i64 0), (.int .i64 0)]) hF hS rfl rfl rfl fun a w b9 hF hS => ?_
      refine q_store (vs := [(.int .i64 e_7.Scope), (.int .i64 e_7.Loss.Ratio.Num), (.int .i64 e_7.Loss.Ratio.Den), (.int .i64 e_7.Loss.Rho.Num), (.int .i64 e_7.Loss.Rho.Den)]) (cs' := [(.int .i64 e_7.Scope), (.int .i64 e_7.Loss.Ratio.Num), (.int .i64 e_7.Loss.Ratio.Den), (.int .i64 e_7.Loss.Rho.Num), (.int .i64 e_7.Loss.Rho.Den)]) 0 0 hF hS sz116 rfl rfl rfl rfl rfl rfl rfl rfl fun a w hF hS => ?_
      refine q_end (n_sq ?_)
      refine q_seq ?_
      refine q_region ?_
      refine q_x (v := (.pointer (some ⟨b9, 0, none⟩))) hF hS (ex_fieldAddr Try.underlying116 rfl sz3 rfl rfl) rfl rfl fun a hF => ?_
      refine q_x (v := (.int .i64 e_7.Scope)) hF hS (ex_load1 0 0 Try.underlying3 rfl rfl rfl rfl) rfl rfl fun a hF => ?_
      refine q_x (v := (.bool (e_7.Scope == (-1)))) hF hS (ex_ibin rfl rfl rfl) rfl rfl fun a hF => ?_
      refine q_end (n_sq ?_)
      obtain ⟨j3, hj3, hb1⟩ := bindS hb1
      refine q_join (fun a w => ∃ first_11, j3 = .inl first_11 ∧ Fr a 82 [(0, s1.v), (2, (.pointer (some ⟨b2, 0, none⟩))), (4, (.pointer (some ⟨b4, 0, none⟩))), (15, s1.v), (16, (.int .i64 (goLen p_l))), (17, (.int .i64 t_5))] ∧ St [] w0 w m [[⟨b4, [(.int .i64 first_11.Ratio.Num), (.int .i64 first_11.Ratio.Den), (.int .i64 first_11.Rho.Num), (.int .i64 first_11.Rho.Den)], 28⟩], [⟨b2, [(.int .i64 0), (.int .i64 0), (.int .i64 0), (.int .i64 0)], 28⟩]]) ?_ ?_
      · rcases hc4 : (e_7.Scope == (-1)) with _ | _
        · have hj3 := cond_f hc4 hj3
          refine q_cond_f hF rfl hc4 ?_
          refine q_skipc (n_jn ?_)
          obtain rfl := someI hj3
          exact ⟨_, rfl, hF.sub ⟨rfl, rfl, rfl, rfl, rfl, rfl, trivial⟩, hS.mask [false, true, true]⟩
        · have hj3 := cond_t hc4 hj3
          refine q_cond_t hF rfl hc4 ?_
          refine q_seq ?_
          refine q_region ?_
          refine q_x (v := (.agg #[(.int .i64 first_6.Ratio.Num), (.int .i64 first_6.Ratio.Den), (.int .i64 first_6.Rho.Num), (.int .i64 first_6.Rho.Den)])) hF hS (ex_loadA (vs := [(.int .i64 first_6.Ratio.Num), (.int .i64 first_6.Ratio.Den), (.int .i64 first_6.Rho.Num), (.int .i64 first_6.Rho.Den)]) 1 0 Try.underlying28 rfl sz28 rfl rfl rfl rfl) rfl rfl fun a hF => ?_
          refine q_x (v := (.pointer (some ⟨b9, 1, none⟩))) hF hS (ex_fieldAddr Try.underlying116 rfl sz28 rfl rfl) rfl rfl fun a hF => ?_
          refine q_x (v := (.agg #[(.int .i64 e_7.Loss.Ratio.Num), (.int .i64 e_7.Loss.Ratio.Den), (.int .i64 e_7.Loss.Rho.Num), (.int .i64 e_7.Loss.Rho.Den)])) hF hS (ex_loadA (vs := [(.int .i64 e_7.Loss.Ratio.Num), (.int .i64 e_7.Loss.Ratio.Den), (.int .i64 e_7.Loss.Rho.Num), (.int .i64 e_7.Loss.Rho.Den)]) 0 0 Try.underlying28 rfl sz28 rfl rfl rfl rfl) rfl rfl fun a hF => ?_
          obtain ⟨t_10, ht_10, hj3⟩ := bindS hj3
          refine q_call (vs := [(.agg #[(.int .i64 first_6.Ratio.Num), (.int .i64 first_6.Ratio.Den), (.int .i64 first_6.Rho.Num), (.int .i64 first_6.Rho.Den)]), (.agg #[(.int .i64 e_7.Loss.Ratio.Num), (.int .i64 e_7.Loss.Ratio.Den), (.int .i64 e_7.Loss.Rho.Num), (.int .i64 e_7.Loss.Rho.Den)])]) hF hS Try.func108 (by kernel_rfl) rfl rfl rfl (c_impl_composed first_6 e_7.Loss t_10 ht_10 _ m hS.vis) ?_
          rintro a w _ rfl hF hS
          refine q_x (v := (.tuple #[(.agg #[(.int .i64 t_10.1.Ratio.Num), (.int .i64 t_10.1.Ratio.Den), (.int .i64 t_10.1.Rho.Num), (.int .i64 t_10.1.Rho.Den)]), (.bool t_10.2)])) hF hS (ex_move rfl) rfl rfl fun a hF => ?_
          refine q_x (v := (.agg #[(.int .i64 t_10.1.Ratio.Num), (.int .i64 t_10.1.Ratio.Den), (.int .i64 t_10.1.Rho.Num), (.int .i64 t_10.1.Rho.Den)])) hF hS (ex_extract rfl rfl) rfl rfl fun a hF => ?_
          refine q_x (v := (.bool t_10.2)) hF hS (ex_extract rfl rfl) rfl rfl fun a hF => ?_
          refine q_store (vs := [(.int .i64 t_10.1.Ratio.Num), (.int .i64 t_10.1.Ratio.Den), (.int .i64 t_10.1.Rho.Num), (.int .i64 t_10.1.Rho.Den)]) (cs' := [(.int .i64 t_10.1.Ratio.Num), (.int .i64 t_10.1.Ratio.Den), (.int .i64 t_10.1.Rho.Num), (.int .i64 t_10.1.Rho.Den)]) 1 0 hF hS sz28 rfl rfl rfl rfl rfl rfl rfl rfl fun a w hF hS => ?_
          refine q_x (v := (.bool t_10.2)) hF hS (ex_assign rfl) rfl rfl fun a hF => ?_
          refine q_end (n_sq ?_)
          refine q_seq ?_
          refine q_region ?_
          refine q_x (v := (.bool t_10.2)) hF hS (ex_move rfl) rfl rfl fun a hF => ?_
          refine q_x (v := (.bool (!t_10.2))) hF hS (ex_not rfl) rfl rfl fun a hF => ?_
          refine q_end (n_sq ?_)
          rcases hc5 : (!t_10.2) with _ | _
          · have hj3 := cond_f hc5 hj3
            refine q_cond_f hF rfl hc5 ?_
            refine q_skipc (n_jn ?_)
            obtain rfl := someI hj3
            exact ⟨_, rfl, hF.sub ⟨rfl, rfl, rfl, rfl, rfl, rfl, trivial⟩, hS.mask [false, true, true]⟩
          · have hj3 := cond_t hc5 hj3
            refine q_cond_t hF rfl hc5 ?_
            refine q_seq ?_
            refine q_region ?_
            refine q_x (v := (.agg #[(.int .i64 0), (.int .i64 0), (.int .i64 0), (.int .i64 0)])) hF hS (ex_build (cells := [(.int .i64 0), (.int .i64 0), (.int .i64 0), (.int .i64 0)]) rfl (by kernel_rfl)) rfl rfl fun a hF => ?_
            refine q_store (vs := [(.int .i64 0), (.int .i64 0), (.int .i64 0), (.int .i64 0)]) (cs' := [(.int .i64 0), (.int .i64 0), (.int .i64 0), (.int .i64 0)]) 2 0 hF hS sz28 rfl rfl rfl rfl rfl rfl rfl rfl fun a w hF hS => ?_
            refine q_x (v := (.bool false)) hF hS (ex_assign rfl) rfl rfl fun a hF => ?_
            refine q_end (n_sq (q_ret (r_jn ?_)))
            obtain rfl := someI hj3
            refine r_ib (r_sq ?_)
            obtain rfl := someI hb1
            refine ⟨nofun, .inr fun ho => ?_⟩
            subst ho
            refine r_ib (r_sq ?_)
            obtain rfl := someI hr
            exact ret_of hF hS rfl (.cellA (us := [(.int .i64 0), (.int .i64 0), (.int .i64 0), (.int .i64 0)]) 2 0 Try.underlying28 rfl sz28 rfl rfl rfl rfl (.tmp rfl .nil)) rfl
      · rintro a w ⟨first_11, rfl, hF, hS⟩
        refine n_ib (n_sq ?_)
        refine q_region ?_
        refine q_x (v := (.int .i64 (w64 (t_5 + 1)))) hF hS (ex_ibin rfl rfl rfl) rfl rfl fun a hF => ?_
        refine q_x (v := (.int .i64 (w64 (t_5 + 1)))) hF hS (ex_move rfl) rfl rfl fun a hF => ?_
        refine q_end ?_
        obtain rfl := someI hb1
        exact ⟨rfl, _, _, rfl, hF.sub ⟨rfl, rfl, rfl, rfl, rfl, rfl, trivial⟩, hS⟩
  · rintro e a w ⟨first_12, rfl, rfl, hF, hS⟩
    refine x_ib (n_sq ?_)
    refine q_seq ?_
    refine q_region ?_
    refine q_x (v := (.agg #[(.int .i64 first_12.Ratio.Num), (.int .i64 first_12.Ratio.Den), (.int .i64 first_12.Rho.Num), (.int .i64 first_12.Rho.Den)])) hF hS (ex_loadA (vs := [(.int .i64 first_12.Ratio.Num), (.int .i64 first_12.Ratio.Den), (.int .i64 first_12.Rho.Num), (.int .i64 first_12.Rho.Den)]) 0 0 Try.underlying28 rfl sz28 rfl rfl rfl rfl) rfl rfl fun a hF => ?_
    refine q_alloc (cs := [(.int .i64 0), (.int .i64 0), (.int .i64 0), (.int .i64 0)]) hF hS rfl rfl rfl fun a w b13 hF hS => ?_
    refine q_store (vs := [(.int .i64 first_12.Ratio.Num), (.int .i64 first_12.Ratio.Den), (.int .i64 first_12.Rho.Num), (.int .i64 first_12.Rho.Den)]) (cs' := [(.int .i64 first_12.Ratio.Num), (.int .i64 first_12.Ratio.Den), (.int .i64 first_12.Rho.Num), (.int .i64 first_12.Rho.Den)]) 0 0 hF hS sz28 rfl rfl rfl rfl rfl rfl rfl rfl fun a w hF hS => ?_
    refine q_end (n_sq ?_)
    refine q_seq ?_
    refine q_seq ?_
    refine q_region ?_
    refine q_x (v := s1.v) hF hS (ex_move rfl) rfl rfl fun a hF => ?_
    refine q_x (v := (.int .i64 (goLen p_l))) hF hS (ex_len Try.underlying81 rfl h1.len) rfl rfl fun a hF => ?_
    refine q_x (v := (.int .i64 0)) hF hS (ex_move rfl) rfl rfl fun a hF => ?_
    refine q_end (n_sq ?_)
    refine q_block ?_
    obtain ⟨o6, hl6, hr⟩ := bindS hr
    refine q_loop (fun (s : Int × impl_Loss) a w => ∃ t_14, ∃ out_15, s = (t_14, out_15) ∧ Fr a 82 [(0, s1.v), (2, (.pointer (some ⟨b2, 0, none⟩))), (4, (.pointer (some ⟨b4, 0, none⟩))), (8, (.pointer (some ⟨b13, 0, none⟩))), (36, s1.v), (37, (.int .i64 (goLen p_l))), (38, (.int .i64 t_14))] ∧ St [] w0 w m [[⟨b13, [(.int .i64 out_15.Ratio.Num), (.int .i64 out_15.Ratio.Den), (.int .i64 out_15.Rho.Num), (.int .i64 out_15.Rho.Den)], 28⟩], [⟨b4, [(.int .i64 first_12.Ratio.Num), (.int .i64 first_12.Ratio.Den), (.int .i64 first_12.Rho.Num), (.int .i64 first_12.Rho.Den)], 28⟩], [⟨b2, [(.int .i64 0), (.int .i64 0), (.int .i64 0), (.int .i64 0)], 28⟩]]) (fun (o : (impl_Loss) ⊕ (impl_Loss × Bool)) e a w => ∃ out_34, o = .inl out_34 ∧ e = .exit 2 ∧ Fr a 82 [(2, (.pointer (some ⟨b2, 0, none⟩))), (8, (.pointer (some ⟨b13, 0, none⟩)))] ∧ St [] w0 w m [[⟨b13, [(.int .i64 out_34.Ratio.Num), (.int .i64 out_34.Ratio.Den), (.int .i64 out_34.Rho.Num), (.int .i64 out_34.Rho.Den)], 28⟩], [⟨b2, [(.int .i64 0), (.int .i64 0), (.int .i64 0), (.int .i64 0)], 28⟩]]) hl6 ⟨_, _, rfl, hF.sub ⟨rfl, rfl, rfl, rfl, rfl, rfl, rfl, trivial⟩, hS⟩ ?_ ?_
    · clear hF hS
      rintro s a w st ⟨t_14, out_15, rfl, hF, hS⟩ hb6
      unfold impl_ledgerLoss_l2 at hb6
      refine q_seq ?_
      refine q_region ?_
      refine q_x (v := (.bool (decide (t_14 < (goLen p_l))))) hF hS (ex_ibin rfl rfl rfl) rfl rfl fun a hF => ?_
      refine q_end (n_sq ?_)
      refine q_seq ?_
      rcases hc7 : (decide (t_14 < (goLen p_l))) with _ | _
      · have hb6 := cond_f hc7 hb6
        refine q_cond_f hF rfl hc7 ?_
        refine q_exit (x_sq ?_)
        obtain rfl := someI hb6
        exact ⟨nofun, .inl ⟨_, rfl, rfl, hF.sub ⟨rfl, rfl, trivial⟩, hS.mask [true, false, true]⟩⟩
      · have hb6 := cond_t hc7 hb6
        refine q_cond_t hF rfl hc7 ?_
        refine q_skipc (n_sq ?_)
        refine q_seq ?_
        obtain ⟨j8, hj8, hb6⟩ := bindS hb6
        refine q_join (fun a w => ∃ out_33, j8 = .inl out_33 ∧ Fr a 82 [(0, s1.v), (2, (.pointer (some ⟨b2, 0, none⟩))), (4, (.pointer (some ⟨b4, 0, none⟩))), (8, (.pointer (some ⟨b13, 0, none⟩))), (36, s1.v), (37, (.int .i64 (goLen p_l))), (38, (.int .i64 t_14))] ∧ St [] w0 w m [[⟨b13, [(.int .i64 out_33.Ratio.Num), (.int .i64 out_33.Ratio.Den), (.int .i64 out_33.Rho.Num), (.int .i64 out_33.Rho.Den)], 28⟩], [⟨b4, [(.int .i64 first_12.Ratio.Num), (.int .i64 first_12.Ratio.Den), (.int .i64 first_12.Rho.Num), (.int .i64 first_12.Rho.Den)], 28⟩], [⟨b2, [(.int .i64 0), (.int .i64 0), (.int .i64 0), (.int .i64 0)], 28⟩]]) ?_ ?_
        · refine q_block ?_
          refine q_seq ?_
          refine q_region ?_
          refine q_x (v := (.int .i64 t_14)) hF hS (ex_move rfl) rfl rfl fun a hF => ?_
          obtain ⟨e_16, he_16, hj8⟩ := bindS hj8
          obtain ⟨vs17, at17, d17⟩ := h1.at he_16 5 rfl
          obtain rfl : vs17 = [(.int .i64 e_16.Scope), (.int .i64 e_16.Loss.Ratio.Num), (.int .i64 e_16.Loss.Ratio.Den), (.int .i64 e_16.Loss.Rho.Num), (.int .i64 e_16.Loss.Rho.Den)] := d17
          refine q_x (v := (elP s1 (t_14.toNat * 5))) hF hS (ex_indexAddr Try.underlying81 sz116 rfl rfl (h1.idx he_16)) rfl rfl fun a hF => ?_
          refine q_x (v := (.agg #[(.int .i64 e_16.Scope), (.int .i64 e_16.Loss.Ratio.Num), (.int .i64 e_16.Loss.Ratio.Den), (.int .i64 e_16.Loss.Rho.Num), (.int .i64 e_16.Loss.Rho.Den)])) hF hS (ex_loadEA (us := [(.int .i64 e_16.Scope), (.int .i64 e_16.Loss.Ratio.Num), (.int .i64 e_16.Loss.Ratio.Den), (.int .i64 e_16.Loss.Rho.Num), (.int .i64 e_16.Loss.Rho.Den)]) 0 Try.underlying116 rfl sz116 rfl ((at17).at) rfl rfl rfl) rfl rfl fun a hF => ?_
          refine q_alloc (cs := [(.int .i64 0), (.int .i64 0), (.int .i64 0), (.int .i64 0), (.int .i64 0)]) hF hS rfl rfl rfl fun a w b18 hF hS => ?_
          refine q_x (v := (.int .i64 t_14)) hF hS (ex_assign rfl) rfl rfl fun a hF => ?_
          refine q_store (vs := [(.int .i64 e_16.Scope), (.int .i64 e_16.Loss.Ratio.Num), (.int .i64 e_16.Loss.Ratio.Den), (.int .i64 e_16.Loss.Rho.Num), (.int .i64 e_16.Loss.Rho.Den)]) (cs' := [(.int .i64 e_16.Scope), (.int .i64 e_16.Loss.Ratio.Num), (.int .i64 e_16.Loss.Ratio.Den), (.int .i64 e_16.Loss.Rho.Num), (.int .i64 e_16.Loss.Rho.Den)]) 0 0 hF hS sz116 rfl rfl rfl rfl rfl rfl rfl rfl fun a w hF hS => ?_
          refine q_end (n_sq ?_)
          refine q_seq ?_
          refine q_seq ?_
          obtain ⟨t_22, hj9, hj8⟩ := bindS hj8
          refine q_join (fun a w => Fr a 82 [(0, s1.v), (2, (.pointer (some ⟨b2, 0, none⟩))), (4, (.pointer (some ⟨b4, 0, none⟩))), (8, (.pointer (some ⟨b13, 0, none⟩))), (10, (.pointer (some ⟨b18, 0, none⟩))), (36, s1.v), (37, (.int .i64 (goLen p_l))), (38, (.int .i64 t_14)), (53, (.bool t_22))] ∧ St [] w0 w m [[⟨b18, [(.int .i64 e_16.Scope), (.int .i64 e_16.Loss.Ratio.Num), (.int .i64 e_16.Loss.Ratio.Den), (.int .i64 e_16.Loss.Rho.Num), (.int .i64 e_16.Loss.Rho.Den)], 116⟩], [⟨b13, [(.int .i64 out_15.Ratio.Num), (.int .i64 out_15.Ratio.Den), (.int .i64 out_15.Rho.Num), (.int .i64 out_15.Rho.Den)], 28⟩], [⟨b4, [(.int .i64 first_12.Ratio.Num), (.int .i64 first_12.Ratio.Den), (.int .i64 first_12.Rho.Num), (.int .i64 first_12.Rho.Den)], 28⟩], [⟨b2, [(.int .i64 0), (.int .i64 0), (.int .i64 0), (.int .i64 0)], 28⟩]]) ?_ ?_
          · refine e_region [] mixed fun w' hw' => ?_
            have hS := hS.below hw'
            refine e_p (v := (.pointer (some ⟨b18, 0, none⟩))) 0 hF rfl (ex_fieldAddr Try.underlying116 rfl sz3 rfl rfl) rfl rfl (by kernel_rfl) (by kernel_rfl) (by kernel_rfl) fun a hF => ?_
            refine e_x (v := (.int .i64 e_16.Scope)) 1 hF hS rfl (ex_load1 0 0 Try.underlying3 rfl rfl rfl rfl) rfl rfl (by kernel_rfl) (by kernel_rfl) (by kernel_rfl) (by kernel_rfl) fun a hF => ?_
            refine e_p (v := (.bool (e_16.Scope == (-1)))) 2 hF rfl (ex_ibin rfl rfl rfl) rfl rfl (by kernel_rfl) (by kernel_rfl) (by kernel_rfl) fun a hF => ?_
            refine e_p (v := (.bool (e_16.Scope == (-1)))) 3 hF rfl (ex_move rfl) rfl rfl (by kernel_rfl) (by kernel_rfl) (by kernel_rfl) fun a hF => ?_
            rcases hc10 : (e_16.Scope == (-1)) with _ | _
            · have hj9 := cond_f hc10 hj9
              refine e_pg (v := s1.v) 4 hF rfl (ex_move rfl) (wanted_t hF rfl rfl rfl hc10) rfl (by kernel_rfl) (by kernel_rfl) (by kernel_rfl) fun a hF => ?_
              refine e_pg (v := (.int .i64 t_14)) 5 hF rfl (ex_move rfl) (wanted_t hF rfl rfl rfl hc10) rfl (by kernel_rfl) (by kernel_rfl) (by kernel_rfl) fun a hF => ?_
              obtain ⟨l_19, hl_19, hj9⟩ := bindS hj9
              have h20 : Rd m (subS s1 5 (0 : Int).toNat t_14.toNat s1.cap) l_19 := h1.sub' hl_19 5 rfl
              refine e_pg (v := (subS s1 5 (0 : Int).toNat t_14.toNat s1.cap).v) 6 hF rfl (ex_slice Try.underlying81 sz116 rfl rfl rfl (.inl ⟨rfl, rfl⟩) (.inr ⟨_, rfl⟩) (h1.subok hl_19)) (wanted_t hF rfl rfl rfl hc10) rfl (by kernel_rfl) (by kernel_rfl) (by kernel_rfl) fun a hF => ?_
              refine e_pg (v := (.pointer (some ⟨b18, 0, none⟩))) 7 hF rfl (ex_fieldAddr Try.underlying116 rfl sz3 rfl rfl) (wanted_t hF rfl rfl rfl hc10) rfl (by kernel_rfl) (by kernel_rfl) (by kernel_rfl) fun a hF => ?_
              refine e_xg (v := (.int .i64 e_16.Scope)) 8 hF hS rfl (ex_load1 0 0 Try.underlying3 rfl rfl rfl rfl) (wanted_t hF rfl rfl rfl hc10) rfl (by kernel_rfl) (by kernel_rfl) (by kernel_rfl) (by kernel_rfl) fun a hF => ?_
              refine e_one 9 (by kernel_rfl) ?_
              obtain ⟨t_21, ht_21, hj9⟩ := bindS hj9
              refine e_callg (vs := [(subS s1 5 (0 : Int).toNat t_14.toNat s1.cap).v, (.int .i64 e_16.Scope)]) hF hS rfl (wanted_t hF rfl rfl rfl hc10) Try.func148 (by kernel_rfl) rfl rfl rfl (c_impl_scopeBefore l_19 e_16.Scope t_21 ht_21 _ m hS.vis (subS s1 5 (0 : Int).toNat t_14.toNat s1.cap) h20) ?_
              rintro a w _ rfl hF hS
              refine e_p (v := (.bool t_21)) 10 hF rfl (ex_pick_f rfl rfl hc10) rfl rfl (by kernel_rfl) (by kernel_rfl) (by kernel_rfl) fun a hF => ?_
              refine e_end (by kernel_rfl) (n_jn ?_) _
              obtain rfl := someI hj9
              exact ⟨hF.sub ⟨rfl, rfl, rfl, rfl, rfl, rfl, rfl, rfl, rfl, trivial⟩, hS⟩
            · have hj9 := cond_t hc10 hj9
              refine e_skipP 4 hF rfl (wanted_f hF rfl rfl rfl hc10 rfl) rfl (by kernel_rfl) (by kernel_rfl) (by kernel_rfl) fun a hF => ?_
              refine e_skipP 5 hF rfl (wanted_f hF rfl rfl rfl hc10 rfl) rfl (by kernel_rfl) (by kernel_rfl) (by kernel_rfl) fun a hF => ?_
              refine e_skipP 6 hF rfl (wanted_f hF rfl rfl rfl hc10 rfl) rfl (by kernel_rfl) (by kernel_rfl) (by kernel_rfl) fun a hF => ?_
              refine e_skipP 7 hF rfl (wanted_f hF rfl rfl rfl hc10 rfl) rfl (by kernel_rfl) (by kernel_rfl) (by kernel_rfl) fun a hF => ?_
              refine e_skipP 8 hF rfl (wanted_f hF rfl rfl rfl hc10 rfl) rfl (by kernel_rfl) (by kernel_rfl) (by kernel_rfl) fun a hF => ?_
              refine e_skipP 9 hF rfl (wanted_f hF rfl rfl rfl hc10 rfl) rfl (by kernel_rfl) (by kernel_rfl) (by kernel_rfl) fun a hF => ?_
              refine e_p (v := (.bool true)) 10 hF rfl (ex_pick_t rfl rfl hc10) rfl rfl (by kernel_rfl) (by kernel_rfl) (by kernel_rfl) fun a hF => ?_
              refine e_end (by kernel_rfl) (n_jn ?_) _
              obtain rfl := someI hj9
              exact ⟨hF.sub ⟨rfl, rfl, rfl, rfl, rfl, rfl, rfl, rfl, rfl, trivial⟩, hS⟩
          · rintro a w ⟨hF, hS⟩
            refine n_sq ?_
            rcases hc11 : (t_22) with _ | _
            · have hj8 := cond_f hc11 hj8
              refine q_cond_f hF rfl hc11 ?_
              refine q_skipc (n_sq ?_)
              refine q_seq ?_
              refine q_region ?_
              refine q_x (v := (.agg #[(.int .i64 first_12.Ratio.Num), (.int .i64 first_12.Ratio.Den), (.int .i64 first_12.Rho.Num), (.int .i64 first_12.Rho.Den)])) hF hS (ex_loadA (vs := [(.int .i64 first_12.Ratio.Num), (.int .i64 first_12.Ratio.Den), (.int .i64 first_12.Rho.Num), (.int .i64 first_12.Rho.Den)]) 2 0 Try.underlying28 rfl sz28 rfl rfl rfl rfl) rfl rfl fun a hF => ?_
              refine q_alloc (cs := [(.int .i64 0), (.int .i64 0), (.int .i64 0), (.int .i64 0)]) hF hS rfl rfl rfl fun a w b23 hF hS => ?_
              refine q_store (vs := [(.int .i64 first_12.Ratio.Num), (.int .i64 first_12.Ratio.Den), (.int .i64 first_12.Rho.Num), (.int .i64 first_12.Rho.Den)]) (cs' := [(.int .i64 first_12.Ratio.Num), (.int .i64 first_12.Ratio.Den), (.int .i64 first_12.Rho.Num), (.int .i64 first_12.Rho.Den)]) 0 0 hF hS sz28 rfl rfl rfl rfl rfl rfl rfl rfl fun a w hF hS => ?_
              refine q_end (n_sq ?_)
              refine q_seq ?_
              refine q_seq ?_
              refine q_region ?_
              refine q_x (v := s1.v) hF hS (ex_move rfl) rfl rfl fun a hF => ?_
              refine q_x (v := (.int .i64 (goLen p_l))) hF hS (ex_len Try.underlying81 rfl h1.len) rfl rfl fun a hF => ?_
              refine q_x (v := (.int .i64 0)) hF hS (ex_move rfl) rfl rfl fun a hF => ?_
              refine q_end (n_sq ?_)
              refine q_block ?_
              obtain ⟨o12, hl12, hj8⟩ := bindS hj8
              refine q_loop (fun (s : Int × impl_Loss) a w => ∃ t_24, ∃ own_25, s = (t_24, own_25) ∧ Fr a 82 [(0, s1.v), (2, (.pointer (some ⟨b2, 0, none⟩))), (4, (.pointer (some ⟨b4, 0, none⟩))), (8, (.pointer (some ⟨b13, 0, none⟩))), (10, (.pointer (some ⟨b18, 0, none⟩))), (11, (.pointer (some ⟨b23, 0, none⟩))), (36, s1.v), (37, (.int .i64 (goLen p_l))), (38, (.int .i64 t_14)), (55, s1.v), (56, (.int .i64 (goLen p_l))), (57, (.int .i64 t_24))] ∧ St [] w0 w m [[⟨b23, [(.int .i64 own_25.Ratio.Num), (.int .i64 own_25.Ratio.Den), (.int .i64 own_25.Rho.Num), (.int .i64 own_25.Rho.Den)], 28⟩], [⟨b18, [(.int .i64 e_16.Scope), (.int .i64 e_16.Loss.Ratio.Num), (.int .i64 e_16.Loss.Ratio.Den), (.int .i64 e_16.Loss.Rho.Num), (.int .i64 e_16.Loss.Rho.Den)], 116⟩], [⟨b13, [(.int .i64 out_15.Ratio.Num), (.int .i64 out_15.Ratio.Den), (.int .i64 out_15.Rho.Num), (.int .i64 out_15.Rho.Den)], 28⟩], [⟨b4, [(.int .i64 first_12.Ratio.Num), (.int .i64 first_12.Ratio.Den), (.int .i64 first_12.Rho.Num), (.int .i64 first_12.Rho.Den)], 28⟩], [⟨b2, [(.int .i64 0), (.int .i64 0), (.int .i64 0), (.int .i64 0)], 28⟩]]) (fun (o : (impl_Loss) ⊕ ((impl_Loss) ⊕ (Stp (Int × impl_Loss) ((impl_Loss) ⊕ (impl_Loss × Bool))))) e a w => ∃ own_31, o = .inl own_31 ∧ e = .exit 4 ∧ Fr a 82 [(0, s1.v), (2, (.pointer (some ⟨b2, 0, none⟩))), (4, (.pointer (some ⟨b4, 0, none⟩))), (8, (.pointer (some ⟨b13, 0, none⟩))), (11, (.pointer (some ⟨b23, 0, none⟩))), (36, s1.v), (37, (.int .i64 (goLen p_l))), (38, (.int .i64 t_14))] ∧ St [] w0 w m [[⟨b23, [(.int .i64 own_31.Ratio.Num), (.int .i64 own_31.Ratio.Den), (.int .i64 own_31.Rho.Num), (.int .i64 own_31.Rho.Den)], 28⟩], [⟨b13, [(.int .i64 out_15.Ratio.Num), (.int .i64 out_15.Ratio.Den), (.int .i64 out_15.Rho.Num), (.int .i64 out_15.Rho.Den)], 28⟩], [⟨b4, [(.int .i64 first_12.Ratio.Num), (.int .i64 first_12.Ratio.Den), (.int .i64 first_12.Rho.Num), (.int .i64 first_12.Rho.Den)], 28⟩], [⟨b2, [(.int .i64 0), (.int .i64 0), (.int .i64 0), (.int .i64 0)], 28⟩]]) hl12 ⟨_, _, rfl, hF.sub ⟨rfl, rfl, rfl, rfl, rfl, rfl, rfl, rfl, rfl, rfl, rfl, rfl, trivial⟩, hS⟩ ?_ ?_
              · clear hF hS
                rintro s a w st ⟨t_24, own_25, rfl, hF, hS⟩ hb12
                unfold impl_ledgerLoss_l3 at hb12
                refine q_seq ?_
                refine q_region ?_
                refine q_x (v := (.bool (decide (t_24 < (goLen p_l))))) hF hS (ex_ibin rfl rfl rfl) rfl rfl fun a hF => ?_
                refine q_end (n_sq ?_)
                refine q_seq ?_
                rcases hc13 : (decide (t_24 < (goLen p_l))) with _ | _
                · have hb12 := cond_f hc13 hb12
                  refine q_cond_f hF rfl hc13 ?_
                  refine q_exit (x_sq ?_)
                  obtain rfl := someI hb12
                  exact ⟨nofun, .inl ⟨_, rfl, rfl, hF.sub ⟨rfl, rfl, rfl, rfl, rfl, rfl, rfl, rfl, trivial⟩, hS.mask [true, false, true, true, true]⟩⟩
                · have hb12 := cond_t hc13 hb12
                  refine q_cond_t hF rfl hc13 ?_
                  refine q_skipc (n_sq ?_)
                  refine q_seq ?_
                  refine q_block ?_
                  refine q_seq ?_
                  refine q_region ?_
                  obtain ⟨e_26, he_26, hb12⟩ := bindS hb12
                  obtain ⟨vs27, at27, d27⟩ := h1.at he_26 5 rfl
                  obtain rfl : vs27 = [(.int .i64 e_26.Scope), (.int .i64 e_26.Loss.Ratio.Num), (.int .i64 e_26.Loss.Ratio.Den), (.int .i64 e_26.Loss.Rho.Num), (.int .i64 e_26.Loss.Rho.Den)] := d27
                  refine q_x (v := (elP s1 (t_24.toNat * 5))) hF hS (ex_indexAddr Try.underlying81 sz116 rfl rfl (h1.idx he_26)) rfl rfl fun a hF => ?_
                  refine q_x (v := (.agg #[(.int .i64 e_26.Scope), (.int .i64 e_26.Loss.Ratio.Num), (.int .i64 e_26.Loss.Ratio.Den), (.int .i64 e_26.Loss.Rho.Num), (.int .i64 e_26.Loss.Rho.Den)])) hF hS (ex_loadEA (us := [(.int .i64 e_26.Scope), (.int .i64 e_26.Loss.Ratio.Num), (.int .i64 e_26.Loss.Ratio.Den), (.int .i64 e_26.Loss.Rho.Num), (.int .i64 e_26.Loss.Rho.Den)]) 0 Try.underlying116 rfl sz116 rfl ((at27).at) rfl rfl rfl) rfl rfl fun a hF => ?_
                  refine q_alloc (cs := [(.int .i64 0), (.int .i64 0), (.int .i64 0), (.int .i64 0), (.int .i64 0)]) hF hS rfl rfl rfl fun a w b28 hF hS => ?_
                  refine q_store (vs := [(.int .i64 e_26.Scope), (.int .i64 e_26.Loss.Ratio.Num), (.int .i64 e_26.Loss.Ratio.Den), (.int .i64 e_26.Loss.Rho.Num), (.int .i64 e_26.Loss.Rho.Den)]) (cs' := [(.int .i64 e_26.Scope), (.int .i64 e_26.Loss.Ratio.Num), (.int .i64 e_26.Loss.Ratio.Den), (.int .i64 e_26.Loss.Rho.Num), (.int .i64 e_26.Loss.Rho.Den)]) 0 0 hF hS sz116 rfl rfl rfl rfl rfl rfl rfl rfl fun a w hF hS => ?_
                  refine q_end (n_sq ?_)
                  refine q_seq ?_
                  refine q_region ?_
                  refine q_x (v := (.pointer (some ⟨b28, 0, none⟩))) hF hS (ex_fieldAddr Try.underlying116 rfl sz3 rfl rfl) rfl rfl fun a hF => ?_
                  refine q_x (v := (.int .i64 e_26.Scope)) hF hS (ex_load1 0 0 Try.underlying3 rfl rfl rfl rfl) rfl rfl fun a hF => ?_
                  refine q_x (v := (.pointer (some ⟨b18, 0, none⟩))) hF hS (ex_fieldAddr Try.underlying116 rfl sz3 rfl rfl) rfl rfl fun a hF => ?_
                  refine q_x (v := (.int .i64 e_16.Scope)) hF hS (ex_load1 2 0 Try.underlying3 rfl rfl rfl rfl) rfl rfl fun a hF => ?_
                  refine q_x (v := (.bool (e_26.Scope == e_16.Scope))) hF hS (ex_ibin rfl rfl rfl) rfl rfl fun a hF => ?_
                  refine q_end (n_sq ?_)
                  obtain ⟨j14, hj14, hb12⟩ := bindS hb12
                  refine q_join (fun a w => ∃ own_30, j14 = .inl own_30 ∧ Fr a 82 [(0, s1.v), (2, (.pointer (some ⟨b2, 0, none⟩))), (4, (.pointer (some ⟨b4, 0, none⟩))), (8, (.pointer (some ⟨b13, 0, none⟩))), (10, (.pointer (some ⟨b18, 0, none⟩))), (11, (.pointer (some ⟨b23, 0, none⟩))), (36, s1.v), (37, (.int .i64 (goLen p_l))), (38, (.int .i64 t_14)), (55, s1.v), (56, (.int .i64 (goLen p_l))), (57, (.int .i64 t_24))] ∧ St [] w0 w m [[⟨b23, [(.int .i64 own_30.Ratio.Num), (.int .i64 own_30.Ratio.Den), (.int .i64 own_30.Rho.Num), (.int .i64 own_30.Rho.Den)], 28⟩], [⟨b18, [(.int .i64 e_16.Scope), (.int .i64 e_16.Loss.Ratio.Num), (.int .i64 e_16.Loss.Ratio.Den), (.int .i64 e_16.Loss.Rho.Num), (.int .i64 e_16.Loss.Rho.Den)], 116⟩], [⟨b13, [(.int .i64 out_15.Ratio.Num), (.int .i64 out_15.Ratio.Den), (.int .i64 out_15.Rho.Num), (.int .i64 out_15.Rho.Den)], 28⟩], [⟨b4, [(.int .i64 first_12.Ratio.Num), (.int .i64 first_12.Ratio.Den), (.int .i64 first_12.Rho.Num), (.int .i64 first_12.Rho.Den)], 28⟩], [⟨b2, [(.int .i64 0), (.int .i64 0), (.int .i64 0), (.int .i64 0)], 28⟩]]) ?_ ?_
                  · rcases hc15 : (e_26.Scope == e_16.Scope) with _ | _
                    · have hj14 := cond_f hc15 hj14
                      refine q_cond_f hF rfl hc15 ?_
                      refine q_skipc (n_jn ?_)
                      obtain rfl := someI hj14
                      exact ⟨_, rfl, hF.sub ⟨rfl, rfl, rfl, rfl, rfl, rfl, rfl, rfl, rfl, rfl, rfl, rfl, trivial⟩, hS.mask [false, true, true, true, true, true]⟩
                    · have hj14 := cond_t hc15 hj14
                      refine q_cond_t hF rfl hc15 ?_
                      refine q_seq ?_
                      refine q_region ?_
                      refine q_x (v := (.agg #[(.int .i64 own_25.Ratio.Num), (.int .i64 own_25.Ratio.Den), (.int .i64 own_25.Rho.Num), (.int .i64 own_25.Rho.Den)])) hF hS (ex_loadA (vs := [(.int .i64 own_25.Ratio.Num), (.int .i64 own_25.Ratio.Den), (.int .i64 own_25.Rho.Num), (.int .i64 own_25.Rho.Den)]) 1 0 Try.underlying28 rfl sz28 rfl rfl rfl rfl) rfl rfl fun a hF => ?_
                      refine q_x (v := (.pointer (some ⟨b28, 1, none⟩))) hF hS (ex_fieldAddr Try.underlying116 rfl sz28 rfl rfl) rfl rfl fun a hF => ?_
                      refine q_x (v := (.agg #[(.int .i64 e_26.Loss.Ratio.Num), (.int .i64 e_26.Loss.Ratio.Den), (.int .i64 e_26.Loss.Rho.Num), (.int .i64 e_26.Loss.Rho.Den)])) hF hS (ex_loadA (vs := [(.int .i64 e_26.Loss.Ratio.Num), (.int .i64 e_26.Loss.Ratio.Den), (.int .i64 e_26.Loss.Rho.Num), (.int .i64 e_26.Loss.Rho.Den)]) 0 0 Try.underlying28 rfl sz28 rfl rfl rfl rfl) rfl rfl fun a hF => ?_
                      obtain ⟨t_29, ht_29, hj14⟩ := bindS hj14
                      refine q_call (vs := [(.agg #[(.int .i64 own_25.Ratio.Num), (.int .i64 own_25.Ratio.Den), (.int .i64 own_25.Rho.Num), (.int .i64 own_25.Rho.Den)]), (.agg #[(.int .i64 e_26.Loss.Ratio.Num), (.int .i64 e_26.Loss.Ratio.Den), (.int .i64 e_26.Loss.Rho.Num), (.int .i64 e_26.Loss.Rho.Den)])]) hF hS Try.func108 (by kernel_rfl) rfl rfl rfl (c_impl_composed own_25 e_26.Loss t_29 ht_29 _ m hS.vis) ?_
                      rintro a w _ rfl hF hS
                      refine q_x (v := (.tuple #[(.agg #[(.int .i64 t_29.1.Ratio.Num), (.int .i64 t_29.1.Ratio.Den), (.int .i64 t_29.1.Rho.Num), (.int .i64 t_29.1.Rho.Den)]), (.bool t_29.2)])) hF hS (ex_move rfl) rfl rfl fun a hF => ?_
                      refine q_x (v := (.agg #[(.int .i64 t_29.1.Ratio.Num), (.int .i64 t_29.1.Ratio.Den), (.int .i64 t_29.1.Rho.Num), (.int .i64 t_29.1.Rho.Den)])) hF hS (ex_extract rfl rfl) rfl rfl fun a hF => ?_
                      refine q_x (v := (.bool t_29.2)) hF hS (ex_extract rfl rfl) rfl rfl fun a hF => ?_
                      refine q_store (vs := [(.int .i64 t_29.1.Ratio.Num), (.int .i64 t_29.1.Ratio.Den), (.int .i64 t_29.1.Rho.Num), (.int .i64 t_29.1.Rho.Den)]) (cs' := [(.int .i64 t_29.1.Ratio.Num), (.int .i64 t_29.1.Ratio.Den), (.int .i64 t_29.1.Rho.Num), (.int .i64 t_29.1.Rho.Den)]) 1 0 hF hS sz28 rfl rfl rfl rfl rfl rfl rfl rfl fun a w hF hS => ?_
                      refine q_x (v := (.bool t_29.2)) hF hS (ex_assign rfl) rfl rfl fun a hF => ?_
                      refine q_end (n_sq ?_)
                      refine q_seq ?_
                      refine q_region ?_
                      refine q_x (v := (.bool t_29.2)) hF hS (ex_move rfl) rfl rfl fun a hF => ?_
                      refine q_x (v := (.bool (!t_29.2))) hF hS (ex_not rfl) rfl rfl fun a hF => ?_
                      refine q_end (n_sq ?_)
                      rcases hc16 : (!t_29.2) with _ | _
                      · have hj14 := cond_f hc16 hj14
                        refine q_cond_f hF rfl hc16 ?_
                        refine q_skipc (n_jn ?_)
                        obtain rfl := someI hj14
                        exact ⟨_, rfl, hF.sub ⟨rfl, rfl, rfl, rfl, rfl, rfl, rfl, rfl, rfl, rfl, rfl, rfl, trivial⟩, hS.mask [false, true, true, true, true, true]⟩
                      · have hj14 := cond_t hc16 hj14
                        refine q_cond_t hF rfl hc16 ?_
                        refine q_seq ?_
                        refine q_region ?_
                        refine q_x (v := (.agg #[(.int .i64 0), (.int .i64 0), (.int .i64 0), (.int .i64 0)])) hF hS (ex_build (cells := [(.int .i64 0), (.int .i64 0), (.int .i64 0), (.int .i64 0)]) rfl (by kernel_rfl)) rfl rfl fun a hF => ?_
                        refine q_store (vs := [(.int .i64 0), (.int .i64 0), (.int .i64 0), (.int .i64 0)]) (cs' := [(.int .i64 0), (.int .i64 0), (.int .i64 0), (.int .i64 0)]) 5 0 hF hS sz28 rfl rfl rfl rfl rfl rfl rfl rfl fun a w hF hS => ?_
                        refine q_x (v := (.bool false)) hF hS (ex_assign rfl) rfl rfl fun a hF => ?_
                        refine q_end (n_sq (q_ret (r_jn ?_)))
                        obtain rfl := someI hj14
                        refine r_ib (r_sq ?_)
                        obtain rfl := someI hb12
                        refine ⟨nofun, .inr fun ho => ?_⟩
                        subst ho
                        refine r_ib (r_sq (r_ib (r_jn ?_)))
                        obtain rfl := someI hj8
                        refine r_sq ?_
                        obtain rfl := someI hb6
                        refine ⟨nofun, .inr fun ho => ?_⟩
                        subst ho
                        refine r_ib (r_sq ?_)
                        obtain rfl := someI hr
                        exact ret_of hF hS rfl (.cellA (us := [(.int .i64 0), (.int .i64 0), (.int .i64 0), (.int .i64 0)]) 5 0 Try.underlying28 rfl sz28 rfl rfl rfl rfl (.tmp rfl .nil)) rfl
                  · rintro a w ⟨own_30, rfl, hF, hS⟩
                    refine n_ib (n_sq ?_)
                    refine q_region ?_
                    refine q_x (v := (.int .i64 (w64 (t_24 + 1)))) hF hS (ex_ibin rfl rfl rfl) rfl rfl fun a hF => ?_
                    refine q_x (v := (.int .i64 (w64 (t_24 + 1)))) hF hS (ex_move rfl) rfl rfl fun a hF => ?_
                    refine q_end ?_
                    obtain rfl := someI hb12
                    exact ⟨rfl, _, _, rfl, hF.sub ⟨rfl, rfl, rfl, rfl, rfl, rfl, rfl, rfl, rfl, rfl, rfl, rfl, trivial⟩, hS⟩
              · rintro e a w ⟨own_31, rfl, rfl, hF, hS⟩
                refine x_ib (n_sq ?_)
                refine q_region ?_
                refine q_x (v := (.agg #[(.int .i64 out_15.Ratio.Num), (.int .i64 out_15.Ratio.Den), (.int .i64 out_15.Rho.Num), (.int .i64 out_15.Rho.Den)])) hF hS (ex_loadA (vs := [(.int .i64 out_15.Ratio.Num), (.int .i64 out_15.Ratio.Den), (.int .i64 out_15.Rho.Num), (.int .i64 out_15.Rho.Den)]) 1 0 Try.underlying28 rfl sz28 rfl rfl rfl rfl) rfl rfl fun a hF => ?_
                refine q_x (v := (.agg #[(.int .i64 own_31.Ratio.Num), (.int .i64 own_31.Ratio.Den), (.int .i64 own_31.Rho.Num), (.int .i64 own_31.Rho.Den)])) hF hS (ex_loadA (vs := [(.int .i64 own_31.Ratio.Num), (.int .i64 own_31.Ratio.Den), (.int .i64 own_31.Rho.Num), (.int .i64 own_31.Rho.Den)]) 0 0 Try.underlying28 rfl sz28 rfl rfl rfl rfl) rfl rfl fun a hF => ?_
                obtain ⟨t_32, ht_32, hj8⟩ := bindS hj8
                refine q_call (vs := [(.agg #[(.int .i64 out_15.Ratio.Num), (.int .i64 out_15.Ratio.Den), (.int .i64 out_15.Rho.Num), (.int .i64 out_15.Rho.Den)]), (.agg #[(.int .i64 own_31.Ratio.Num), (.int .i64 own_31.Ratio.Den), (.int .i64 own_31.Rho.Num), (.int .i64 own_31.Rho.Den)])]) hF hS Try.func84 (by kernel_rfl) rfl rfl rfl (c_impl_greatest out_15 own_31 t_32 ht_32 _ m hS.vis) ?_
                rintro a w _ rfl hF hS
                refine q_store (vs := [(.int .i64 t_32.Ratio.Num), (.int .i64 t_32.Ratio.Den), (.int .i64 t_32.Rho.Num), (.int .i64 t_32.Rho.Den)]) (cs' := [(.int .i64 t_32.Ratio.Num), (.int .i64 t_32.Ratio.Den), (.int .i64 t_32.Rho.Num), (.int .i64 t_32.Rho.Den)]) 1 0 hF hS sz28 rfl rfl rfl rfl rfl rfl rfl rfl fun a w hF hS => ?_
                refine q_end (n_ib (n_jn ?_))
                obtain rfl := someI hj8
                exact ⟨_, rfl, hF.sub ⟨rfl, rfl, rfl, rfl, rfl, rfl, rfl, trivial⟩, hS.mask [false, true, true, true]⟩
            · have hj8 := cond_t hc11 hj8
              refine q_cond_t hF rfl hc11 ?_
              refine q_exit (x_sq (x_ib (n_jn ?_)))
              obtain rfl := someI hj8
              exact ⟨_, rfl, hF.sub ⟨rfl, rfl, rfl, rfl, rfl, rfl, rfl, trivial⟩, hS.mask [false, true, true, true]⟩
        · rintro a w ⟨out_33, rfl, hF, hS⟩
          refine n_sq ?_
          refine q_region ?_
          refine q_x (v := (.int .i64 (w64 (t_14 + 1)))) hF hS (ex_ibin rfl rfl rfl) rfl rfl fun a hF => ?_
          refine q_x (v := (.int .i64 (w64 (t_14 + 1)))) hF hS (ex_move rfl) rfl rfl fun a hF => ?_
          refine q_end ?_
          obtain rfl := someI hb6
          exact ⟨rfl, _, _, rfl, hF.sub ⟨rfl, rfl, rfl, rfl, rfl, rfl, rfl, trivial⟩, hS⟩
    · rintro e a w ⟨out_34, rfl, rfl, hF, hS⟩
      refine x_ib (n_sq ?_)
      refine q_seq ?_
      refine q_region ?_
      refine q_x (v := (.agg #[(.int .i64 out_34.Ratio.Num), (.int .i64 out_34.Ratio.Den), (.int .i64 out_34.Rho.Num), (.int .i64 out_34.Rho.Den)])) hF hS (ex_loadA (vs := [(.int .i64 out_34.Ratio.Num), (.int .i64 out_34.Ratio.Den), (.int .i64 out_34.Rho.Num), (.int .i64 out_34.Rho.Den)]) 0 0 Try.underlying28 rfl sz28 rfl rfl rfl rfl) rfl rfl fun a hF => ?_
      refine q_store (vs := [(.int .i64 out_34.Ratio.Num), (.int .i64 out_34.Ratio.Den), (.int .i64 out_34.Rho.Num), (.int .i64 out_34.Rho.Den)]) (cs' := [(.int .i64 out_34.Ratio.Num), (.int .i64 out_34.Ratio.Den), (.int .i64 out_34.Rho.Num), (.int .i64 out_34.Rho.Den)]) 1 0 hF hS sz28 rfl rfl rfl rfl rfl rfl rfl rfl fun a w hF hS => ?_
      refine q_x (v := (.bool true)) hF hS (ex_assign rfl) rfl rfl fun a hF => ?_
      refine q_end (n_sq (q_ret ?_))
      obtain rfl := someI hr
      exact ret_of hF hS rfl (.cellA (us := [(.int .i64 out_34.Ratio.Num), (.int .i64 out_34.Ratio.Den), (.int .i64 out_34.Rho.Num), (.int .i64 out_34.Rho.Den)]) 1 0 Try.underlying28 rfl sz28 rfl rfl rfl rfl (.tmp rfl .nil)) rfl

theorem c_impl_isWithin (p_budget : impl_Loss) (p_x : impl_Loss) (r : Bool) (hr : impl_isWithin p_budget p_x = some r) (w0 : World) (m : Mem) (hv : Vis m w0) :
    Ret Try.prog 74 [(.agg #[(.int .i64 p_budget.Ratio.Num), (.int .i64 p_budget.Ratio.Den), (.int .i64 p_budget.Rho.Num), (.int .i64 p_budget.Rho.Den)]), (.agg #[(.int .i64 p_x.Ratio.Num), (.int .i64 p_x.Ratio.Den), (.int .i64 p_x.Rho.Num), (.int .i64 p_x.Rho.Den)])] w0 (fun v _ => v = (.bool r)) := by
  unfold impl_isWithin at hr
  refine ret_start Try.func74 rfl 19 rfl rfl m hv fun a hF hS => ?_
  refine q_seq ?_
  refine q_region ?_
  refine q_box (cs := [(.int .i64 p_budget.Ratio.Num), (.int .i64 p_budget.Ratio.Den), (.int .i64 p_budget.Rho.Num), (.int .i64 p_budget.Rho.Den)]) hF hS rfl rfl rfl fun a w b1 hF hS => ?_
  refine q_box (cs := [(.int .i64 p_x.Ratio.Num), (.int .i64 p_x.Ratio.Den), (.int .i64 p_x.Rho.Num), (.int .i64 p_x.Rho.Den)]) hF hS rfl rfl rfl fun a w b2 hF hS => ?_
  refine q_x (v := (.bool false)) hF hS (ex_assign rfl) rfl rfl fun a hF => ?_
  refine q_end (n_sq ?_)
  refine q_seq ?_
  obtain ⟨t_5, hj1, hr⟩ := bindS hr
  refine q_join (fun a w => Fr a 19 [(4, (.bool t_5))] ∧ St [] w0 w m []) ?_ ?_
  · refine q_region ?_
    refine q_x (v := (.pointer (some ⟨b2, 0, none⟩))) hF hS (ex_fieldAddr Try.underlying28 rfl sz26 rfl rfl) rfl rfl fun a hF => ?_
    refine q_x (v := (.agg #[(.int .i64 p_x.Ratio.Num), (.int .i64 p_x.Ratio.Den)])) hF hS (ex_loadA (vs := [(.int .i64 p_x.Ratio.Num), (.int .i64 p_x.Ratio.Den)]) 0 0 Try.underlying26 rfl sz26 rfl rfl rfl rfl) rfl rfl fun a hF => ?_
    refine q_x (v := (.pointer (some ⟨b1, 0, none⟩))) hF hS (ex_fieldAddr Try.underlying28 rfl sz26 rfl rfl) rfl rfl fun a hF => ?_
    refine q_x (v := (.agg #[(.int .i64 p_budget.Ratio.Num), (.int .i64 p_budget.Ratio.Den)])) hF hS (ex_loadA (vs := [(.int .i64 p_budget.Ratio.Num), (.int .i64 p_budget.Ratio.Den)]) 1 0 Try.underlying26 rfl sz26 rfl rfl rfl rfl) rfl rfl fun a hF => ?_
    obtain ⟨t_3, ht_3, hj1⟩ := bindS hj1
    refine q_call (vs := [(.agg #[(.int .i64 p_x.Ratio.Num), (.int .i64 p_x.Ratio.Den)]), (.agg #[(.int .i64 p_budget.Ratio.Num), (.int .i64 p_budget.Ratio.Den)])]) hF hS Try.func102 (by kernel_rfl) rfl rfl rfl (c_impl_cmpFrac p_x.Ratio p_budget.Ratio t_3 ht_3 _ m hS.vis) ?_
    rintro a w _ rfl hF hS
    refine q_x (v := (.bool (decide (t_3 ≤ 0)))) hF hS (ex_ibin rfl rfl rfl) rfl rfl fun a hF => ?_
    refine q_x (v := (.bool (decide (t_3 ≤ 0)))) hF hS (ex_move rfl) rfl rfl fun a hF => ?_
    rcases hc2 : (decide (t_3 ≤ 0)) with _ | _
    · have hj1 := cond_f hc2 hj1
      refine q_skip hF (wanted_f hF rfl rfl rfl hc2 rfl) rfl fun a hF => ?_
      refine q_skip hF (wanted_f hF rfl rfl rfl hc2 rfl) rfl fun a hF => ?_
      refine q_skip hF (wanted_f hF rfl rfl rfl hc2 rfl) rfl fun a hF => ?_
      refine q_skip hF (wanted_f hF rfl rfl rfl hc2 rfl) rfl fun a hF => ?_
      refine q_skip hF (wanted_f hF rfl rfl rfl hc2 rfl) rfl fun a hF => ?_
      refine q_skip hF (wanted_f hF rfl rfl rfl hc2 rfl) rfl fun a hF => ?_
      refine q_x (v := (.bool false)) hF hS (ex_pick_f rfl rfl hc2) rfl rfl fun a hF => ?_
      refine q_x (v := (.bool false)) hF hS (ex_assign rfl) rfl rfl fun a hF => ?_
      refine q_end (n_jn ?_)
      obtain rfl := someI hj1
      exact ⟨hF.sub ⟨rfl, trivial⟩, hS.mask [false, false]⟩
    · have hj1 := cond_t hc2 hj1
      refine q_xg (v := (.pointer (some ⟨b2, 2, none⟩))) hF hS (ex_fieldAddr Try.underlying28 rfl sz26 rfl rfl) (wanted_t hF rfl rfl rfl hc2) rfl fun a hF => ?_
      refine q_xg (v := (.agg #[(.int .i64 p_x.Rho.Num), (.int .i64 p_x.Rho.Den)])) hF hS (ex_loadA (vs := [(.int .i64 p_x.Rho.Num), (.int .i64 p_x.Rho.Den)]) 0 0 Try.underlying26 rfl sz26 rfl rfl rfl rfl) (wanted_t hF rfl rfl rfl hc2) rfl fun a hF => ?_
      refine q_xg (v := (.pointer (some ⟨b1, 2, none⟩))) hF hS (ex_fieldAddr Try.underlying28 rfl sz26 rfl rfl) (wanted_t hF rfl rfl rfl hc2) rfl fun a hF => ?_
      refine q_xg (v := (.agg #[(.int .i64 p_budget.Rho.Num), (.int .i64 p_budget.Rho.Den)])) hF hS (ex_loadA (vs := [(.int .i64 p_budget.Rho.Num), (.int .i64 p_budget.Rho.Den)]) 1 0 Try.underlying26 rfl sz26 rfl rfl rfl rfl) (wanted_t hF rfl rfl rfl hc2) rfl fun a hF => ?_
      obtain ⟨t_4, ht_4, hj1⟩ := bindS hj1
      refine q_callg (vs := [(.agg #[(.int .i64 p_x.Rho.Num), (.int .i64 p_x.Rho.Den)]), (.agg #[(.int .i64 p_budget.Rho.Num), (.int .i64 p_budget.Rho.Den)])]) hF hS (wanted_t hF rfl rfl rfl hc2) Try.func102 (by kernel_rfl) rfl rfl rfl (c_impl_cmpFrac p_x.Rho p_budget.Rho t_4 ht_4 _ m hS.vis) ?_
      rintro a w _ rfl hF hS
      refine q_xg (v := (.bool (decide (t_4 ≤ 0)))) hF hS (ex_ibin rfl rfl rfl) (wanted_t hF rfl rfl rfl hc2) rfl fun a hF => ?_
      refine q_x (v := (.bool (decide (t_4 ≤ 0)))) hF hS (ex_pick_t rfl rfl hc2) rfl rfl fun a hF => ?_
      refine q_x (v := (.bool (decide (t_4 ≤ 0)))) hF hS (ex_assign rfl) rfl rfl fun a hF => ?_
      refine q_end (n_jn ?_)
      obtain rfl := someI hj1
      exact ⟨hF.sub ⟨rfl, trivial⟩, hS.mask [false, false]⟩
  · rintro a w ⟨hF, hS⟩
    refine n_sq (q_ret ?_)
    obtain rfl := someI hr
    exact ret_of hF hS rfl (.tmp rfl .nil) rfl

theorem c_impl_AcceptEntries (p_budget : impl_Loss) (p_l : List impl_Entry) (r : (List Int) × Bool) (hr : impl_AcceptEntries p_budget p_l = some r) (w0 : World) (m : Mem) (hv : Vis m w0) (s1 : Sl) (h1 : Rd m s1 p_l) :
    Ret Try.prog 66 [(.agg #[(.int .i64 p_budget.Ratio.Num), (.int .i64 p_budget.Ratio.Den), (.int .i64 p_budget.Rho.Num), (.int .i64 p_budget.Rho.Den)]), s1.v] w0 (fun v w => ∃ (q0' : Piece) (s0' : Sl), v = (.tuple #[s0'.v, (.bool r.2)]) ∧ St [] w0 w m [q0'] ∧ OwnL m 3 q0' s0' r.1) := by
  unfold impl_AcceptEntries at hr
  refine ret_start Try.func66 rfl 55 rfl rfl m hv fun a hF hS => ?_
  refine q_seq ?_
  refine q_region ?_
  refine q_box (cs := [(.int .i64 p_budget.Ratio.Num), (.int .i64 p_budget.Ratio.Den), (.int .i64 p_budget.Rho.Num), (.int .i64 p_budget.Rho.Den)]) hF hS rfl rfl rfl fun a w b2 hF hS => ?_
  refine q_x (v := nilS.v) hF hS (ex_assign rfl) rfl rfl fun a hF => ?_
  refine q_x (v := (.bool false)) hF hS (ex_assign rfl) rfl rfl fun a hF => ?_
  refine q_end (n_sq ?_)
  refine q_seq ?_
  refine q_seq ?_
  obtain ⟨t_5, hj1, hr⟩ := bindS hr
  refine q_join (fun a w => Fr a 55 [(1, s1.v), (2, (.pointer (some ⟨b2, 0, none⟩))), (20, (.bool t_5))] ∧ St [] w0 w m [[⟨b2, [(.int .i64 p_budget.Ratio.Num), (.int .i64 p_budget.Ratio.Den), (.int .i64 p_budget.Rho.Num), (.int .i64 p_budget.Rho.Den)], 28⟩]]) ?_ ?_
  · refine q_region ?_
    refine q_x (v := (.agg #[(.int .i64 p_budget.Ratio.Num), (.int .i64 p_budget.Ratio.Den), (.int .i64 p_budget.Rho.Num), (.int .i64 p_budget.Rho.Den)])) hF hS (ex_loadA (vs := [(.int .i64 p_budget.Ratio.Num), (.int .i64 p_budget.Ratio.Den), (.int .i64 p_budget.Rho.Num), (.int .i64 p_budget.Rho.Den)]) 0 0 Try.underlying28 rfl sz28 rfl rfl rfl rfl) rfl rfl fun a hF => ?_
    obtain ⟨t_3, ht_3, hj1⟩ := bindS hj1
    refine q_call (vs := [(.agg #[(.int .i64 p_budget.Ratio.Num), (.int .i64 p_budget.Ratio.Den), (.int .i64 p_budget.Rho.Num), (.int .i64 p_budget.Rho.Den)])]) hF hS Try.func73 (by kernel_rfl) rfl rfl rfl (c_impl_IsLoss p_budget t_3 ht_3 _ m hS.vis) ?_
    rintro a w _ rfl hF hS
    refine q_x (v := (.bool (!t_3))) hF hS (ex_not rfl) rfl rfl fun a hF => ?_
    refine q_x (v := (.bool (!t_3))) hF hS (ex_move rfl) rfl rfl fun a hF => ?_
    rcases hc2 : (!t_3) with _ | _
    · have hj1 := cond_f hc2 hj1
      refine q_xg (v := s1.v) hF hS (ex_move rfl) (wanted_t hF rfl rfl rfl hc2) rfl fun a hF => ?_
      obtain ⟨t_4, ht_4, hj1⟩ := bindS hj1
      refine q_callg (vs := [s1.v]) hF hS (wanted_t hF rfl rfl rfl hc2) Try.func130 (by kernel_rfl) rfl rfl rfl (c_impl_areEntries p_l t_4 ht_4 _ m hS.vis s1 h1) ?_
      rintro a w _ rfl hF hS
      refine q_xg (v := (.bool (!t_4))) hF hS (ex_not rfl) (wanted_t hF rfl rfl rfl hc2) rfl fun a hF => ?_
      refine q_x (v := (.bool (!t_4))) hF hS (ex_pick_f rfl rfl hc2) rfl rfl fun a hF => ?_
      refine q_end (n_jn ?_)
      obtain rfl := someI hj1
      exact ⟨hF.sub ⟨rfl, rfl, rfl, trivial⟩, hS⟩
    · have hj1 := cond_t hc2 hj1
      refine q_skip hF (wanted_f hF rfl rfl rfl hc2 rfl) rfl fun a hF => ?_
      refine q_skip hF (wanted_f hF rfl rfl rfl hc2 rfl) rfl fun a hF => ?_
      refine q_skip hF (wanted_f hF rfl rfl rfl hc2 rfl) rfl fun a hF => ?_
      refine q_x (v := (.bool true)) hF hS (ex_pick_t rfl rfl hc2) rfl rfl fun a hF => ?_
      refine q_end (n_jn ?_)
      obtain rfl := someI hj1
      exact ⟨hF.sub ⟨rfl, rfl, rfl, trivial⟩, hS⟩
  · rintro a w ⟨hF, hS⟩
    refine n_sq ?_
    rcases hc3 : (t_5) with _ | _
    · have hr := cond_f hc3 hr
      refine q_cond_f hF rfl hc3 ?_
      refine q_skipc (n_sq ?_)
      refine q_seq ?_
      refine q_region ?_
      refine q_x (v := nilS.v) hF hS (ex_assign rfl) rfl rfl fun a hF => ?_
      refine q_end (n_sq ?_)
      refine q_seq ?_
      refine q_region ?_
      refine q_x (v := nilS.v) hF hS (ex_assign rfl) rfl rfl fun a hF => ?_
      refine q_end (n_sq ?_)
      refine q_seq ?_
      refine q_seq ?_
      refine q_region ?_
      refine q_x (v := s1.v) hF hS (ex_move rfl) rfl rfl fun a hF => ?_
      refine q_x (v := (.int .i64 (goLen p_l))) hF hS (ex_len Try.underlying81 rfl h1.len) rfl rfl fun a hF => ?_
      refine q_x (v := (.int .i64 0)) hF hS (ex_move rfl) rfl rfl fun a hF => ?_
      refine q_end (n_sq ?_)
      refine q_block ?_
      obtain ⟨out_31, hl4, hr⟩ := bindS hr
      refine q_loop (fun (s : (List impl_Entry) × (List Int) × Int) a w => ∃ (q7 : Piece), ∃ (s7 : Sl), ∃ (q9 : Piece), ∃ (s9 : Sl), ∃ accepted_6, ∃ out_8, ∃ t_10, s = (accepted_6, out_8, t_10) ∧ Fr a 55 [(2, (.pointer (some ⟨b2, 0, none⟩))), (6, s7.v), (7, s9.v), (21, s1.v), (22, (.int .i64 (goLen p_l))), (23, (.int .i64 t_10))] ∧ St [] w0 w m [q7, q9, [⟨b2, [(.int .i64 p_budget.Ratio.Num), (.int .i64 p_budget.Ratio.Den), (.int .i64 p_budget.Rho.Num), (.int .i64 p_budget.Rho.Den)], 28⟩]] ∧ OwnL m 116 q7 s7 accepted_6 ∧ OwnL m 3 q9 s9 out_8) (fun (out_31 : (List Int)) e a w => ∃ (q32 : Piece), ∃ (s32 : Sl), e = .exit 0 ∧ Fr a 55 [(7, s32.v)] ∧ St [] w0 w m [q32] ∧ OwnL m 3 q32 s32 out_31) hl4 ⟨[], nilS, [], nilS, _, _, _, rfl, hF.sub ⟨rfl, rfl, rfl, rfl, rfl, rfl, trivial⟩, hS.sel [1, 2, 0] (by decide), (OwnL.nil (α := impl_Entry) m 116), (OwnL.nil (α := Int) m 3)⟩ ?_ ?_
      · clear hF hS
        rintro s a w st ⟨q7, s7, q9, s9, accepted_6, out_8, t_10, rfl, hF, hS, h7, h9⟩ hb4
        unfold impl_AcceptEntries_l1 at hb4
        refine q_seq ?_
        refine q_region ?_
        refine q_x (v := (.bool (decide (t_10 < (goLen p_l))))) hF hS (ex_ibin rfl rfl rfl) rfl rfl fun a hF => ?_
        refine q_end (n_sq ?_)
        refine q_seq ?_
        rcases hc5 : (decide (t_10 < (goLen p_l))) with _ | _
        · have hb4 := cond_f hc5 hb4
          refine q_cond_f hF rfl hc5 ?_
          refine q_exit (x_sq ?_)
          obtain rfl := someI hb4
          exact ⟨nofun, .inl ⟨q9, s9, rfl, hF.sub ⟨rfl, trivial⟩, hS.mask [false, true, false], h9⟩⟩
        · have hb4 := cond_t hc5 hb4
          refine q_cond_t hF rfl hc5 ?_
          refine q_skipc (n_sq ?_)
          refine q_seq ?_
          refine q_block ?_
          refine q_seq ?_
          refine q_region ?_
          refine q_x (v := (.int .i64 t_10)) hF hS (ex_move rfl) rfl rfl fun a hF => ?_
          obtain ⟨e_11, he_11, hb4⟩ := bindS hb4
          obtain ⟨vs12, at12, d12⟩ := h1.at he_11 5 rfl
          obtain rfl : vs12 = [(.int .i64 e_11.Scope), (.int .i64 e_11.Loss.Ratio.Num), (.int .i64 e_11.Loss.Ratio.Den), (.int .i64 e_11.Loss.Rho.Num), (.int .i64 e_11.Loss.Rho.Den)] := d12
          refine q_x (v := (elP s1 (t_10.toNat * 5))) hF hS (ex_indexAddr Try.underlying81 sz116 rfl rfl (h1.idx he_11)) rfl rfl fun a hF => ?_
          refine q_x (v := (.agg #[(.int .i64 e_11.Scope), (.int .i64 e_11.Loss.Ratio.Num), (.int .i64 e_11.Loss.Ratio.Den), (.int .i64 e_11.Loss.Rho.Num), (.int .i64 e_11.Loss.Rho.Den)])) hF hS (ex_loadEA (us := [(.int .i64 e_11.Scope), (.int .i64 e_11.Loss.Ratio.Num), (.int .i64 e_11.Loss.Ratio.Den), (.int .i64 e_11.Loss.Rho.Num), (.int .i64 e_11.Loss.Rho.Den)]) 0 Try.underlying116 rfl sz116 rfl ((at12).at) rfl rfl rfl) rfl rfl fun a hF => ?_
          refine q_alloc (cs := [(.int .i64 0), (.int .i64 0), (.int .i64 0), (.int .i64 0), (.int .i64 0)]) hF hS rfl rfl rfl fun a w b13 hF hS => ?_
          refine q_x (v := (.int .i64 t_10)) hF hS (ex_assign rfl) rfl rfl fun a hF => ?_
          refine q_store (vs := [(.int .i64 e_11.Scope), (.int .i64 e_11.Loss.Ratio.Num), (.int .i64 e_11.Loss.Ratio.Den), (.int .i64 e_11.Loss.Rho.Num), (.int .i64 e_11.Loss.Rho.Den)]) (cs' := [(.int .i64 e_11.Scope), (.int .i64 e_11.Loss.Ratio.Num), (.int .i64 e_11.Loss.Ratio.Den), (.int .i64 e_11.Loss.Rho.Num), (.int .i64 e_11.Loss.Rho.Den)]) 0 0 hF hS sz116 rfl rfl rfl rfl rfl rfl rfl rfl fun a w hF hS => ?_
          refine q_end (n_sq ?_)
          refine q_seq ?_
          refine e_region [] mixed fun w' hw' => ?_
          have hS := hS.below hw'
          refine e_p (v := s7.v) 0 hF rfl (ex_move rfl) rfl rfl (by kernel_rfl) (by kernel_rfl) (by kernel_rfl) fun a hF => ?_
          refine e_p (v := s7.v) 1 hF rfl (ex_move rfl) rfl rfl (by kernel_rfl) (by kernel_rfl) (by kernel_rfl) fun a hF => ?_
          refine e_p (v := (.int .i64 (goLen accepted_6))) 2 hF rfl (ex_len Try.underlying81 rfl h7.len) rfl rfl (by kernel_rfl) (by kernel_rfl) (by kernel_rfl) fun a hF => ?_
          refine e_p (v := s7.v) 3 hF rfl (ex_move rfl) rfl rfl (by kernel_rfl) (by kernel_rfl) (by kernel_rfl) fun a hF => ?_
          refine e_p (v := (.int .i64 (goLen accepted_6))) 4 hF rfl (ex_len Try.underlying81 rfl h7.len) rfl rfl (by kernel_rfl) (by kernel_rfl) (by kernel_rfl) fun a hF => ?_
          obtain ⟨l_14, hl_14, hb4⟩ := bindS hb4
          refine e_p (v := (subS s7 5 (0 : Int).toNat (goLen accepted_6).toNat (goLen accepted_6).toNat).v) 5 hF rfl (ex_slice3 Try.underlying81 sz116 rfl rfl rfl rfl (.inl ⟨rfl, rfl⟩) (h7.sub3ok hl_14)) rfl rfl (by kernel_rfl) (by kernel_rfl) (by kernel_rfl) fun a hF => ?_
          refine e_x (v := (.agg #[(.int .i64 e_11.Scope), (.int .i64 e_11.Loss.Ratio.Num), (.int .i64 e_11.Loss.Ratio.Den), (.int .i64 e_11.Loss.Rho.Num), (.int .i64 e_11.Loss.Rho.Den)])) 6 hF hS rfl (ex_loadA (vs := [(.int .i64 e_11.Scope), (.int .i64 e_11.Loss.Ratio.Num), (.int .i64 e_11.Loss.Ratio.Den), (.int .i64 e_11.Loss.Rho.Num), (.int .i64 e_11.Loss.Rho.Den)]) 0 0 Try.underlying116 rfl sz116 rfl rfl rfl rfl) rfl rfl (by kernel_rfl) (by kernel_rfl) (by kernel_rfl) (by kernel_rfl) fun a hF => ?_
          refine e_one 7 (by kernel_rfl) ?_
          refine e_op rfl rfl fun _ hK => wp_buildSlice' (l := ([e_11] : List impl_Entry)) (cells := [(.int .i64 e_11.Scope), (.int .i64 e_11.Loss.Ratio.Num), (.int .i64 e_11.Loss.Ratio.Den), (.int .i64 e_11.Loss.Rho.Num), (.int .i64 e_11.Loss.Rho.Den)]) hF hS Try.underlying81 inf116 rfl rfl (by kernel_rfl) rfl rfl rfl ⟨rfl, rfl⟩ rfl rfl fun a w q16 s16 hF hS h16 hb => hK _ _ hb ?_
          refine e_one 8 (by kernel_rfl) ?_
          obtain ⟨l_17, hl_17, hb4⟩ := bindS hb4
          refine e_op rfl rfl fun _ hK => wp_appendF hF hS ((h7.vw hS (j := 2) rfl).sub3 hl_14 rfl) rfl Try.underlying81 inf116 rfl rfl rfl rfl (h16.vw hS (j := 0) rfl) (Nat.succ_pos _) rfl (by decide) hl_17 rfl fun a w q18 s18 hF hS h18 hb => hK _ _ hb ?_
          refine e_p (v := s18.v) 9 hF rfl (ex_assign rfl) rfl rfl (by kernel_rfl) (by kernel_rfl) (by kernel_rfl) fun a hF => ?_
          refine e_end (by kernel_rfl) (n_sq ?_) _
          refine q_seq ?_
          refine q_region ?_
          refine q_x (v := s18.v) hF hS (ex_move rfl) rfl rfl fun a hF => ?_
          obtain ⟨m20, hl20, hv20, hz20⟩ := hS.lend
          obtain ⟨t_19, ht_19, hb4⟩ := bindS hb4
          refine q_call (vs := [s18.v]) hF hS Try.func131 (by kernel_rfl) rfl rfl rfl (c_impl_ledgerLoss l_17 t_19 ht_19 _ m20 hv20 s18 (h18.froz hl20 (hz20 0 _ rfl))) ?_
          rintro a w _ rfl hF hS
          refine q_x (v := (.tuple #[(.agg #[(.int .i64 t_19.1.Ratio.Num), (.int .i64 t_19.1.Ratio.Den), (.int .i64 t_19.1.Rho.Num), (.int .i64 t_19.1.Rho.Den)]), (.bool t_19.2)])) hF hS (ex_move rfl) rfl rfl fun a hF => ?_
          refine q_x (v := (.agg #[(.int .i64 t_19.1.Ratio.Num), (.int .i64 t_19.1.Ratio.Den), (.int .i64 t_19.1.Rho.Num), (.int .i64 t_19.1.Rho.Den)])) hF hS (ex_extract rfl rfl) rfl rfl fun a hF => ?_
          refine q_x (v := (.bool t_19.2)) hF hS (ex_extract rfl rfl) rfl rfl fun a hF => ?_
          refine q_alloc (cs := [(.int .i64 0), (.int .i64 0), (.int .i64 0), (.int .i64 0)]) hF hS rfl rfl rfl fun a w b21 hF hS => ?_
          refine q_store (vs := [(.int .i64 t_19.1.Ratio.Num), (.int .i64 t_19.1.Ratio.Den), (.int .i64 t_19.1.Rho.Num), (.int .i64 t_19.1.Rho.Den)]) (cs' := [(.int .i64 t_19.1.Ratio.Num), (.int .i64 t_19.1.Ratio.Den), (.int .i64 t_19.1.Rho.Num), (.int .i64 t_19.1.Rho.Den)]) 0 0 hF hS sz28 rfl rfl rfl rfl rfl rfl rfl rfl fun a w hF hS => ?_
          refine q_x (v := (.bool t_19.2)) hF hS (ex_assign rfl) rfl rfl fun a hF => ?_
          refine q_end (n_sq ?_)
          refine q_seq ?_
          obtain ⟨t_23, hj6, hb4⟩ := bindS hb4
          refine q_join (fun a w => Fr a 55 [(2, (.pointer (some ⟨b2, 0, none⟩))), (6, s7.v), (7, s9.v), (8, (.int .i64 t_10)), (10, s18.v), (21, s1.v), (22, (.int .i64 (goLen p_l))), (23, (.int .i64 t_10)), (47, (.bool t_23))] ∧ St [] w0 w m [q7, q9, q18, [⟨b2, [(.int .i64 p_budget.Ratio.Num), (.int .i64 p_budget.Ratio.Den), (.int .i64 p_budget.Rho.Num), (.int .i64 p_budget.Rho.Den)], 28⟩]]) ?_ ?_
          · refine q_region ?_
            refine q_x (v := (.bool t_19.2)) hF hS (ex_move rfl) rfl rfl fun a hF => ?_
            refine q_x (v := (.bool t_19.2)) hF hS (ex_move rfl) rfl rfl fun a hF => ?_
            rcases hc7 : (t_19.2) with _ | _
            · have hj6 := cond_f hc7 hj6
              refine q_skip hF (wanted_f hF rfl rfl rfl hc7 rfl) rfl fun a hF => ?_
              refine q_skip hF (wanted_f hF rfl rfl rfl hc7 rfl) rfl fun a hF => ?_
              refine q_skip hF (wanted_f hF rfl rfl rfl hc7 rfl) rfl fun a hF => ?_
              refine q_x (v := (.bool false)) hF hS (ex_pick_f rfl rfl hc7) rfl rfl fun a hF => ?_
              refine q_end (n_jn ?_)
              obtain rfl := someI hj6
              exact ⟨hF.sub ⟨rfl, rfl, rfl, rfl, rfl, rfl, rfl, rfl, rfl, trivial⟩, hS.sel [4, 5, 1, 6] (by decide)⟩
            · have hj6 := cond_t hc7 hj6
              refine q_xg (v := (.agg #[(.int .i64 p_budget.Ratio.Num), (.int .i64 p_budget.Ratio.Den), (.int .i64 p_budget.Rho.Num), (.int .i64 p_budget.Rho.Den)])) hF hS (ex_loadA (vs := [(.int .i64 p_budget.Ratio.Num), (.int .i64 p_budget.Ratio.Den), (.int .i64 p_budget.Rho.Num), (.int .i64 p_budget.Rho.Den)]) 6 0 Try.underlying28 rfl sz28 rfl rfl rfl rfl) (wanted_t hF rfl rfl rfl hc7) rfl fun a hF => ?_
              refine q_xg (v := (.agg #[(.int .i64 t_19.1.Ratio.Num), (.int .i64 t_19.1.Ratio.Den), (.int .i64 t_19.1.Rho.Num), (.int .i64 t_19.1.Rho.Den)])) hF hS (ex_loadA (vs := [(.int .i64 t_19.1.Ratio.Num), (.int .i64 t_19.1.Ratio.Den), (.int .i64 t_19.1.Rho.Num), (.int .i64 t_19.1.Rho.Den)]) 0 0 Try.underlying28 rfl sz28 rfl rfl rfl rfl) (wanted_t hF rfl rfl rfl hc7) rfl fun a hF => ?_
              obtain ⟨t_22, ht_22, hj6⟩ := bindS hj6
              refine q_callg (vs := [(.agg #[(.int .i64 p_budget.Ratio.Num), (.int .i64 p_budget.Ratio.Den), (.int .i64 p_budget.Rho.Num), (.int .i64 p_budget.Rho.Den)]), (.agg #[(.int .i64 t_19.1.Ratio.Num), (.int .i64 t_19.1.Ratio.Den), (.int .i64 t_19.1.Rho.Num), (.int .i64 t_19.1.Rho.Den)])]) hF hS (wanted_t hF rfl rfl rfl hc7) Try.func74 (by kernel_rfl) rfl rfl rfl (c_impl_isWithin p_budget t_19.1 t_22 ht_22 _ m hS.vis) ?_
              rintro a w _ rfl hF hS
              refine q_x (v := (.bool t_22)) hF hS (ex_pick_t rfl rfl hc7) rfl rfl fun a hF => ?_
              refine q_end (n_jn ?_)
              obtain rfl := someI hj6
              exact ⟨hF.sub ⟨rfl, rfl, rfl, rfl, rfl, rfl, rfl, rfl, rfl, trivial⟩, hS.sel [4, 5, 1, 6] (by decide)⟩
          · rintro a w ⟨hF, hS⟩
            refine n_sq ?_
            obtain ⟨j8, hj8, hb4⟩ := bindS hb4
            refine q_join (fun a w => ∃ (q28 : Piece), ∃ (s28 : Sl), ∃ (q30 : Piece), ∃ (s30 : Sl), ∃ accepted_27, ∃ out_29, j8 = (accepted_27, out_29) ∧ Fr a 55 [(2, (.pointer (some ⟨b2, 0, none⟩))), (6, s28.v), (7, s30.v), (21, s1.v), (22, (.int .i64 (goLen p_l))), (23, (.int .i64 t_10))] ∧ St [] w0 w m [q28, q30, [⟨b2, [(.int .i64 p_budget.Ratio.Num), (.int .i64 p_budget.Ratio.Den), (.int .i64 p_budget.Rho.Num), (.int .i64 p_budget.Rho.Den)], 28⟩]] ∧ OwnL m 116 q28 s28 accepted_27 ∧ OwnL m 3 q30 s30 out_29) ?_ ?_
            · rcases hc9 : (t_23) with _ | _
              · have hj8 := cond_f hc9 hj8
                refine q_cond_f hF rfl hc9 ?_
                refine q_skipc (n_jn ?_)
                obtain rfl := someI hj8
                exact ⟨q7, s7, q9, s9, _, _, rfl, hF.sub ⟨rfl, rfl, rfl, rfl, rfl, rfl, trivial⟩, hS.mask [true, true, false, true], h7, h9⟩
              · have hj8 := cond_t hc9 hj8
                refine q_cond_t hF rfl hc9 ?_
                refine q_seq ?_
                refine q_region ?_
                refine q_x (v := s18.v) hF hS (ex_move rfl) rfl rfl fun a hF => ?_
                refine q_x (v := s18.v) hF hS (ex_assign rfl) rfl rfl fun a hF => ?_
                refine q_end (n_sq ?_)
                refine q_region ?_
                refine q_x (v := s9.v) hF hS (ex_move rfl) rfl rfl fun a hF => ?_
                refine q_x (v := (.int .i64 t_10)) hF hS (ex_move rfl) rfl rfl fun a hF => ?_
                refine q_do rfl fun _ hK => wp_buildSlice' (l := ([t_10] : List Int)) (cells := [(.int .i64 t_10)]) hF hS Try.underlying50 inf3 rfl rfl (by kernel_rfl) rfl rfl rfl ⟨rfl, rfl⟩ rfl rfl fun a w q24 s24 hF hS h24 _ => hK _ _ ?_
                have hS : St _ _ _ _ [q9, q24, q7, q18, [⟨b2, [(.int .i64 p_budget.Ratio.Num), (.int .i64 p_budget.Ratio.Den), (.int .i64 p_budget.Rho.Num), (.int .i64 p_budget.Rho.Den)], 28⟩]] := hS.sel [2, 0, 1, 3, 4] (by decide)
                obtain ⟨l_25, hl_25, hj8⟩ := bindS hj8
                refine q_do rfl fun _ hK => wp_append hF hS h9 Try.underlying50 inf3 rfl rfl rfl rfl (h24.vw hS (j := 1) rfl) rfl (by decide) hl_25 rfl fun a w q26 s26 hF hS h26 => hK _ _ ?_
                refine q_x (v := s26.v) hF hS (ex_assign rfl) rfl rfl fun a hF => ?_
                refine q_end (n_jn ?_)
                obtain rfl := someI hj8
                exact ⟨q18, s18, q26, s26, _, _, rfl, hF.sub ⟨rfl, rfl, rfl, rfl, rfl, rfl, trivial⟩, hS.sel [3, 0, 4] (by decide), h18, h26⟩
            · rintro a w ⟨q28, s28, q30, s30, accepted_27, out_29, rfl, hF, hS, h28, h30⟩
              refine n_ib (n_sq ?_)
              refine q_region ?_
              refine q_x (v := (.int .i64 (w64 (t_10 + 1)))) hF hS (ex_ibin rfl rfl rfl) rfl rfl fun a hF => ?_
              refine q_x (v := (.int .i64 (w64 (t_10 + 1)))) hF hS (ex_move rfl) rfl rfl fun a hF => ?_
              refine q_end ?_
              obtain rfl := someI hb4
              exact ⟨rfl, q28, s28, q30, s30, _, _, _, rfl, hF.sub ⟨rfl, rfl, rfl, rfl, rfl, rfl, trivial⟩, hS, h28, h30⟩
      · rintro e a w ⟨q32, s32, rfl, hF, hS, h32⟩
        refine x_ib (n_sq ?_)
        refine q_seq ?_
        refine q_region ?_
        refine q_x (v := s32.v) hF hS (ex_move rfl) rfl rfl fun a hF => ?_
        refine q_x (v := s32.v) hF hS (ex_assign rfl) rfl rfl fun a hF => ?_
        refine q_x (v := (.bool true)) hF hS (ex_assign rfl) rfl rfl fun a hF => ?_
        refine q_end (n_sq (q_ret ?_))
        obtain rfl := someI hr
        exact ret_of hF hS rfl (.tmp rfl (.tmp rfl .nil)) ⟨q32, s32, rfl, hS.sel [0] (by decide), h32⟩
    · have hr := cond_t hc3 hr
      refine q_cond_t hF rfl hc3 ?_
      refine q_seq ?_
      refine q_region ?_
      refine q_x (v := nilS.v) hF hS (ex_assign rfl) rfl rfl fun a hF => ?_
      refine q_x (v := (.bool false)) hF hS (ex_assign rfl) rfl rfl fun a hF => ?_
      refine q_end (n_sq (q_ret (r_sq ?_)))
      obtain rfl := someI hr
      exact ret_of hF hS rfl (.tmp rfl (.tmp rfl .nil)) ⟨[], nilS, rfl, hS.sel [1] (by decide), (OwnL.nil (α := Int) m 3)⟩

theorem c_laws_eqIntS (p_a : List Int) (p_b : List Int) (r : Bool) (hr : laws_eqIntS p_a p_b = some r) (w0 : World) (m : Mem) (hv : Vis m w0) (s1 : Sl) (h1 : Rd m s1 p_a) (s2 : Sl) (h2 : Rd m s2 p_b) :
    Ret Try.prog 41 [s1.v, s2.v] w0 (fun v _ => v = (.bool r)) := by
  unfold laws_eqIntS at hr
  refine ret_start Try.func41 rfl 26 rfl rfl m hv fun a hF hS => ?_
  refine q_seq ?_
  refine q_region ?_
  refine q_x (v := (.bool false)) hF hS (ex_assign rfl) rfl rfl fun a hF => ?_
  refine q_end (n_sq ?_)
  refine q_seq ?_
  refine q_seq ?_
  refine q_region ?_
  refine q_x (v := s1.v) hF hS (ex_move rfl) rfl rfl fun a hF => ?_
  refine q_x (v := (.int .i64 (goLen p_a))) hF hS (ex_len Try.underlying50 rfl h1.len) rfl rfl fun a hF => ?_
  refine q_x (v := s2.v) hF hS (ex_move rfl) rfl rfl fun a hF => ?_
  refine q_x (v := (.int .i64 (goLen p_b))) hF hS (ex_len Try.underlying50 rfl h2.len) rfl rfl fun a hF => ?_
  refine q_x (v := (.bool ((goLen p_a) != (goLen p_b)))) hF hS (ex_ibin rfl rfl rfl) rfl rfl fun a hF => ?_
  refine q_end (n_sq ?_)
  rcases hc1 : ((goLen p_a) != (goLen p_b)) with _ | _
  · have hr := cond_f hc1 hr
    refine q_cond_f hF rfl hc1 ?_
    refine q_skipc (n_sq ?_)
    refine q_seq ?_
    refine q_seq ?_
    refine q_region ?_
    refine q_x (v := (.int .i64 0)) hF hS (ex_assign rfl) rfl rfl fun a hF => ?_
    refine q_end (n_sq ?_)
    refine q_block ?_
    obtain ⟨o2, hl2, hr⟩ := bindS hr
    refine q_loop (fun (i_3 : Int) a w => Fr a 26 [(0, s1.v), (1, s2.v), (5, (.int .i64 i_3))] ∧ St [] w0 w m []) (fun (o : (Unit) ⊕ (Bool)) e a w => o = .inl () ∧ e = .exit 0 ∧ Fr a 26 [] ∧ St [] w0 w m []) hl2 ⟨hF.sub ⟨rfl, rfl, rfl, trivial⟩, hS⟩ ?_ ?_
    · clear hF hS
      rintro i_3 a w st ⟨hF, hS⟩ hb2
      unfold laws_eqIntS_l1 at hb2
      refine q_seq ?_
      refine q_seq ?_
      refine q_region ?_
      refine q_x (v := (.int .i64 i_3)) hF hS (ex_move rfl) rfl rfl fun a hF => ?_
      refine q_x (v := s1.v) hF hS (ex_move rfl) rfl rfl fun a hF => ?_
      refine q_x (v := (.int .i64 (goLen p_a))) hF hS (ex_len Try.underlying50 rfl h1.len) rfl rfl fun a hF => ?_
      refine q_x (v := (.bool (decide (i_3 < (goLen p_a))))) hF hS (ex_ibin rfl rfl rfl) rfl rfl fun a hF => ?_
      refine q_end (n_sq ?_)
      rcases hc3 : (decide (i_3 < (goLen p_a))) with _ | _
      · have hb2 := cond_f hc3 hb2
        refine q_cond_f hF rfl hc3 ?_
        refine q_exit (x_sq ?_)
        obtain rfl := someI hb2
        exact ⟨nofun, .inl ⟨rfl, rfl, hF.sub trivial, hS⟩⟩
      · have hb2 := cond_t hc3 hb2
        refine q_cond_t hF rfl hc3 ?_
        refine q_skipc (n_sq ?_)
        refine q_seq ?_
        refine q_block ?_
        refine q_seq ?_
        refine e_region [] mixed fun w' hw' => ?_
        have hS := hS.below hw'
        refine e_p (v := s1.v) 0 hF rfl (ex_move rfl) rfl rfl (by kernel_rfl) (by kernel_rfl) (by kernel_rfl) fun a hF => ?_
        refine e_p (v := (.int .i64 i_3)) 1 hF rfl (ex_move rfl) rfl rfl (by kernel_rfl) (by kernel_rfl) (by kernel_rfl) fun a hF => ?_
        obtain ⟨e_4, he_4, hb2⟩ := bindS hb2
        obtain ⟨vs5, at5, d5⟩ := h1.at he_4 1 rfl
        obtain rfl : vs5 = [(.int .i64 e_4)] := d5
        refine e_p (v := (elP s1 (i_3.toNat * 1))) 2 hF rfl (ex_indexAddr Try.underlying50 sz3 rfl rfl (h1.idx he_4)) rfl rfl (by kernel_rfl) (by kernel_rfl) (by kernel_rfl) fun a hF => ?_
        refine e_x (v := (.int .i64 e_4)) 3 hF hS rfl (ex_loadE1 0 Try.underlying3 rfl rfl ((at5).at) rfl rfl) rfl rfl (by kernel_rfl) (by kernel_rfl) (by kernel_rfl) (by kernel_rfl) fun a hF => ?_
        refine e_p (v := s2.v) 4 hF rfl (ex_move rfl) rfl rfl (by kernel_rfl) (by kernel_rfl) (by kernel_rfl) fun a hF => ?_
        refine e_p (v := (.int .i64 i_3)) 5 hF rfl (ex_move rfl) rfl rfl (by kernel_rfl) (by kernel_rfl) (by kernel_rfl) fun a hF => ?_
        obtain ⟨e_6, he_6, hb2⟩ := bindS hb2
        obtain ⟨vs7, at7, d7⟩ := h2.at he_6 1 rfl
        obtain rfl : vs7 = [(.int .i64 e_6)] := d7
        refine e_p (v := (elP s2 (i_3.toNat * 1))) 6 hF rfl (ex_indexAddr Try.underlying50 sz3 rfl rfl (h2.idx he_6)) rfl rfl (by kernel_rfl) (by kernel_rfl) (by kernel_rfl) fun a hF => ?_
        refine e_x (v := (.int .i64 e_6)) 7 hF hS rfl (ex_loadE1 0 Try.underlying3 rfl rfl ((at7).at) rfl rfl) rfl rfl (by kernel_rfl) (by kernel_rfl) (by kernel_rfl) (by kernel_rfl) fun a hF => ?_
        refine e_p (v := (.bool (e_4 != e_6))) 8 hF rfl (ex_ibin rfl rfl rfl) rfl rfl (by kernel_rfl) (by kernel_rfl) (by kernel_rfl) fun a hF => ?_
        refine e_end (by kernel_rfl) (n_sq ?_) _
        rcases hc4 : (e_4 != e_6) with _ | _
        · have hb2 := cond_f hc4 hb2
          refine q_cond_f hF rfl hc4 ?_
          refine q_skipc (n_ib (n_sq ?_))
          refine q_region ?_
          refine q_x (v := (.int .i64 i_3)) hF hS (ex_move rfl) rfl rfl fun a hF => ?_
          refine q_x (v := (.int .i64 (w64 (i_3 + 1)))) hF hS (ex_ibin rfl rfl rfl) rfl rfl fun a hF => ?_
          refine q_x (v := (.int .i64 (w64 (i_3 + 1)))) hF hS (ex_assign rfl) rfl rfl fun a hF => ?_
          refine q_end ?_
          obtain rfl := someI hb2
          exact ⟨rfl, hF.sub ⟨rfl, rfl, rfl, trivial⟩, hS⟩
        · have hb2 := cond_t hc4 hb2
          refine q_cond_t hF rfl hc4 ?_
          refine q_seq ?_
          refine q_region ?_
          refine q_x (v := (.bool false)) hF hS (ex_assign rfl) rfl rfl fun a hF => ?_
          refine q_end (n_sq (q_ret (r_ib (r_sq ?_))))
          obtain rfl := someI hb2
          refine ⟨nofun, .inr fun ho => ?_⟩
          subst ho
          refine r_ib (r_sq ?_)
          obtain rfl := someI hr
          exact ret_of hF hS rfl (.tmp rfl .nil) rfl
    · rintro e a w ⟨rfl, rfl, hF, hS⟩
      refine x_ib (n_sq ?_)
      refine q_seq ?_
      refine q_region ?_
      refine q_x (v := (.bool true)) hF hS (ex_assign rfl) rfl rfl fun a hF => ?_
      refine q_end (n_sq (q_ret ?_))
      obtain rfl := someI hr
      exact ret_of hF hS rfl (.tmp rfl .nil) rfl
  · have hr := cond_t hc1 hr
    refine q_cond_t hF rfl hc1 ?_
    refine q_seq ?_
    refine q_region ?_
    refine q_x (v := (.bool false)) hF hS (ex_assign rfl) rfl rfl fun a hF => ?_
    refine q_end (n_sq (q_ret (r_sq ?_)))
    obtain rfl := someI hr
    exact ret_of hF hS rfl (.tmp rfl .nil) rfl

theorem c_laws_eqFrac (p_a : impl_Frac) (p_b : impl_Frac) (r : Bool) (hr : laws_eqFrac p_a p_b = some r) (w0 : World) (m : Mem) (hv : Vis m w0) :
    Ret Try.prog 32 [(.agg #[(.int .i64 p_a.Num), (.int .i64 p_a.Den)]), (.agg #[(.int .i64 p_b.Num), (.int .i64 p_b.Den)])] w0 (fun v _ => v = (.bool r)) := by
  unfold laws_eqFrac at hr
  refine ret_start Try.func32 rfl 15 rfl rfl m hv fun a hF hS => ?_
  refine q_seq ?_
  refine q_region ?_
  refine q_box (cs := [(.int .i64 p_a.Num), (.int .i64 p_a.Den)]) hF hS rfl rfl rfl fun a w b1 hF hS => ?_
  refine q_box (cs := [(.int .i64 p_b.Num), (.int .i64 p_b.Den)]) hF hS rfl rfl rfl fun a w b2 hF hS => ?_
  refine q_x (v := (.bool false)) hF hS (ex_assign rfl) rfl rfl fun a hF => ?_
  refine q_end (n_sq ?_)
  refine q_seq ?_
  refine q_seq ?_
  refine q_region ?_
  refine q_x (v := (.pointer (some ⟨b1, 0, none⟩))) hF hS (ex_fieldAddr Try.underlying26 rfl sz3 rfl rfl) rfl rfl fun a hF => ?_
  refine q_x (v := (.int .i64 p_a.Num)) hF hS (ex_load1 1 0 Try.underlying3 rfl rfl rfl rfl) rfl rfl fun a hF => ?_
  refine q_x (v := (.pointer (some ⟨b2, 0, none⟩))) hF hS (ex_fieldAddr Try.underlying26 rfl sz3 rfl rfl) rfl rfl fun a hF => ?_
  refine q_x (v := (.int .i64 p_b.Num)) hF hS (ex_load1 0 0 Try.underlying3 rfl rfl rfl rfl) rfl rfl fun a hF => ?_
  refine q_x (v := (.bool (p_a.Num != p_b.Num))) hF hS (ex_ibin rfl rfl rfl) rfl rfl fun a hF => ?_
  refine q_end (n_sq ?_)
  rcases hc1 : (p_a.Num != p_b.Num) with _ | _
  · have hr := cond_f hc1 hr
    refine q_cond_f hF rfl hc1 ?_
    refine q_skipc (n_sq ?_)
    refine q_seq ?_
    refine q_seq ?_
    refine q_region ?_
    refine q_x (v := (.pointer (some ⟨b1, 1, none⟩))) hF hS (ex_fieldAddr Try.underlying26 rfl sz3 rfl rfl) rfl rfl fun a hF => ?_
    refine q_x (v := (.int .i64 p_a.Den)) hF hS (ex_load1 1 0 Try.underlying3 rfl rfl rfl rfl) rfl rfl fun a hF => ?_
    refine q_x (v := (.pointer (some ⟨b2, 1, none⟩))) hF hS (ex_fieldAddr Try.underlying26 rfl sz3 rfl rfl) rfl rfl fun a hF => ?_
    refine q_x (v := (.int .i64 p_b.Den)) hF hS (ex_load1 0 0 Try.underlying3 rfl rfl rfl rfl) rfl rfl fun a hF => ?_
    refine q_x (v := (.bool (p_a.Den != p_b.Den))) hF hS (ex_ibin rfl rfl rfl) rfl rfl fun a hF => ?_
    refine q_end (n_sq ?_)
    rcases hc2 : (p_a.Den != p_b.Den) with _ | _
    · have hr := cond_f hc2 hr
      refine q_cond_f hF rfl hc2 ?_
      refine q_skipc (n_sq ?_)
      refine q_seq ?_
      refine q_region ?_
      refine q_x (v := (.bool true)) hF hS (ex_assign rfl) rfl rfl fun a hF => ?_
      refine q_end (n_sq (q_ret ?_))
      obtain rfl := someI hr
      exact ret_of hF hS rfl (.tmp rfl .nil) rfl
    · have hr := cond_t hc2 hr
      refine q_cond_t hF rfl hc2 ?_
      refine q_seq ?_
      refine q_region ?_
      refine q_x (v := (.bool false)) hF hS (ex_assign rfl) rfl rfl fun a hF => ?_
      refine q_end (n_sq (q_ret (r_sq ?_)))
      obtain rfl := someI hr
      exact ret_of hF hS rfl (.tmp rfl .nil) rfl
  · have hr := cond_t hc1 hr
    refine q_cond_t hF rfl hc1 ?_
    refine q_seq ?_
    refine q_region ?_
    refine q_x (v := (.bool false)) hF hS (ex_assign rfl) rfl rfl fun a hF => ?_
    refine q_end (n_sq (q_ret (r_sq ?_)))
    obtain rfl := someI hr
    exact ret_of hF hS rfl (.tmp rfl .nil) rfl

theorem c_laws_eqLoss (p_a : impl_Loss) (p_b : impl_Loss) (r : Bool) (hr : laws_eqLoss p_a p_b = some r) (w0 : World) (m : Mem) (hv : Vis m w0) :
    Ret Try.prog 21 [(.agg #[(.int .i64 p_a.Ratio.Num), (.int .i64 p_a.Ratio.Den), (.int .i64 p_a.Rho.Num), (.int .i64 p_a.Rho.Den)]), (.agg #[(.int .i64 p_b.Ratio.Num), (.int .i64 p_b.Ratio.Den), (.int .i64 p_b.Rho.Num), (.int .i64 p_b.Rho.Den)])] w0 (fun v _ => v = (.bool r)) := by
  unfold laws_eqLoss at hr
  refine ret_start Try.func21 rfl 17 rfl rfl m hv fun a hF hS => ?_
  refine q_seq ?_
  refine q_region ?_
  refine q_box (cs := [(.int .i64 p_a.Ratio.Num), (.int .i64 p_a.Ratio.Den), (.int .i64 p_a.Rho.Num), (.int .i64 p_a.Rho.Den)]) hF hS rfl rfl rfl fun a w b1 hF hS => ?_
  refine q_box (cs := [(.int .i64 p_b.Ratio.Num), (.int .i64 p_b.Ratio.Den), (.int .i64 p_b.Rho.Num), (.int .i64 p_b.Rho.Den)]) hF hS rfl rfl rfl fun a w b2 hF hS => ?_
  refine q_x (v := (.bool false)) hF hS (ex_assign rfl) rfl rfl fun a hF => ?_
  refine q_end (n_sq ?_)
  refine q_seq ?_
  refine q_seq ?_
  refine q_region ?_
  refine q_x (v := (.pointer (some ⟨b1, 0, none⟩))) hF hS (ex_fieldAddr Try.underlying28 rfl sz26 rfl rfl) rfl rfl fun a hF => ?_
  refine q_x (v := (.agg #[(.int .i64 p_a.Ratio.Num), (.int .i64 p_a.Ratio.Den)])) hF hS (ex_loadA (vs := [(.int .i64 p_a.Ratio.Num), (.int .i64 p_a.Ratio.Den)]) 1 0 Try.underlying26 rfl sz26 rfl rfl rfl rfl) rfl rfl fun a hF => ?_
  refine q_x (v := (.pointer (some ⟨b2, 0, none⟩))) hF hS (ex_fieldAddr Try.underlying28 rfl sz26 rfl rfl) rfl rfl fun a hF => ?_
  refine q_x (v := (.agg #[(.int .i64 p_b.Ratio.Num), (.int .i64 p_b.Ratio.Den)])) hF hS (ex_loadA (vs := [(.int .i64 p_b.Ratio.Num), (.int .i64 p_b.Ratio.Den)]) 0 0 Try.underlying26 rfl sz26 rfl rfl rfl rfl) rfl rfl fun a hF => ?_
  obtain ⟨t_3, ht_3, hr⟩ := bindS hr
  refine q_call (vs := [(.agg #[(.int .i64 p_a.Ratio.Num), (.int .i64 p_a.Ratio.Den)]), (.agg #[(.int .i64 p_b.Ratio.Num), (.int .i64 p_b.Ratio.Den)])]) hF hS Try.func32 (by kernel_rfl) rfl rfl rfl (c_laws_eqFrac p_a.Ratio p_b.Ratio t_3 ht_3 _ m hS.vis) ?_
  rintro a w _ rfl hF hS
  refine q_x (v := (.bool (!t_3))) hF hS (ex_not rfl) rfl rfl fun a hF => ?_
  refine q_end (n_sq ?_)
  rcases hc1 : (!t_3) with _ | _
  · have hr := cond_f hc1 hr
    refine q_cond_f hF rfl hc1 ?_
    refine q_skipc (n_sq ?_)
    refine q_seq ?_
    refine q_seq ?_
    refine q_region ?_
    refine q_x (v := (.pointer (some ⟨b1, 2, none⟩))) hF hS (ex_fieldAddr Try.underlying28 rfl sz26 rfl rfl) rfl rfl fun a hF => ?_
    refine q_x (v := (.agg #[(.int .i64 p_a.Rho.Num), (.int .i64 p_a.Rho.Den)])) hF hS (ex_loadA (vs := [(.int .i64 p_a.Rho.Num), (.int .i64 p_a.Rho.Den)]) 1 0 Try.underlying26 rfl sz26 rfl rfl rfl rfl) rfl rfl fun a hF => ?_
    refine q_x (v := (.pointer (some ⟨b2, 2, none⟩))) hF hS (ex_fieldAddr Try.underlying28 rfl sz26 rfl rfl) rfl rfl fun a hF => ?_
    refine q_x (v := (.agg #[(.int .i64 p_b.Rho.Num), (.int .i64 p_b.Rho.Den)])) hF hS (ex_loadA (vs := [(.int .i64 p_b.Rho.Num), (.int .i64 p_b.Rho.Den)]) 0 0 Try.underlying26 rfl sz26 rfl rfl rfl rfl) rfl rfl fun a hF => ?_
    obtain ⟨t_4, ht_4, hr⟩ := bindS hr
    refine q_call (vs := [(.agg #[(.int .i64 p_a.Rho.Num), (.int .i64 p_a.Rho.Den)]), (.agg #[(.int .i64 p_b.Rho.Num), (.int .i64 p_b.Rho.Den)])]) hF hS Try.func32 (by kernel_rfl) rfl rfl rfl (c_laws_eqFrac p_a.Rho p_b.Rho t_4 ht_4 _ m hS.vis) ?_
    rintro a w _ rfl hF hS
    refine q_x (v := (.bool (!t_4))) hF hS (ex_not rfl) rfl rfl fun a hF => ?_
    refine q_end (n_sq ?_)
    rcases hc2 : (!t_4) with _ | _
    · have hr := cond_f hc2 hr
      refine q_cond_f hF rfl hc2 ?_
      refine q_skipc (n_sq ?_)
      refine q_seq ?_
      refine q_region ?_
      refine q_x (v := (.bool true)) hF hS (ex_assign rfl) rfl rfl fun a hF => ?_
      refine q_end (n_sq (q_ret ?_))
      obtain rfl := someI hr
      exact ret_of hF hS rfl (.tmp rfl .nil) rfl
    · have hr := cond_t hc2 hr
      refine q_cond_t hF rfl hc2 ?_
      refine q_seq ?_
      refine q_region ?_
      refine q_x (v := (.bool false)) hF hS (ex_assign rfl) rfl rfl fun a hF => ?_
      refine q_end (n_sq (q_ret (r_sq ?_)))
      obtain rfl := someI hr
      exact ret_of hF hS rfl (.tmp rfl .nil) rfl
  · have hr := cond_t hc1 hr
    refine q_cond_t hF rfl hc1 ?_
    refine q_seq ?_
    refine q_region ?_
    refine q_x (v := (.bool false)) hF hS (ex_assign rfl) rfl rfl fun a hF => ?_
    refine q_end (n_sq (q_ret (r_sq ?_)))
    obtain rfl := someI hr
    exact ret_of hF hS rfl (.tmp rfl .nil) rfl

theorem c_laws_eqEntry (p_a : impl_Entry) (p_b : impl_Entry) (r : Bool) (hr : laws_eqEntry p_a p_b = some r) (w0 : World) (m : Mem) (hv : Vis m w0) :
    Ret Try.prog 132 [(.agg #[(.int .i64 p_a.Scope), (.int .i64 p_a.Loss.Ratio.Num), (.int .i64 p_a.Loss.Ratio.Den), (.int .i64 p_a.Loss.Rho.Num), (.int .i64 p_a.Loss.Rho.Den)]), (.agg #[(.int .i64 p_b.Scope), (.int .i64 p_b.Loss.Ratio.Num), (.int .i64 p_b.Loss.Ratio.Den), (.int .i64 p_b.Loss.Rho.Num), (.int .i64 p_b.Loss.Rho.Den)])] w0 (fun v _ => v = (.bool r)) := by
  unfold laws_eqEntry at hr
  refine ret_start Try.func132 rfl 16 rfl rfl m hv fun a hF hS => ?_
  refine q_seq ?_
  refine q_region ?_
  refine q_box (cs := [(.int .i64 p_a.Scope), (.int .i64 p_a.Loss.Ratio.Num), (.int .i64 p_a.Loss.Ratio.Den), (.int .i64 p_a.Loss.Rho.Num), (.int .i64 p_a.Loss.Rho.Den)]) hF hS rfl rfl rfl fun a w b1 hF hS => ?_
  refine q_box (cs := [(.int .i64 p_b.Scope), (.int .i64 p_b.Loss.Ratio.Num), (.int .i64 p_b.Loss.Ratio.Den), (.int .i64 p_b.Loss.Rho.Num), (.int .i64 p_b.Loss.Rho.Den)]) hF hS rfl rfl rfl fun a w b2 hF hS => ?_
  refine q_x (v := (.bool false)) hF hS (ex_assign rfl) rfl rfl fun a hF => ?_
  refine q_end (n_sq ?_)
  refine q_seq ?_
  refine q_seq ?_
  refine q_region ?_
  refine q_x (v := (.pointer (some ⟨b1, 0, none⟩))) hF hS (ex_fieldAddr Try.underlying116 rfl sz3 rfl rfl) rfl rfl fun a hF => ?_
  refine q_x (v := (.int .i64 p_a.Scope)) hF hS (ex_load1 1 0 Try.underlying3 rfl rfl rfl rfl) rfl rfl fun a hF => ?_
  refine q_x (v := (.pointer (some ⟨b2, 0, none⟩))) hF hS (ex_fieldAddr Try.underlying116 rfl sz3 rfl rfl) rfl rfl fun a hF => ?_
  refine q_x (v := (.int .i64 p_b.Scope)) hF hS (ex_load1 0 0 Try.underlying3 rfl rfl rfl rfl) rfl rfl fun a hF => ?_
  refine q_x (v := (.bool (p_a.Scope != p_b.Scope))) hF hS (ex_ibin rfl rfl rfl) rfl rfl fun a hF => ?_
  refine q_end (n_sq ?_)
  rcases hc1 : (p_a.Scope != p_b.Scope) with _ | _
  · have hr := cond_f hc1 hr
    refine q_cond_f hF rfl hc1 ?_
    refine q_skipc (n_sq ?_)
    refine q_seq ?_
    refine q_seq ?_
    refine q_region ?_
    refine q_x (v := (.pointer (some ⟨b1, 1, none⟩))) hF hS (ex_fieldAddr Try.underlying116 rfl sz28 rfl rfl) rfl rfl fun a hF => ?_
    refine q_x (v := (.agg #[(.int .i64 p_a.Loss.Ratio.Num), (.int .i64 p_a.Loss.Ratio.Den), (.int .i64 p_a.Loss.Rho.Num), (.int .i64 p_a.Loss.Rho.Den)])) hF hS (ex_loadA (vs := [(.int .i64 p_a.Loss.Ratio.Num), (.int .i64 p_a.Loss.Ratio.Den), (.int .i64 p_a.Loss.Rho.Num), (.int .i64 p_a.Loss.Rho.Den)]) 1 0 Try.underlying28 rfl sz28 rfl rfl rfl rfl) rfl rfl fun a hF => ?_
    refine q_x (v := (.pointer (some ⟨b2, 1, none⟩))) hF hS (ex_fieldAddr Try.underlying116 rfl sz28 rfl rfl) rfl rfl fun a hF => ?_
    refine q_x (v := (.agg #[(.int .i64 p_b.Loss.Ratio.Num), (.int .i64 p_b.Loss.Ratio.Den), (.int .i64 p_b.Loss.Rho.Num), (.int .i64 p_b.Loss.Rho.Den)])) hF hS (ex_loadA (vs := [(.int .i64 p_b.Loss.Ratio.Num), (.int .i64 p_b.Loss.Ratio.Den), (.int .i64 p_b.Loss.Rho.Num), (.int .i64 p_b.Loss.Rho.Den)]) 0 0 Try.underlying28 rfl sz28 rfl rfl rfl rfl) rfl rfl fun a hF => ?_
    obtain ⟨t_3, ht_3, hr⟩ := bindS hr
    refine q_call (vs := [(.agg #[(.int .i64 p_a.Loss.Ratio.Num), (.int .i64 p_a.Loss.Ratio.Den), (.int .i64 p_a.Loss.Rho.Num), (.int .i64 p_a.Loss.Rho.Den)]), (.agg #[(.int .i64 p_b.Loss.Ratio.Num), (.int .i64 p_b.Loss.Ratio.Den), (.int .i64 p_b.Loss.Rho.Num), (.int .i64 p_b.Loss.Rho.Den)])]) hF hS Try.func21 (by kernel_rfl) rfl rfl rfl (c_laws_eqLoss p_a.Loss p_b.Loss t_3 ht_3 _ m hS.vis) ?_
    rintro a w _ rfl hF hS
    refine q_x (v := (.bool (!t_3))) hF hS (ex_not rfl) rfl rfl fun a hF => ?_
    refine q_end (n_sq ?_)
    rcases hc2 : (!t_3) with _ | _
    · have hr := cond_f hc2 hr
      refine q_cond_f hF rfl hc2 ?_
      refine q_skipc (n_sq ?_)
      refine q_seq ?_
      refine q_region ?_
      refine q_x (v := (.bool true)) hF hS (ex_assign rfl) rfl rfl fun a hF => ?_
      refine q_end (n_sq (q_ret ?_))
      obtain rfl := someI hr
      exact ret_of hF hS rfl (.tmp rfl .nil) rfl
    · have hr := cond_t hc2 hr
      refine q_cond_t hF rfl hc2 ?_
      refine q_seq ?_
      refine q_region ?_
      refine q_x (v := (.bool false)) hF hS (ex_assign rfl) rfl rfl fun a hF => ?_
      refine q_end (n_sq (q_ret (r_sq ?_)))
      obtain rfl := someI hr
      exact ret_of hF hS rfl (.tmp rfl .nil) rfl
  · have hr := cond_t hc1 hr
    refine q_cond_t hF rfl hc1 ?_
    refine q_seq ?_
    refine q_region ?_
    refine q_x (v := (.bool false)) hF hS (ex_assign rfl) rfl rfl fun a hF => ?_
    refine q_end (n_sq (q_ret (r_sq ?_)))
    obtain rfl := someI hr
    exact ret_of hF hS rfl (.tmp rfl .nil) rfl

theorem c_laws_eqEntryS (p_a : List impl_Entry) (p_b : List impl_Entry) (r : Bool) (hr : laws_eqEntryS p_a p_b = some r) (w0 : World) (m : Mem) (hv : Vis m w0) (s1 : Sl) (h1 : Rd m s1 p_a) (s2 : Sl) (h2 : Rd m s2 p_b) :
    Ret Try.prog 64 [s1.v, s2.v] w0 (fun v _ => v = (.bool r)) := by
  unfold laws_eqEntryS at hr
  refine ret_start Try.func64 rfl 27 rfl rfl m hv fun a hF hS => ?_
  refine q_seq ?_
  refine q_region ?_
  refine q_x (v := (.bool false)) hF hS (ex_assign rfl) rfl rfl fun a hF => ?_
  refine q_end (n_sq ?_)
  refine q_seq ?_
  refine q_seq ?_
  refine q_region ?_
  refine q_x (v := s1.v) hF hS (ex_move rfl) rfl rfl fun a hF => ?_
  refine q_x (v := (.int .i64 (goLen p_a))) hF hS (ex_len Try.underlying81 rfl h1.len) rfl rfl fun a hF => ?_
  refine q_x (v := s2.v) hF hS (ex_move rfl) rfl rfl fun a hF => ?_
  refine q_x (v := (.int .i64 (goLen p_b))) hF hS (ex_len Try.underlying81 rfl h2.len) rfl rfl fun a hF => ?_
  refine q_x (v := (.bool ((goLen p_a) != (goLen p_b)))) hF hS (ex_ibin rfl rfl rfl) rfl rfl fun a hF => ?_
  refine q_end (n_sq ?_)
  rcases hc1 : ((goLen p_a) != (goLen p_b)) with _ | _
  · have hr := cond_f hc1 hr
    refine q_cond_f hF rfl hc1 ?_
    refine q_skipc (n_sq ?_)
    refine q_seq ?_
    refine q_seq ?_
    refine q_region ?_
    refine q_x (v := (.int .i64 0)) hF hS (ex_assign rfl) rfl rfl fun a hF => ?_
    refine q_end (n_sq ?_)
    refine q_block ?_
    obtain ⟨o2, hl2, hr⟩ := bindS hr
    refine q_loop (fun (i_3 : Int) a w => Fr a 27 [(0, s1.v), (1, s2.v), (5, (.int .i64 i_3))] ∧ St [] w0 w m []) (fun (o : (Unit) ⊕ (Bool)) e a w => o = .inl () ∧ e = .exit 0 ∧ Fr a 27 [] ∧ St [] w0 w m []) hl2 ⟨hF.sub ⟨rfl, rfl, rfl, trivial⟩, hS⟩ ?_ ?_
    · clear hF hS
      rintro i_3 a w st ⟨hF, hS⟩ hb2
      unfold laws_eqEntryS_l1 at hb2
      refine q_seq ?_
      refine q_seq ?_
      refine q_region ?_
      refine q_x (v := (.int .i64 i_3)) hF hS (ex_move rfl) rfl rfl fun a hF => ?_
      refine q_x (v := s1.v) hF hS (ex_move rfl) rfl rfl fun a hF => ?_
      refine q_x (v := (.int .i64 (goLen p_a))) hF hS (ex_len Try.underlying81 rfl h1.len) rfl rfl fun a hF => ?_
      refine q_x (v := (.bool (decide (i_3 < (goLen p_a))))) hF hS (ex_ibin rfl rfl rfl) rfl rfl fun a hF => ?_
      refine q_end (n_sq ?_)
      rcases hc3 : (decide (i_3 < (goLen p_a))) with _ | _
      · have hb2 := cond_f hc3 hb2
        refine q_cond_f hF rfl hc3 ?_
        refine q_exit (x_sq ?_)
        obtain rfl := someI hb2
        exact ⟨nofun, .inl ⟨rfl, rfl, hF.sub trivial, hS⟩⟩
      · have hb2 := cond_t hc3 hb2
        refine q_cond_t hF rfl hc3 ?_
        refine q_skipc (n_sq ?_)
        refine q_seq ?_
        refine q_block ?_
        refine q_seq ?_
        refine e_region [] mixed fun w' hw' => ?_
        have hS := hS.below hw'
        refine e_p (v := s1.v) 0 hF rfl (ex_move rfl) rfl rfl (by kernel_rfl) (by kernel_rfl) (by kernel_rfl) fun a hF => ?_
        refine e_p (v := (.int .i64 i_3)) 1 hF rfl (ex_move rfl) rfl rfl (by kernel_rfl) (by kernel_rfl) (by kernel_rfl) fun a hF => ?_
        obtain ⟨e_4, he_4, hb2⟩ := bindS hb2
        obtain ⟨vs5, at5, d5⟩ := h1.at he_4 5 rfl
        obtain rfl : vs5 = [(.int .i64 e_4.Scope), (.int .i64 e_4.Loss.Ratio.Num), (.int .i64 e_4.Loss.Ratio.Den), (.int .i64 e_4.Loss.Rho.Num), (.int .i64 e_4.Loss.Rho.Den)] := d5
        refine e_p (v := (elP s1 (i_3.toNat * 5))) 2 hF rfl (ex_indexAddr Try.underlying81 sz116 rfl rfl (h1.idx he_4)) rfl rfl (by kernel_rfl) (by kernel_rfl) (by kernel_rfl) fun a hF => ?_
        refine e_x (v := (.agg #[(.int .i64 e_4.Scope), (.int .i64 e_4.Loss.Ratio.Num), (.int .i64 e_4.Loss.Ratio.Den), (.int .i64 e_4.Loss.Rho.Num), (.int .i64 e_4.Loss.Rho.Den)])) 3 hF hS rfl (ex_loadEA (us := [(.int .i64 e_4.Scope), (.int .i64 e_4.Loss.Ratio.Num), (.int .i64 e_4.Loss.Ratio.Den), (.int .i64 e_4.Loss.Rho.Num), (.int .i64 e_4.Loss.Rho.Den)]) 0 Try.underlying116 rfl sz116 rfl ((at5).at) rfl rfl rfl) rfl rfl (by kernel_rfl) (by kernel_rfl) (by kernel_rfl) (by kernel_rfl) fun a hF => ?_
        refine e_p (v := s2.v) 4 hF rfl (ex_move rfl) rfl rfl (by kernel_rfl) (by kernel_rfl) (by kernel_rfl) fun a hF => ?_
        refine e_p (v := (.int .i64 i_3)) 5 hF rfl (ex_move rfl) rfl rfl (by kernel_rfl) (by kernel_rfl) (by kernel_rfl) fun a hF => ?_
        obtain ⟨e_6, he_6, hb2⟩ := bindS hb2
        obtain ⟨vs7, at7, d7⟩ := h2.at he_6 5 rfl
        obtain rfl : vs7 = [(.int .i64 e_6.Scope), (.int .i64 e_6.Loss.Ratio.Num), (.int .i64 e_6.Loss.Ratio.Den), (.int .i64 e_6.Loss.Rho.Num), (.int .i64 e_6.Loss.Rho.Den)] := d7
        refine e_p (v := (elP s2 (i_3.toNat * 5))) 6 hF rfl (ex_indexAddr Try.underlying81 sz116 rfl rfl (h2.idx he_6)) rfl rfl (by kernel_rfl) (by kernel_rfl) (by kernel_rfl) fun a hF => ?_
        refine e_x (v := (.agg #[(.int .i64 e_6.Scope), (.int .i64 e_6.Loss.Ratio.Num), (.int .i64 e_6.Loss.Ratio.Den), (.int .i64 e_6.Loss.Rho.Num), (.int .i64 e_6.Loss.Rho.Den)])) 7 hF hS rfl (ex_loadEA (us := [(.int .i64 e_6.Scope), (.int .i64 e_6.Loss.Ratio.Num), (.int .i64 e_6.Loss.Ratio.Den), (.int .i64 e_6.Loss.Rho.Num), (.int .i64 e_6.Loss.Rho.Den)]) 0 Try.underlying116 rfl sz116 rfl ((at7).at) rfl rfl rfl) rfl rfl (by kernel_rfl) (by kernel_rfl) (by kernel_rfl) (by kernel_rfl) fun a hF => ?_
        refine e_one 8 (by kernel_rfl) ?_
        obtain ⟨t_8, ht_8, hb2⟩ := bindS hb2
        refine e_call (vs := [(.agg #[(.int .i64 e_4.Scope), (.int .i64 e_4.Loss.Ratio.Num), (.int .i64 e_4.Loss.Ratio.Den), (.int .i64 e_4.Loss.Rho.Num), (.int .i64 e_4.Loss.Rho.Den)]), (.agg #[(.int .i64 e_6.Scope), (.int .i64 e_6.Loss.Ratio.Num), (.int .i64 e_6.Loss.Ratio.Den), (.int .i64 e_6.Loss.Rho.Num), (.int .i64 e_6.Loss.Rho.Den)])]) hF hS rfl Try.func132 (by kernel_rfl) rfl rfl rfl (c_laws_eqEntry e_4 e_6 t_8 ht_8 _ m hS.vis) ?_
        rintro a w _ rfl hF hS
        refine e_p (v := (.bool (!t_8))) 9 hF rfl (ex_not rfl) rfl rfl (by kernel_rfl) (by kernel_rfl) (by kernel_rfl) fun a hF => ?_
        refine e_end (by kernel_rfl) (n_sq ?_) _
        rcases hc4 : (!t_8) with _ | _
        · have hb2 := cond_f hc4 hb2
          refine q_cond_f hF rfl hc4 ?_
          refine q_skipc (n_ib (n_sq ?_))
          refine q_region ?_
          refine q_x (v := (.int .i64 i_3)) hF hS (ex_move rfl) rfl rfl fun a hF => ?_
          refine q_x (v := (.int .i64 (w64 (i_3 + 1)))) hF hS (ex_ibin rfl rfl rfl) rfl rfl fun a hF => ?_
          refine q_x (v := (.int .i64 (w64 (i_3 + 1)))) hF hS (ex_assign rfl) rfl rfl fun a hF => ?_
          refine q_end ?_
          obtain rfl := someI hb2
          exact ⟨rfl, hF.sub ⟨rfl, rfl, rfl, trivial⟩, hS⟩
        · have hb2 := cond_t hc4 hb2
          refine q_cond_t hF rfl hc4 ?_
          refine q_seq ?_
          refine q_region ?_
          refine q_x (v := (.bool false)) hF hS (ex_assign rfl) rfl rfl fun a hF => ?_
          refine q_end (n_sq (q_ret (r_ib (r_sq ?_))))
          obtain rfl := someI hb2
          refine ⟨nofun, .inr fun ho => ?_⟩
          subst ho
          refine r_ib (r_sq ?_)
          obtain rfl := someI hr
          exact ret_of hF hS rfl (.tmp rfl .nil) rfl
    · rintro e a w ⟨rfl, rfl, hF, hS⟩
      refine x_ib (n_sq ?_)
      refine q_seq ?_
      refine q_region ?_
      refine q_x (v := (.bool true)) hF hS (ex_assign rfl) rfl rfl fun a hF => ?_
      refine q_end (n_sq (q_ret ?_))
      obtain rfl := someI hr
      exact ret_of hF hS rfl (.tmp rfl .nil) rfl
  · have hr := cond_t hc1 hr
    refine q_cond_t hF rfl hc1 ?_
    refine q_seq ?_
    refine q_region ?_
    refine q_x (v := (.bool false)) hF hS (ex_assign rfl) rfl rfl fun a hF => ?_
    refine q_end (n_sq (q_ret (r_sq ?_)))
    obtain rfl := someI hr
    exact ret_of hF hS rfl (.tmp rfl .nil) rfl

theorem c_laws_markEntryS (p_a : List impl_Entry) (p_k : Int) (r : Int × (List impl_Entry)) (hr : laws_markEntryS p_a p_k = some r) (w0 : World) (m : Mem) (s1 : Sl) (q1 : Piece) (h1 : OwnL m 116 q1 s1 p_a) (X : List Nat) (hS : St X w0 w0 m [q1]) :
    RetX Try.prog 67 [s1.v, (.int .i64 p_k)] w0 (fun v w => ∃ (qp0 : Piece), v = (.int .i64 r.1) ∧ St X w0 w m [qp0] ∧ OwnL m 116 qp0 s1 r.2) := by
  unfold laws_markEntryS at hr
  refine ret_startX Try.func67 rfl 56 rfl rfl fun a hF => ?_
  refine q_seq ?_
  refine q_region ?_
  refine q_x (v := (.int .i64 0)) hF hS (ex_assign rfl) rfl rfl fun a hF => ?_
  refine q_end (n_sq ?_)
  refine q_seq ?_
  refine q_seq ?_
  refine q_region ?_
  refine q_x (v := (.int .i64 0)) hF hS (ex_assign rfl) rfl rfl fun a hF => ?_
  refine q_end (n_sq ?_)
  refine q_block ?_
  obtain ⟨o1, hl1, hr⟩ := bindS hr
  refine q_loop (fun (s : (List impl_Entry) × Int × Int) a w => ∃ (q3 : Piece), ∃ a_2, ∃ k_4, ∃ i_5, s = (a_2, k_4, i_5) ∧ Fr a 56 [(0, s1.v), (1, (.int .i64 k_4)), (5, (.int .i64 i_5))] ∧ St X w0 w m [q3] ∧ OwnL m 116 q3 s1 a_2) (fun (o : (List impl_Entry) × Int) e a w => ∃ (q22 : Piece), ∃ a_21, ∃ k_23, o = (a_21, k_23) ∧ e = .exit 0 ∧ Fr a 56 [(1, (.int .i64 k_23))] ∧ St X w0 w m [q22] ∧ OwnL m 116 q22 s1 a_21) hl1 ⟨q1, _, _, _, rfl, hF.sub ⟨rfl, rfl, rfl, trivial⟩, hS, h1⟩ ?_ ?_
  · clear hF hS
    rintro s a w st ⟨q3, a_2, k_4, i_5, rfl, hF, hS, h3⟩ hb1
    unfold laws_markEntryS_l1 at hb1
    refine q_seq ?_
    refine q_seq ?_
    refine q_region ?_
    refine q_x (v := (.int .i64 i_5)) hF hS (ex_move rfl) rfl rfl fun a hF => ?_
    refine q_x (v := s1.v) hF hS (ex_move rfl) rfl rfl fun a hF => ?_
    refine q_x (v := (.int .i64 (goLen a_2))) hF hS (ex_len Try.underlying81 rfl h3.len) rfl rfl fun a hF => ?_
    refine q_x (v := (.bool (decide (i_5 < (goLen a_2))))) hF hS (ex_ibin rfl rfl rfl) rfl rfl fun a hF => ?_
    refine q_end (n_sq ?_)
    rcases hc2 : (decide (i_5 < (goLen a_2))) with _ | _
    · have hb1 := cond_f hc2 hb1
      refine q_cond_f hF rfl hc2 ?_
      refine q_exit (x_sq ?_)
      obtain rfl := someI hb1
      exact ⟨nofun, .inl ⟨q3, _, _, rfl, rfl, hF.sub ⟨rfl, trivial⟩, hS, h3⟩⟩
    · have hb1 := cond_t hc2 hb1
      refine q_cond_t hF rfl hc2 ?_
      refine q_skipc (n_sq ?_)
      refine q_seq ?_
      refine q_block ?_
      refine q_seq ?_
      refine q_region ?_
      refine q_x (v := s1.v) hF hS (ex_move rfl) rfl rfl fun a hF => ?_
      refine q_x (v := (.int .i64 i_5)) hF hS (ex_move rfl) rfl rfl fun a hF => ?_
      refine q_x (v := (.int .i64 k_4)) hF hS (ex_move rfl) rfl rfl fun a hF => ?_
      obtain ⟨e_6, he_6, hb1⟩ := bindS hb1
      obtain ⟨vs7, at7, d7⟩ := h3.at he_6 5 rfl
      obtain rfl : vs7 = [(.int .i64 e_6.Scope), (.int .i64 e_6.Loss.Ratio.Num), (.int .i64 e_6.Loss.Ratio.Den), (.int .i64 e_6.Loss.Rho.Num), (.int .i64 e_6.Loss.Rho.Den)] := d7
      refine q_x (v := (elP s1 (i_5.toNat * 5))) hF hS (ex_indexAddr Try.underlying81 sz116 rfl rfl (h3.idx he_6)) rfl rfl fun a hF => ?_
      refine q_x (v := (elP s1 (i_5.toNat * 5 + 0))) hF hS (ex_fieldAddrE Try.underlying116 rfl sz3 rfl (h3.idx he_6) rfl) rfl rfl fun a hF => ?_
      refine q_do rfl fun _ hK => wp_storeE (e' := (impl_Entry.mk k_4 e_6.Loss)) (us := [(.int .i64 k_4)]) (vs := [(.int .i64 e_6.Scope), (.int .i64 e_6.Loss.Ratio.Num), (.int .i64 e_6.Loss.Ratio.Den), (.int .i64 e_6.Loss.Rho.Num), (.int .i64 e_6.Loss.Rho.Den)]) 0 hF hS h3 sz3 rfl rfl rfl rfl rfl rfl rfl he_6 at7 rfl rfl rfl fun w q8 hS h8 => hK _ _ ?_
      refine q_end (n_sq ?_)
      refine q_seq ?_
      refine q_region ?_
      refine q_x (v := (.int .i64 k_4)) hF hS (ex_move rfl) rfl rfl fun a hF => ?_
      refine q_x (v := (.int .i64 (w64 (k_4 + 1)))) hF hS (ex_ibin rfl rfl rfl) rfl rfl fun a hF => ?_
      refine q_x (v := (.int .i64 (w64 (k_4 + 1)))) hF hS (ex_assign rfl) rfl rfl fun a hF => ?_
      refine q_end (n_sq ?_)
      refine q_seq ?_
      refine q_region ?_
      refine q_x (v := s1.v) hF hS (ex_move rfl) rfl rfl fun a hF => ?_
      refine q_x (v := (.int .i64 i_5)) hF hS (ex_move rfl) rfl rfl fun a hF => ?_
      refine q_x (v := (.int .i64 (w64 (k_4 + 1)))) hF hS (ex_move rfl) rfl rfl fun a hF => ?_
      obtain ⟨e_9, he_9, hb1⟩ := bindS hb1
      obtain ⟨vs10, at10, d10⟩ := h8.at he_9 5 rfl
      obtain rfl : vs10 = [(.int .i64 e_9.Scope), (.int .i64 e_9.Loss.Ratio.Num), (.int .i64 e_9.Loss.Ratio.Den), (.int .i64 e_9.Loss.Rho.Num), (.int .i64 e_9.Loss.Rho.Den)] := d10
      refine q_x (v := (elP s1 (i_5.toNat * 5))) hF hS (ex_indexAddr Try.underlying81 sz116 rfl rfl (h8.idx he_9)) rfl rfl fun a hF => ?_
      refine q_x (v := (elP s1 (i_5.toNat * 5 + 1))) hF hS (ex_fieldAddrE Try.underlying116 rfl sz28 rfl (h8.idx he_9) rfl) rfl rfl fun a hF => ?_
      refine q_x (v := (elP s1 (i_5.toNat * 5 + 1 + 0))) hF hS (ex_fieldAddrE Try.underlying28 rfl sz26 rfl (h8.idx he_9) rfl) rfl rfl fun a hF => ?_
      refine q_x (v := (elP s1 (i_5.toNat * 5 + 1 + 0 + 0))) hF hS (ex_fieldAddrE Try.underlying26 rfl sz3 rfl (h8.idx he_9) rfl) rfl rfl fun a hF => ?_
      refine q_do rfl fun _ hK => wp_storeE (e' := (impl_Entry.mk e_9.Scope (impl_Loss.mk (impl_Frac.mk (w64 (k_4 + 1)) e_9.Loss.Ratio.Den) e_9.Loss.Rho))) (us := [(.int .i64 (w64 (k_4 + 1)))]) (vs := [(.int .i64 e_9.Scope), (.int .i64 e_9.Loss.Ratio.Num), (.int .i64 e_9.Loss.Ratio.Den), (.int .i64 e_9.Loss.Rho.Num), (.int .i64 e_9.Loss.Rho.Den)]) 1 hF hS h8 sz3 rfl rfl rfl rfl rfl rfl rfl he_9 at10 rfl rfl rfl fun w q11 hS h11 => hK _ _ ?_
      refine q_end (n_sq ?_)
      refine q_seq ?_
      refine q_region ?_
      refine q_x (v := (.int .i64 (w64 (k_4 + 1)))) hF hS (ex_move rfl) rfl rfl fun a hF => ?_
      refine q_x (v := (.int .i64 (w64 ((w64 (k_4 + 1)) + 1)))) hF hS (ex_ibin rfl rfl rfl) rfl rfl fun a hF => ?_
      refine q_x (v := (.int .i64 (w64 ((w64 (k_4 + 1)) + 1)))) hF hS (ex_assign rfl) rfl rfl fun a hF => ?_
      refine q_end (n_sq ?_)
      refine q_seq ?_
      refine q_region ?_
      refine q_x (v := s1.v) hF hS (ex_move rfl) rfl rfl fun a hF => ?_
      refine q_x (v := (.int .i64 i_5)) hF hS (ex_move rfl) rfl rfl fun a hF => ?_
      refine q_x (v := (.int .i64 (w64 ((w64 (k_4 + 1)) + 1)))) hF hS (ex_move rfl) rfl rfl fun a hF => ?_
      obtain ⟨e_12, he_12, hb1⟩ := bindS hb1
      obtain ⟨vs13, at13, d13⟩ := h11.at he_12 5 rfl
      obtain rfl : vs13 = [(.int .i64 e_12.Scope), (.int .i64 e_12.Loss.Ratio.Num), (.int .i64 e_12.Loss.Ratio.Den), (.int .i64 e_12.Loss.Rho.Num), (.int .i64 e_12.Loss.Rho.Den)] := d13
      refine q_x (v := (elP s1 (i_5.toNat * 5))) hF hS (ex_indexAddr Try.underlying81 sz116 rfl rfl (h11.idx he_12)) rfl rfl fun a hF => ?_
      refine q_x (v := (elP s1 (i_5.toNat * 5 + 1))) hF hS (ex_fieldAddrE Try.underlying116 rfl sz28 rfl (h11.idx he_12) rfl) rfl rfl fun a hF => ?_
      refine q_x (v := (elP s1 (i_5.toNat * 5 + 1 + 0))) hF hS (ex_fieldAddrE Try.underlying28 rfl sz26 rfl (h11.idx he_12) rfl) rfl rfl fun a hF => ?_
      refine q_x (v := (elP s1 (i_5.toNat * 5 + 1 + 0 + 1))) hF hS (ex_fieldAddrE Try.underlying26 rfl sz3 rfl (h11.idx he_12) rfl) rfl rfl fun a hF => ?_
      refine q_do rfl fun _ hK => wp_storeE (e' := (impl_Entry.mk e_12.Scope (impl_Loss.mk (impl_Frac.mk e_12.Loss.Ratio.Num (w64 ((w64 (k_4 + 1)) + 1))) e_12.Loss.Rho))) (us := [(.int .i64 (w64 ((w64 (k_4 + 1)) + 1)))]) (vs := [(.int .i64 e_12.Scope), (.int .i64 e_12.Loss.Ratio.Num), (.int .i64 e_12.Loss.Ratio.Den), (.int .i64 e_12.Loss.Rho.Num), (.int .i64 e_12.Loss.Rho.Den)]) 2 hF hS h11 sz3 rfl rfl rfl rfl rfl rfl rfl he_12 at13 rfl rfl rfl fun w q14 hS h14 => hK _ _ ?_
      refine q_end (n_sq ?_)
      refine q_seq ?_
      refine q_region ?_
      refine q_x (v := (.int .i64 (w64 ((w64 (k_4 + 1)) + 1)))) hF hS (ex_move rfl) rfl rfl fun a hF => ?_
      refine q_x (v := (.int .i64 (w64 ((w64 ((w64 (k_4 + 1)) + 1)) + 1)))) hF hS (ex_ibin rfl rfl rfl) rfl rfl fun a hF => ?_
      refine q_x (v := (.int .i64 (w64 ((w64 ((w64 (k_4 + 1)) + 1)) + 1)))) hF hS (ex_assign rfl) rfl rfl fun a hF => ?_
      refine q_end (n_sq ?_)
      refine q_seq ?_
      refine q_region ?_
      refine q_x (v := s1.v) hF hS (ex_move rfl) rfl rfl fun a hF => ?_
      refine q_x (v := (.int .i64 i_5)) hF hS (ex_move rfl) rfl rfl fun a hF => ?_
      refine q_x (v := (.int .i64 (w64 ((w64 ((w64 (k_4 + 1)) + 1)) + 1)))) hF hS (ex_move rfl) rfl rfl fun a hF => ?_
      obtain ⟨e_15, he_15, hb1⟩ := bindS hb1
      obtain ⟨vs16, at16, d16⟩ := h14.at he_15 5 rfl
      obtain rfl : vs16 = [(.int .i64 e_15.Scope), (.int .i64 e_15.Loss.Ratio.Num), (.int .i64 e_15.Loss.Ratio.Den), (.int .i64 e_15.Loss.Rho.Num), (.int .i64 e_15.Loss.Rho.Den)] := d16
      refine q_x (v := (elP s1 (i_5.toNat * 5))) hF hS (ex_indexAddr Try.underlying81 sz116 rfl rfl (h14.idx he_15)) rfl rfl fun a hF => ?_
      refine q_x (v := (elP s1 (i_5.toNat * 5 + 1))) hF hS (ex_fieldAddrE Try.underlying116 rfl sz28 rfl (h14.idx he_15) rfl) rfl rfl fun a hF => ?_
      refine q_x (v := (elP s1 (i_5.toNat * 5 + 1 + 2))) hF hS (ex_fieldAddrE Try.underlying28 rfl sz26 rfl (h14.idx he_15) rfl) rfl rfl fun a hF => ?_
      refine q_x (v := (elP s1 (i_5.toNat * 5 + 1 + 2 + 0))) hF hS (ex_fieldAddrE Try.underlying26 rfl sz3 rfl (h14.idx he_15) rfl) rfl rfl fun a hF => ?_
      refine q_do rfl fun _ hK => wp_storeE (e' := (impl_Entry.mk e_15.Scope (impl_Loss.mk e_15.Loss.Ratio (impl_Frac.mk (w64 ((w64 ((w64 (k_4 + 1)) + 1)) + 1)) e_15.Loss.Rho.Den)))) (us := [(.int .i64 (w64 ((w64 ((w64 (k_4 + 1)) + 1)) + 1)))]) (vs := [(.int .i64 e_15.Scope), (.int .i64 e_15.Loss.Ratio.Num), (.int .i64 e_15.Loss.Ratio.Den), (.int .i64 e_15.Loss.Rho.Num), (.int .i64 e_15.Loss.Rho.Den)]) 3 hF hS h14 sz3 rfl rfl rfl rfl rfl rfl rfl he_15 at16 rfl rfl rfl fun w q17 hS h17 => hK _ _ ?_
      refine q_end (n_sq ?_)
      refine q_seq ?_
      refine q_region ?_
      refine q_x (v := (.int .i64 (w64 ((w64 ((w64 (k_4 + 1)) + 1)) + 1)))) hF hS (ex_move rfl) rfl rfl fun a hF => ?_
      refine q_x (v := (.int .i64 (w64 ((w64 ((w64 ((w64 (k_4 + 1)) + 1)) + 1)) + 1)))) hF hS (ex_ibin rfl rfl rfl) rfl rfl fun a hF => ?_
      refine q_x (v := (.int .i64 (w64 ((w64 ((w64 ((w64 (k_4 + 1)) + 1)) + 1)) + 1)))) hF hS (ex_assign rfl) rfl rfl fun a hF => ?_
      refine q_end (n_sq ?_)
      refine q_seq ?_
      refine q_region ?_
      refine q_x (v := s1.v) hF hS (ex_move rfl) rfl rfl fun a hF => ?_
      refine q_x (v := (.int .i64 i_5)) hF hS (ex_move rfl) rfl rfl fun a hF => ?_
      refine q_x (v := (.int .i64 (w64 ((w64 ((w64 ((w64 (k_4 + 1)) + 1)) + 1)) + 1)))) hF hS (ex_move rfl) rfl rfl fun a hF => ?_
      obtain ⟨e_18, he_18, hb1⟩ := bindS hb1
      obtain ⟨vs19, at19, d19⟩ := h17.at he_18 5 rfl
      obtain rfl : vs19 = [(.int .i64 e_18.Scope), (.int .i64 e_18.Loss.Ratio.Num), (.int .i64 e_18.Loss.Ratio.Den), (.int .i64 e_18.Loss.Rho.Num), (.int .i64 e_18.Loss.Rho.Den)] := d19
      refine q_x (v := (elP s1 (i_5.toNat * 5))) hF hS (ex_indexAddr Try.underlying81 sz116 rfl rfl (h17.idx he_18)) rfl rfl fun a hF => ?_
      refine q_x (v := (elP s1 (i_5.toNat * 5 + 1))) hF hS (ex_fieldAddrE Try.underlying116 rfl sz28 rfl (h17.idx he_18) rfl) rfl rfl fun a hF => ?_
      refine q_x (v := (elP s1 (i_5.toNat * 5 + 1 + 2))) hF hS (ex_fieldAddrE Try.underlying28 rfl sz26 rfl (h17.idx he_18) rfl) rfl rfl fun a hF => ?_
      refine q_x (v := (elP s1 (i_5.toNat * 5 + 1 + 2 + 1))) hF hS (ex_fieldAddrE Try.underlying26 rfl sz3 rfl (h17.idx he_18) rfl) rfl rfl fun a hF => ?_
      refine q_do rfl fun _ hK => wp_storeE (e' := (impl_Entry.mk e_18.Scope (impl_Loss.mk e_18.Loss.Ratio (impl_Frac.mk e_18.Loss.Rho.Num (w64 ((w64 ((w64 ((w64 (k_4 + 1)) + 1)) + 1)) + 1)))))) (us := [(.int .i64 (w64 ((w64 ((w64 ((w64 (k_4 + 1)) + 1)) + 1)) + 1)))]) (vs := [(.int .i64 e_18.Scope), (.int .i64 e_18.Loss.Ratio.Num), (.int .i64 e_18.Loss.Ratio.Den), (.int .i64 e_18.Loss.Rho.Num), (.int .i64 e_18.Loss.Rho.Den)]) 4 hF hS h17 sz3 rfl rfl rfl rfl rfl rfl rfl he_18 at19 rfl rfl rfl fun w q20 hS h20 => hK _ _ ?_
      refine q_end (n_sq ?_)
      refine q_region ?_
      refine q_x (v := (.int .i64 (w64 ((w64 ((w64 ((w64 (k_4 + 1)) + 1)) + 1)) + 1)))) hF hS (ex_move rfl) rfl rfl fun a hF => ?_
      refine q_x (v := (.int .i64 (w64 ((w64 ((w64 ((w64 ((w64 (k_4 + 1)) + 1)) + 1)) + 1)) + 1)))) hF hS (ex_ibin rfl rfl rfl) rfl rfl fun a hF => ?_
      refine q_x (v := (.int .i64 (w64 ((w64 ((w64 ((w64 ((w64 (k_4 + 1)) + 1)) + 1)) + 1)) + 1)))) hF hS (ex_assign rfl) rfl rfl fun a hF => ?_
      refine q_end (n_ib (n_sq ?_))
      refine q_region ?_
      refine q_x (v := (.int .i64 i_5)) hF hS (ex_move rfl) rfl rfl fun a hF => ?_
      refine q_x (v := (.int .i64 (w64 (i_5 + 1)))) hF hS (ex_ibin rfl rfl rfl) rfl rfl fun a hF => ?_
      refine q_x (v := (.int .i64 (w64 (i_5 + 1)))) hF hS (ex_assign rfl) rfl rfl fun a hF => ?_
      refine q_end ?_
      obtain rfl := someI hb1
      exact ⟨rfl, q20, _, _, _, rfl, hF.sub ⟨rfl, rfl, rfl, trivial⟩, hS, h20⟩
  · rintro e a w ⟨q22, a_21, k_23, rfl, rfl, hF, hS, h22⟩
    refine x_ib (n_sq ?_)
    refine q_seq ?_
    refine q_region ?_
    refine q_x (v := (.int .i64 k_23)) hF hS (ex_move rfl) rfl rfl fun a hF => ?_
    refine q_x (v := (.int .i64 k_23)) hF hS (ex_assign rfl) rfl rfl fun a hF => ?_
    refine q_end (n_sq (q_ret ?_))
    obtain rfl := someI hr
    exact ret_ofX hF hS rfl (.tmp rfl .nil) ⟨q22, rfl, hS.sel [0] (by decide), h22⟩

theorem c_laws_markIntS (p_a : List Int) (p_k : Int) (r : Int × (List Int)) (hr : laws_markIntS p_a p_k = some r) (w0 : World) (m : Mem) (s1 : Sl) (q1 : Piece) (h1 : OwnL m 3 q1 s1 p_a) (X : List Nat) (hS : St X w0 w0 m [q1]) :
    RetX Try.prog 42 [s1.v, (.int .i64 p_k)] w0 (fun v w => ∃ (qp0 : Piece), v = (.int .i64 r.1) ∧ St X w0 w m [qp0] ∧ OwnL m 3 qp0 s1 r.2) := by
  unfold laws_markIntS at hr
  refine ret_startX Try.func42 rfl 19 rfl rfl fun a hF => ?_
  refine q_seq ?_
  refine q_region ?_
  refine q_x (v := (.int .i64 0)) hF hS (ex_assign rfl) rfl rfl fun a hF => ?_
  refine q_end (n_sq ?_)
  refine q_seq ?_
  refine q_seq ?_
  refine q_region ?_
  refine q_x (v := (.int .i64 0)) hF hS (ex_assign rfl) rfl rfl fun a hF => ?_
  refine q_end (n_sq ?_)
  refine q_block ?_
  obtain ⟨o1, hl1, hr⟩ := bindS hr
  refine q_loop (fun (s : (List Int) × Int × Int) a w => ∃ (q3 : Piece), ∃ a_2, ∃ k_4, ∃ i_5, s = (a_2, k_4, i_5) ∧ Fr a 19 [(0, s1.v), (1, (.int .i64 k_4)), (5, (.int .i64 i_5))] ∧ St X w0 w m [q3] ∧ OwnL m 3 q3 s1 a_2) (fun (o : (List Int) × Int) e a w => ∃ (q10 : Piece), ∃ a_9, ∃ k_11, o = (a_9, k_11) ∧ e = .exit 0 ∧ Fr a 19 [(1, (.int .i64 k_11))] ∧ St X w0 w m [q10] ∧ OwnL m 3 q10 s1 a_9) hl1 ⟨q1, _, _, _, rfl, hF.sub ⟨rfl, rfl, rfl, trivial⟩, hS, h1⟩ ?_ ?_
  · clear hF hS
    rintro s a w st ⟨q3, a_2, k_4, i_5, rfl, hF, hS, h3⟩ hb1
    unfold laws_markIntS_l1 at hb1
    refine q_seq ?_
    refine q_seq ?_
    refine q_region ?_
    refine q_x (v := (.int .i64 i_5)) hF hS (ex_move rfl) rfl rfl fun a hF => ?_
    refine q_x (v := s1.v) hF hS (ex_move rfl) rfl rfl fun a hF => ?_
    refine q_x (v := (.int .i64 (goLen a_2))) hF hS (ex_len Try.underlying50 rfl h3.len) rfl rfl fun a hF => ?_
    refine q_x (v := (.bool (decide (i_5 < (goLen a_2))))) hF hS (ex_ibin rfl rfl rfl) rfl rfl fun a hF => ?_
    refine q_end (n_sq ?_)
    rcases hc2 : (decide (i_5 < (goLen a_2))) with _ | _
    · have hb1 := cond_f hc2 hb1
      refine q_cond_f hF rfl hc2 ?_
      refine q_exit (x_sq ?_)
      obtain rfl := someI hb1
      exact ⟨nofun, .inl ⟨q3, _, _, rfl, rfl, hF.sub ⟨rfl, trivial⟩, hS, h3⟩⟩
    · have hb1 := cond_t hc2 hb1
      refine q_cond_t hF rfl hc2 ?_
      refine q_skipc (n_sq ?_)
      refine q_seq ?_
      refine q_block ?_
      refine q_seq ?_
      refine q_region ?_
      refine q_x (v := s1.v) hF hS (ex_move rfl) rfl rfl fun a hF => ?_
      refine q_x (v := (.int .i64 i_5)) hF hS (ex_move rfl) rfl rfl fun a hF => ?_
      refine q_x (v := (.int .i64 k_4)) hF hS (ex_move rfl) rfl rfl fun a hF => ?_
      obtain ⟨e_6, he_6, hb1⟩ := bindS hb1
      obtain ⟨vs7, at7, d7⟩ := h3.at he_6 1 rfl
      obtain rfl : vs7 = [(.int .i64 e_6)] := d7
      refine q_x (v := (elP s1 (i_5.toNat * 1))) hF hS (ex_indexAddr Try.underlying50 sz3 rfl rfl (h3.idx he_6)) rfl rfl fun a hF => ?_
      refine q_do rfl fun _ hK => wp_storeE (e' := k_4) (us := [(.int .i64 k_4)]) (vs := [(.int .i64 e_6)]) 0 hF hS h3 sz3 rfl rfl rfl rfl rfl rfl rfl he_6 at7 rfl rfl rfl fun w q8 hS h8 => hK _ _ ?_
      refine q_end (n_sq ?_)
      refine q_region ?_
      refine q_x (v := (.int .i64 k_4)) hF hS (ex_move rfl) rfl rfl fun a hF => ?_
      refine q_x (v := (.int .i64 (w64 (k_4 + 1)))) hF hS (ex_ibin rfl rfl rfl) rfl rfl fun a hF => ?_
      refine q_x (v := (.int .i64 (w64 (k_4 + 1)))) hF hS (ex_assign rfl) rfl rfl fun a hF => ?_
      refine q_end (n_ib (n_sq ?_))
      refine q_region ?_
      refine q_x (v := (.int .i64 i_5)) hF hS (ex_move rfl) rfl rfl fun a hF => ?_
      refine q_x (v := (.int .i64 (w64 (i_5 + 1)))) hF hS (ex_ibin rfl rfl rfl) rfl rfl fun a hF => ?_
      refine q_x (v := (.int .i64 (w64 (i_5 + 1)))) hF hS (ex_assign rfl) rfl rfl fun a hF => ?_
      refine q_end ?_
      obtain rfl := someI hb1
      exact ⟨rfl, q8, _, _, _, rfl, hF.sub ⟨rfl, rfl, rfl, trivial⟩, hS, h8⟩
  · rintro e a w ⟨q10, a_9, k_11, rfl, rfl, hF, hS, h10⟩
    refine x_ib (n_sq ?_)
    refine q_seq ?_
    refine q_region ?_
    refine q_x (v := (.int .i64 k_11)) hF hS (ex_move rfl) rfl rfl fun a hF => ?_
    refine q_x (v := (.int .i64 k_11)) hF hS (ex_assign rfl) rfl rfl fun a hF => ?_
    refine q_end (n_sq (q_ret ?_))
    obtain rfl := someI hr
    exact ret_ofX hF hS rfl (.tmp rfl .nil) ⟨q10, rfl, hS.sel [0] (by decide), h10⟩

theorem c_laws_heldIntS (p_a : List Int) (p_k : Int) (r : Int) (hr : laws_heldIntS p_a p_k = some r) (w0 : World) (m : Mem) (hv : Vis m w0) (s1 : Sl) (h1 : Rd m s1 p_a) :
    Ret Try.prog 68 [s1.v, (.int .i64 p_k)] w0 (fun v _ => v = (.int .i64 r)) := by
  unfold laws_heldIntS at hr
  refine ret_start Try.func68 rfl 21 rfl rfl m hv fun a hF hS => ?_
  refine q_seq ?_
  refine q_region ?_
  refine q_x (v := (.int .i64 0)) hF hS (ex_assign rfl) rfl rfl fun a hF => ?_
  refine q_end (n_sq ?_)
  refine q_seq ?_
  refine q_seq ?_
  refine q_region ?_
  refine q_x (v := (.int .i64 0)) hF hS (ex_assign rfl) rfl rfl fun a hF => ?_
  refine q_end (n_sq ?_)
  refine q_block ?_
  obtain ⟨o1, hl1, hr⟩ := bindS hr
  refine q_loop (fun (s : Int × Int) a w => ∃ k_2, ∃ i_3, s = (k_2, i_3) ∧ Fr a 21 [(0, s1.v), (1, (.int .i64 k_2)), (5, (.int .i64 i_3))] ∧ St [] w0 w m []) (fun (o : (Int) ⊕ (Int)) e a w => ∃ k_6, o = .inl k_6 ∧ e = .exit 0 ∧ Fr a 21 [(1, (.int .i64 k_6))] ∧ St [] w0 w m []) hl1 ⟨_, _, rfl, hF.sub ⟨rfl, rfl, rfl, trivial⟩, hS⟩ ?_ ?_
  · clear hF hS
    rintro s a w st ⟨k_2, i_3, rfl, hF, hS⟩ hb1
    unfold laws_heldIntS_l1 at hb1
    refine q_seq ?_
    refine q_seq ?_
    refine q_region ?_
    refine q_x (v := (.int .i64 i_3)) hF hS (ex_move rfl) rfl rfl fun a hF => ?_
    refine q_x (v := s1.v) hF hS (ex_move rfl) rfl rfl fun a hF => ?_
    refine q_x (v := (.int .i64 (goLen p_a))) hF hS (ex_len Try.underlying50 rfl h1.len) rfl rfl fun a hF => ?_
    refine q_x (v := (.bool (decide (i_3 < (goLen p_a))))) hF hS (ex_ibin rfl rfl rfl) rfl rfl fun a hF => ?_
    refine q_end (n_sq ?_)
    rcases hc2 : (decide (i_3 < (goLen p_a))) with _ | _
    · have hb1 := cond_f hc2 hb1
      refine q_cond_f hF rfl hc2 ?_
      refine q_exit (x_sq ?_)
      obtain rfl := someI hb1
      exact ⟨nofun, .inl ⟨_, rfl, rfl, hF.sub ⟨rfl, trivial⟩, hS⟩⟩
    · have hb1 := cond_t hc2 hb1
      refine q_cond_t hF rfl hc2 ?_
      refine q_skipc (n_sq ?_)
      refine q_seq ?_
      refine q_block ?_
      refine q_seq ?_
      refine q_seq ?_
      refine q_region ?_
      refine q_x (v := s1.v) hF hS (ex_move rfl) rfl rfl fun a hF => ?_
      refine q_x (v := (.int .i64 i_3)) hF hS (ex_move rfl) rfl rfl fun a hF => ?_
      obtain ⟨e_4, he_4, hb1⟩ := bindS hb1
      obtain ⟨vs5, at5, d5⟩ := h1.at he_4 1 rfl
      obtain rfl : vs5 = [(.int .i64 e_4)] := d5
      refine q_x (v := (elP s1 (i_3.toNat * 1))) hF hS (ex_indexAddr Try.underlying50 sz3 rfl rfl (h1.idx he_4)) rfl rfl fun a hF => ?_
      refine q_x (v := (.int .i64 e_4)) hF hS (ex_loadE1 0 Try.underlying3 rfl rfl ((at5).at) rfl rfl) rfl rfl fun a hF => ?_
      refine q_x (v := (.int .i64 k_2)) hF hS (ex_move rfl) rfl rfl fun a hF => ?_
      refine q_x (v := (.bool (e_4 != k_2))) hF hS (ex_ibin rfl rfl rfl) rfl rfl fun a hF => ?_
      refine q_end (n_sq ?_)
      rcases hc3 : (e_4 != k_2) with _ | _
      · have hb1 := cond_f hc3 hb1
        refine q_cond_f hF rfl hc3 ?_
        refine q_skipc (n_sq ?_)
        refine q_region ?_
        refine q_x (v := (.int .i64 k_2)) hF hS (ex_move rfl) rfl rfl fun a hF => ?_
        refine q_x (v := (.int .i64 (w64 (k_2 + 1)))) hF hS (ex_ibin rfl rfl rfl) rfl rfl fun a hF => ?_
        refine q_x (v := (.int .i64 (w64 (k_2 + 1)))) hF hS (ex_assign rfl) rfl rfl fun a hF => ?_
        refine q_end (n_ib (n_sq ?_))
        refine q_region ?_
        refine q_x (v := (.int .i64 i_3)) hF hS (ex_move rfl) rfl rfl fun a hF => ?_
        refine q_x (v := (.int .i64 (w64 (i_3 + 1)))) hF hS (ex_ibin rfl rfl rfl) rfl rfl fun a hF => ?_
        refine q_x (v := (.int .i64 (w64 (i_3 + 1)))) hF hS (ex_assign rfl) rfl rfl fun a hF => ?_
        refine q_end ?_
        obtain rfl := someI hb1
        exact ⟨rfl, _, _, rfl, hF.sub ⟨rfl, rfl, rfl, trivial⟩, hS⟩
      · have hb1 := cond_t hc3 hb1
        refine q_cond_t hF rfl hc3 ?_
        refine q_seq ?_
        refine q_region ?_
        refine q_x (v := (.int .i64 (-1))) hF hS (ex_assign rfl) rfl rfl fun a hF => ?_
        refine q_end (n_sq (q_ret (r_sq (r_ib (r_sq ?_)))))
        obtain rfl := someI hb1
        refine ⟨nofun, .inr fun ho => ?_⟩
        subst ho
        refine r_ib (r_sq ?_)
        obtain rfl := someI hr
        exact ret_of hF hS rfl (.tmp rfl .nil) rfl
  · rintro e a w ⟨k_6, rfl, rfl, hF, hS⟩
    refine x_ib (n_sq ?_)
    refine q_seq ?_
    refine q_region ?_
    refine q_x (v := (.int .i64 k_6)) hF hS (ex_move rfl) rfl rfl fun a hF => ?_
    refine q_x (v := (.int .i64 k_6)) hF hS (ex_assign rfl) rfl rfl fun a hF => ?_
    refine q_end (n_sq (q_ret ?_))
    obtain rfl := someI hr
    exact ret_of hF hS rfl (.tmp rfl .nil) rfl

theorem c_laws_FnExactAcceptEntries (p_aBudget : laws_Loss) (p_aL : List laws_Entry) (r : Bool) (hr : laws_FnExactAcceptEntries p_aBudget p_aL = some r) (w0 : World) (m : Mem) (hv : Vis m w0) (s1 : Sl) (h1 : Rd m s1 p_aL) :
    Ret Try.prog 17 [(.agg #[(.int .i64 p_aBudget.Ratio.Num), (.int .i64 p_aBudget.Ratio.Den), (.int .i64 p_aBudget.Rho.Num), (.int .i64 p_aBudget.Rho.Den)]), s1.v] w0 (fun v _ => v = (.bool r)) := by
  unfold laws_FnExactAcceptEntries at hr
  refine ret_start Try.func17 rfl 104 rfl rfl m hv fun a hF hS => ?_
  refine q_seq ?_
  refine q_region ?_
  refine q_box (cs := [(.int .i64 p_aBudget.Ratio.Num), (.int .i64 p_aBudget.Ratio.Den), (.int .i64 p_aBudget.Rho.Num), (.int .i64 p_aBudget.Rho.Den)]) hF hS rfl rfl rfl fun a w b2 hF hS => ?_
  refine q_x (v := (.bool false)) hF hS (ex_assign rfl) rfl rfl fun a hF => ?_
  refine q_end (n_sq ?_)
  refine q_seq ?_
  refine q_region ?_
  refine q_x (v := (.int .i64 1048576)) hF hS (ex_assign rfl) rfl rfl fun a hF => ?_
  refine q_end (n_sq ?_)
  refine q_seq ?_
  refine q_region ?_
  refine q_x (v := s1.v) hF hS (ex_move rfl) rfl rfl fun a hF => ?_
  refine q_x (v := (.int .i64 1048576)) hF hS (ex_move rfl) rfl rfl fun a hF => ?_
  obtain ⟨t_3, ht_3, hr⟩ := bindS hr
  refine q_call (vs := [s1.v, (.int .i64 1048576)]) hF hS Try.func60 (by kernel_rfl) rfl rfl rfl (c_laws_szEntryS p_aL 1048576 t_3 ht_3 _ m hS.vis s1 h1) ?_
  rintro a w _ rfl hF hS
  refine q_x (v := (.int .i64 t_3)) hF hS (ex_assign rfl) rfl rfl fun a hF => ?_
  refine q_end (n_sq ?_)
  refine q_seq ?_
  refine q_seq ?_
  refine q_region ?_
  refine q_x (v := (.int .i64 t_3)) hF hS (ex_move rfl) rfl rfl fun a hF => ?_
  refine q_x (v := (.bool (decide (t_3 < 0)))) hF hS (ex_ibin rfl rfl rfl) rfl rfl fun a hF => ?_
  refine q_end (n_sq ?_)
  rcases hc1 : (decide (t_3 < 0)) with _ | _
  · have hr := cond_f hc1 hr
    refine q_cond_f hF rfl hc1 ?_
    refine q_skipc (n_sq ?_)
    refine q_seq ?_
    refine q_region ?_
    refine q_x (v := (.agg #[(.int .i64 p_aBudget.Ratio.Num), (.int .i64 p_aBudget.Ratio.Den), (.int .i64 p_aBudget.Rho.Num), (.int .i64 p_aBudget.Rho.Den)])) hF hS (ex_loadA (vs := [(.int .i64 p_aBudget.Ratio.Num), (.int .i64 p_aBudget.Ratio.Den), (.int .i64 p_aBudget.Rho.Num), (.int .i64 p_aBudget.Rho.Den)]) 0 0 Try.underlying25 rfl sz25 rfl rfl rfl rfl) rfl rfl fun a hF => ?_
    obtain ⟨t_4, ht_4, hr⟩ := bindS hr
    refine q_call (vs := [(.agg #[(.int .i64 p_aBudget.Ratio.Num), (.int .i64 p_aBudget.Ratio.Den), (.int .i64 p_aBudget.Rho.Num), (.int .i64 p_aBudget.Rho.Den)])]) hF hS Try.func19 (by kernel_rfl) rfl rfl rfl (c_laws_toLoss p_aBudget t_4 ht_4 _ m hS.vis) ?_
    rintro a w _ rfl hF hS
    refine q_x (v := s1.v) hF hS (ex_move rfl) rfl rfl fun a hF => ?_
    obtain ⟨t_5, ht_5, hr⟩ := bindS hr
    refine q_call (vs := [s1.v]) hF hS Try.func62 (by kernel_rfl) rfl rfl rfl (c_laws_toEntryS p_aL t_5 ht_5 _ m hS.vis s1 h1) ?_
    rintro a w _ ⟨q7, s7, rfl, hR6, h7⟩ hF hS2
    have hS : St _ _ _ _ [q7, [⟨b2, [(.int .i64 p_aBudget.Ratio.Num), (.int .i64 p_aBudget.Ratio.Den), (.int .i64 p_aBudget.Rho.Num), (.int .i64 p_aBudget.Rho.Den)], 25⟩]] := hS.joinF hR6
    obtain ⟨m9, hl9, hv9, hz9⟩ := hS.lend
    obtain ⟨t_8, ht_8, hr⟩ := bindS hr
    refine q_call (vs := [(.agg #[(.int .i64 t_4.Ratio.Num), (.int .i64 t_4.Ratio.Den), (.int .i64 t_4.Rho.Num), (.int .i64 t_4.Rho.Den)]), s7.v]) hF hS Try.func65 (by kernel_rfl) rfl rfl rfl (c_spec_AcceptEntries t_4 t_5 t_8 ht_8 _ m9 hv9 s7 (h7.froz hl9 (hz9 0 _ rfl))) ?_
    rintro a w _ ⟨q11, s11, rfl, hR10, h11⟩ hF hS2
    have hS : St _ _ _ _ [q11, q7, [⟨b2, [(.int .i64 p_aBudget.Ratio.Num), (.int .i64 p_aBudget.Ratio.Den), (.int .i64 p_aBudget.Rho.Num), (.int .i64 p_aBudget.Rho.Den)], 25⟩]] := hS.joinF hR10
    have h11 := h11.any m
    refine q_x (v := (.tuple #[s11.v, (.bool t_8.2)])) hF hS (ex_move rfl) rfl rfl fun a hF => ?_
    refine q_x (v := s11.v) hF hS (ex_extract rfl rfl) rfl rfl fun a hF => ?_
    refine q_x (v := (.bool t_8.2)) hF hS (ex_extract rfl rfl) rfl rfl fun a hF => ?_
    refine q_x (v := s11.v) hF hS (ex_assign rfl) rfl rfl fun a hF => ?_
    refine q_x (v := (.bool t_8.2)) hF hS (ex_assign rfl) rfl rfl fun a hF => ?_
    refine q_end (n_sq ?_)
    refine q_seq ?_
    refine q_region ?_
    refine q_x (v := s1.v) hF hS (ex_move rfl) rfl rfl fun a hF => ?_
    obtain ⟨t_12, ht_12, hr⟩ := bindS hr
    refine q_call (vs := [s1.v]) hF hS Try.func62 (by kernel_rfl) rfl rfl rfl (c_laws_toEntryS p_aL t_12 ht_12 _ m hS.vis s1 h1) ?_
    rintro a w _ ⟨q14, s14, rfl, hR13, h14⟩ hF hS2
    have hS : St _ _ _ _ [q14, q11, q7, [⟨b2, [(.int .i64 p_aBudget.Ratio.Num), (.int .i64 p_aBudget.Ratio.Den), (.int .i64 p_aBudget.Rho.Num), (.int .i64 p_aBudget.Rho.Den)], 25⟩]] := hS.joinF hR13
    refine q_x (v := s14.v) hF hS (ex_assign rfl) rfl rfl fun a hF => ?_
    refine q_end (n_sq ?_)
    refine q_seq ?_
    refine q_region ?_
    refine q_x (v := (.agg #[(.int .i64 p_aBudget.Ratio.Num), (.int .i64 p_aBudget.Ratio.Den), (.int .i64 p_aBudget.Rho.Num), (.int .i64 p_aBudget.Rho.Den)])) hF hS (ex_loadA (vs := [(.int .i64 p_aBudget.Ratio.Num), (.int .i64 p_aBudget.Ratio.Den), (.int .i64 p_aBudget.Rho.Num), (.int .i64 p_aBudget.Rho.Den)]) 3 0 Try.underlying25 rfl sz25 rfl rfl rfl rfl) rfl rfl fun a hF => ?_
    obtain ⟨t_15, ht_15, hr⟩ := bindS hr
    refine q_call (vs := [(.agg #[(.int .i64 p_aBudget.Ratio.Num), (.int .i64 p_aBudget.Ratio.Den), (.int .i64 p_aBudget.Rho.Num), (.int .i64 p_aBudget.Rho.Den)])]) hF hS Try.func19 (by kernel_rfl) rfl rfl rfl (c_laws_toLoss p_aBudget t_15 ht_15 _ m hS.vis) ?_
    rintro a w _ rfl hF hS
    refine q_x (v := s14.v) hF hS (ex_move rfl) rfl rfl fun a hF => ?_
    obtain ⟨m17, hl17, hv17, hz17⟩ := hS.lend
    obtain ⟨t_16, ht_16, hr⟩ := bindS hr
    refine q_call (vs := [(.agg #[(.int .i64 t_15.Ratio.Num), (.int .i64 t_15.Ratio.Den), (.int .i64 t_15.Rho.Num), (.int .i64 t_15.Rho.Den)]), s14.v]) hF hS Try.func66 (by kernel_rfl) rfl rfl rfl (c_impl_AcceptEntries t_15 t_12 t_16 ht_16 _ m17 hv17 s14 (h14.froz hl17 (hz17 0 _ rfl))) ?_
    rintro a w _ ⟨q19, s19, rfl, hR18, h19⟩ hF hS2
    have hS : St _ _ _ _ [q19, q14, q11, q7, [⟨b2, [(.int .i64 p_aBudget.Ratio.Num), (.int .i64 p_aBudget.Ratio.Den), (.int .i64 p_aBudget.Rho.Num), (.int .i64 p_aBudget.Rho.Den)], 25⟩]] := hS.joinF hR18
    have h19 := h19.any m
    refine q_x (v := (.tuple #[s19.v, (.bool t_16.2)])) hF hS (ex_move rfl) rfl rfl fun a hF => ?_
    refine q_x (v := s19.v) hF hS (ex_extract rfl rfl) rfl rfl fun a hF => ?_
    refine q_x (v := (.bool t_16.2)) hF hS (ex_extract rfl rfl) rfl rfl fun a hF => ?_
    refine q_x (v := s19.v) hF hS (ex_assign rfl) rfl rfl fun a hF => ?_
    refine q_x (v := (.bool t_16.2)) hF hS (ex_assign rfl) rfl rfl fun a hF => ?_
    refine q_end (n_sq ?_)
    refine q_seq ?_
    refine q_seq ?_
    obtain ⟨t_22, hj2, hr⟩ := bindS hr
    refine q_join (fun a w => Fr a 104 [(1, s1.v), (2, (.pointer (some ⟨b2, 0, none⟩))), (6, s11.v), (7, (.bool t_8.2)), (8, s14.v), (9, s19.v), (10, (.bool t_16.2)), (46, (.bool t_22))] ∧ St [] w0 w m [q11, q14, q19, [⟨b2, [(.int .i64 p_aBudget.Ratio.Num), (.int .i64 p_aBudget.Ratio.Den), (.int .i64 p_aBudget.Rho.Num), (.int .i64 p_aBudget.Rho.Den)], 25⟩]]) ?_ ?_
    · refine q_region ?_
      refine q_x (v := s19.v) hF hS (ex_move rfl) rfl rfl fun a hF => ?_
      refine q_x (v := s11.v) hF hS (ex_move rfl) rfl rfl fun a hF => ?_
      obtain ⟨m21, hl21, hv21, hz21⟩ := hS.lend
      obtain ⟨t_20, ht_20, hj2⟩ := bindS hj2
      refine q_call (vs := [s19.v, s11.v]) hF hS Try.func41 (by kernel_rfl) rfl rfl rfl (c_laws_eqIntS t_16.1 t_8.1 t_20 ht_20 _ m21 hv21 s19 (h19.froz hl21 (hz21 0 _ rfl)) s11 (h11.froz hl21 (hz21 2 _ rfl))) ?_
      rintro a w _ rfl hF hS
      refine q_x (v := (.bool (!t_20))) hF hS (ex_not rfl) rfl rfl fun a hF => ?_
      refine q_x (v := (.bool (!t_20))) hF hS (ex_move rfl) rfl rfl fun a hF => ?_
      rcases hc3 : (!t_20) with _ | _
      · have hj2 := cond_f hc3 hj2
        refine q_xg (v := (.bool t_16.2)) hF hS (ex_move rfl) (wanted_t hF rfl rfl rfl hc3) rfl fun a hF => ?_
        refine q_xg (v := (.bool t_8.2)) hF hS (ex_move rfl) (wanted_t hF rfl rfl rfl hc3) rfl fun a hF => ?_
        refine q_xg (v := (.bool (t_16.2 != t_8.2))) hF hS (ex_bne Try.underlying4 rfl rfl) (wanted_t hF rfl rfl rfl hc3) rfl fun a hF => ?_
        refine q_x (v := (.bool (t_16.2 != t_8.2))) hF hS (ex_pick_f rfl rfl hc3) rfl rfl fun a hF => ?_
        refine q_end (n_jn ?_)
        obtain rfl := someI hj2
        exact ⟨hF.sub ⟨rfl, rfl, rfl, rfl, rfl, rfl, rfl, rfl, trivial⟩, hS.sel [2, 1, 0, 4] (by decide)⟩
      · have hj2 := cond_t hc3 hj2
        refine q_skip hF (wanted_f hF rfl rfl rfl hc3 rfl) rfl fun a hF => ?_
        refine q_skip hF (wanted_f hF rfl rfl rfl hc3 rfl) rfl fun a hF => ?_
        refine q_skip hF (wanted_f hF rfl rfl rfl hc3 rfl) rfl fun a hF => ?_
        refine q_x (v := (.bool true)) hF hS (ex_pick_t rfl rfl hc3) rfl rfl fun a hF => ?_
        refine q_end (n_jn ?_)
        obtain rfl := someI hj2
        exact ⟨hF.sub ⟨rfl, rfl, rfl, rfl, rfl, rfl, rfl, rfl, trivial⟩, hS.sel [2, 1, 0, 4] (by decide)⟩
    · rintro a w ⟨hF, hS⟩
      refine n_sq ?_
      rcases hc4 : (t_22) with _ | _
      · have hr := cond_f hc4 hr
        refine q_cond_f hF rfl hc4 ?_
        refine q_skipc (n_sq ?_)
        refine q_seq ?_
        refine q_seq ?_
        refine q_region ?_
        refine q_x (v := s14.v) hF hS (ex_move rfl) rfl rfl fun a hF => ?_
        refine q_x (v := s1.v) hF hS (ex_move rfl) rfl rfl fun a hF => ?_
        obtain ⟨t_23, ht_23, hr⟩ := bindS hr
        refine q_call (vs := [s1.v]) hF hS Try.func62 (by kernel_rfl) rfl rfl rfl (c_laws_toEntryS p_aL t_23 ht_23 _ m hS.vis s1 h1) ?_
        rintro a w _ ⟨q25, s25, rfl, hR24, h25⟩ hF hS2
        have hS : St _ _ _ _ [q25, q11, q14, q19, [⟨b2, [(.int .i64 p_aBudget.Ratio.Num), (.int .i64 p_aBudget.Ratio.Den), (.int .i64 p_aBudget.Rho.Num), (.int .i64 p_aBudget.Rho.Den)], 25⟩]] := hS.joinF hR24
        obtain ⟨m27, hl27, hv27, hz27⟩ := hS.lend
        obtain ⟨t_26, ht_26, hr⟩ := bindS hr
        refine q_call (vs := [s14.v, s25.v]) hF hS Try.func64 (by kernel_rfl) rfl rfl rfl (c_laws_eqEntryS t_12 t_23 t_26 ht_26 _ m27 hv27 s14 (h14.froz hl27 (hz27 2 _ rfl)) s25 (h25.froz hl27 (hz27 0 _ rfl))) ?_
        rintro a w _ rfl hF hS
        refine q_x (v := (.bool (!t_26))) hF hS (ex_not rfl) rfl rfl fun a hF => ?_
        refine q_end (n_sq ?_)
        rcases hc5 : (!t_26) with _ | _
        · have hr := cond_f hc5 hr
          refine q_cond_f hF rfl hc5 ?_
          refine q_skipc (n_sq ?_)
          refine q_seq ?_
          refine q_region ?_
          refine q_x (v := (.int .i64 1)) hF hS (ex_assign rfl) rfl rfl fun a hF => ?_
          refine q_end (n_sq ?_)
          refine q_seq ?_
          refine q_region ?_
          refine q_x (v := s14.v) hF hS (ex_move rfl) rfl rfl fun a hF => ?_
          refine q_x (v := (.int .i64 1)) hF hS (ex_move rfl) rfl rfl fun a hF => ?_
          have hS : St _ _ _ _ [q14, q25, q11, q19, [⟨b2, [(.int .i64 p_aBudget.Ratio.Num), (.int .i64 p_aBudget.Ratio.Den), (.int .i64 p_aBudget.Rho.Num), (.int .i64 p_aBudget.Rho.Den)], 25⟩]] := hS.sel [2, 0, 1, 3, 4] (by decide)
          have hS28 : St _ _ _ _ ([q14] ++ [q25, q11, q19, [⟨b2, [(.int .i64 p_aBudget.Ratio.Num), (.int .i64 p_aBudget.Ratio.Den), (.int .i64 p_aBudget.Rho.Num), (.int .i64 p_aBudget.Rho.Den)], 25⟩]]) := hS
          have hE28 := hS28.enter
          obtain ⟨t_29, ht_29, hr⟩ := bindS hr
          refine q_do rfl fun _ hK => wp_callX (vs := [s14.v, (.int .i64 1)]) hF Try.func67 (by kernel_rfl) rfl rfl rfl (c_laws_markEntryS t_12 1 t_29 ht_29 _ m s14 q14 h14 _ hE28) fun a w _ hR hF => hK _ _ ?_
          obtain ⟨q30, rfl, hR28, h30⟩ := hR
          have hS : St _ _ _ _ [q30, q25, q11, q19, [⟨b2, [(.int .i64 p_aBudget.Ratio.Num), (.int .i64 p_aBudget.Ratio.Den), (.int .i64 p_aBudget.Rho.Num), (.int .i64 p_aBudget.Rho.Den)], 25⟩]] := hS28.leaveF hR28
          refine q_x (v := (.int .i64 t_29.1)) hF hS (ex_assign rfl) rfl rfl fun a hF => ?_
          refine q_end (n_sq ?_)
          refine q_seq ?_
          refine q_seq ?_
          obtain ⟨t_33, hj6, hr⟩ := bindS hr
          refine q_join (fun a w => Fr a 104 [(1, s1.v), (2, (.pointer (some ⟨b2, 0, none⟩))), (6, s11.v), (7, (.bool t_8.2)), (9, s19.v), (67, (.bool t_33))] ∧ St [] w0 w m [q11, q19, [⟨b2, [(.int .i64 p_aBudget.Ratio.Num), (.int .i64 p_aBudget.Ratio.Den), (.int .i64 p_aBudget.Rho.Num), (.int .i64 p_aBudget.Rho.Den)], 25⟩]]) ?_ ?_
          · refine q_region ?_
            refine q_x (v := (.int .i64 t_29.1)) hF hS (ex_move rfl) rfl rfl fun a hF => ?_
            refine q_x (v := (.bool (decide (t_29.1 < 0)))) hF hS (ex_ibin rfl rfl rfl) rfl rfl fun a hF => ?_
            refine q_x (v := (.bool (decide (t_29.1 < 0)))) hF hS (ex_move rfl) rfl rfl fun a hF => ?_
            rcases hc7 : (decide (t_29.1 < 0)) with _ | _
            · have hj6 := cond_f hc7 hj6
              refine q_xg (v := s19.v) hF hS (ex_move rfl) (wanted_t hF rfl rfl rfl hc7) rfl fun a hF => ?_
              refine q_xg (v := s11.v) hF hS (ex_move rfl) (wanted_t hF rfl rfl rfl hc7) rfl fun a hF => ?_
              obtain ⟨m32, hl32, hv32, hz32⟩ := hS.lend
              obtain ⟨t_31, ht_31, hj6⟩ := bindS hj6
              refine q_callg (vs := [s19.v, s11.v]) hF hS (wanted_t hF rfl rfl rfl hc7) Try.func41 (by kernel_rfl) rfl rfl rfl (c_laws_eqIntS t_16.1 t_8.1 t_31 ht_31 _ m32 hv32 s19 (h19.froz hl32 (hz32 3 _ rfl)) s11 (h11.froz hl32 (hz32 2 _ rfl))) ?_
              rintro a w _ rfl hF hS
              refine q_xg (v := (.bool (!t_31))) hF hS (ex_not rfl) (wanted_t hF rfl rfl rfl hc7) rfl fun a hF => ?_
              refine q_x (v := (.bool (!t_31))) hF hS (ex_pick_f rfl rfl hc7) rfl rfl fun a hF => ?_
              refine q_x (v := (.bool (!t_31))) hF hS (ex_move rfl) rfl rfl fun a hF => ?_
              rcases hc8 : (!t_31) with _ | _
              · have hj6 := cond_f hc8 hj6
                refine q_xg (v := (.bool t_16.2)) hF hS (ex_move rfl) (wanted_t hF rfl rfl rfl hc8) rfl fun a hF => ?_
                refine q_xg (v := (.bool t_8.2)) hF hS (ex_move rfl) (wanted_t hF rfl rfl rfl hc8) rfl fun a hF => ?_
                refine q_xg (v := (.bool (t_16.2 != t_8.2))) hF hS (ex_bne Try.underlying4 rfl rfl) (wanted_t hF rfl rfl rfl hc8) rfl fun a hF => ?_
                refine q_x (v := (.bool (t_16.2 != t_8.2))) hF hS (ex_pick_f rfl rfl hc8) rfl rfl fun a hF => ?_
                refine q_end (n_jn ?_)
                obtain rfl := someI hj6
                exact ⟨hF.sub ⟨rfl, rfl, rfl, rfl, rfl, rfl, trivial⟩, hS.mask [false, false, true, true, true]⟩
              · have hj6 := cond_t hc8 hj6
                refine q_skip hF (wanted_f hF rfl rfl rfl hc8 rfl) rfl fun a hF => ?_
                refine q_skip hF (wanted_f hF rfl rfl rfl hc8 rfl) rfl fun a hF => ?_
                refine q_skip hF (wanted_f hF rfl rfl rfl hc8 rfl) rfl fun a hF => ?_
                refine q_x (v := (.bool true)) hF hS (ex_pick_t rfl rfl hc8) rfl rfl fun a hF => ?_
                refine q_end (n_jn ?_)
                obtain rfl := someI hj6
                exact ⟨hF.sub ⟨rfl, rfl, rfl, rfl, rfl, rfl, trivial⟩, hS.mask [false, false, true, true, true]⟩
            · have hj6 := cond_t hc7 hj6
              refine q_skip hF (wanted_f hF rfl rfl rfl hc7 rfl) rfl fun a hF => ?_
              refine q_skip hF (wanted_f hF rfl rfl rfl hc7 rfl) rfl fun a hF => ?_
              refine q_skip hF (wanted_f hF rfl rfl rfl hc7 rfl) rfl fun a hF => ?_
              refine q_skip hF (wanted_f hF rfl rfl rfl hc7 rfl) rfl fun a hF => ?_
              refine q_x (v := (.bool true)) hF hS (ex_pick_t rfl rfl hc7) rfl rfl fun a hF => ?_
              refine q_x (v := (.bool true)) hF hS (ex_move rfl) rfl rfl fun a hF => ?_
              refine q_skip hF (wanted_f hF rfl rfl rfl rfl rfl) rfl fun a hF => ?_
              refine q_skip hF (wanted_f hF rfl rfl rfl rfl rfl) rfl fun a hF => ?_
              refine q_skip hF (wanted_f hF rfl rfl rfl rfl rfl) rfl fun a hF => ?_
              refine q_x (v := (.bool true)) hF hS (ex_pick_t rfl rfl rfl) rfl rfl fun a hF => ?_
              refine q_end (n_jn ?_)
              obtain rfl := someI hj6
              exact ⟨hF.sub ⟨rfl, rfl, rfl, rfl, rfl, rfl, trivial⟩, hS.mask [false, false, true, true, true]⟩
          · rintro a w ⟨hF, hS⟩
            refine n_sq ?_
            rcases hc9 : (t_33) with _ | _
            · have hr := cond_f hc9 hr
              refine q_cond_f hF rfl hc9 ?_
              refine q_skipc (n_sq ?_)
              refine q_seq ?_
              refine q_region ?_
              refine q_x (v := (.int .i64 1)) hF hS (ex_assign rfl) rfl rfl fun a hF => ?_
              refine q_end (n_sq ?_)
              refine q_seq ?_
              refine q_region ?_
              refine q_x (v := s19.v) hF hS (ex_move rfl) rfl rfl fun a hF => ?_
              refine q_x (v := (.int .i64 1)) hF hS (ex_move rfl) rfl rfl fun a hF => ?_
              have hS : St _ _ _ _ [q19, q11, [⟨b2, [(.int .i64 p_aBudget.Ratio.Num), (.int .i64 p_aBudget.Ratio.Den), (.int .i64 p_aBudget.Rho.Num), (.int .i64 p_aBudget.Rho.Den)], 25⟩]] := hS.sel [1, 0, 2] (by decide)
              have hS34 : St _ _ _ _ ([q19] ++ [q11, [⟨b2, [(.int .i64 p_aBudget.Ratio.Num), (.int .i64 p_aBudget.Ratio.Den), (.int .i64 p_aBudget.Rho.Num), (.int .i64 p_aBudget.Rho.Den)], 25⟩]]) := hS
              have hE34 := hS34.enter
              obtain ⟨t_35, ht_35, hr⟩ := bindS hr
              refine q_do rfl fun _ hK => wp_callX (vs := [s19.v, (.int .i64 1)]) hF Try.func42 (by kernel_rfl) rfl rfl rfl (c_laws_markIntS t_16.1 1 t_35 ht_35 _ m s19 q19 h19 _ hE34) fun a w _ hR hF => hK _ _ ?_
              obtain ⟨q36, rfl, hR34, h36⟩ := hR
              have hS : St _ _ _ _ [q36, q11, [⟨b2, [(.int .i64 p_aBudget.Ratio.Num), (.int .i64 p_aBudget.Ratio.Den), (.int .i64 p_aBudget.Rho.Num), (.int .i64 p_aBudget.Rho.Den)], 25⟩]] := hS34.leaveF hR34
              refine q_x (v := (.int .i64 t_35.1)) hF hS (ex_assign rfl) rfl rfl fun a hF => ?_
              refine q_end (n_sq ?_)
              refine q_seq ?_
              refine q_region ?_
              refine q_x (v := (.int .i64 1)) hF hS (ex_assign rfl) rfl rfl fun a hF => ?_
              refine q_end (n_sq ?_)
              refine q_seq ?_
              refine q_region ?_
              refine q_x (v := s19.v) hF hS (ex_move rfl) rfl rfl fun a hF => ?_
              refine q_x (v := (.int .i64 1)) hF hS (ex_move rfl) rfl rfl fun a hF => ?_
              obtain ⟨m38, hl38, hv38, hz38⟩ := hS.lend
              obtain ⟨t_37, ht_37, hr⟩ := bindS hr
              refine q_call (vs := [s19.v, (.int .i64 1)]) hF hS Try.func68 (by kernel_rfl) rfl rfl rfl (c_laws_heldIntS t_35.2 1 t_37 ht_37 _ m38 hv38 s19 (h36.froz hl38 (hz38 0 _ rfl))) ?_
              rintro a w _ rfl hF hS
              refine q_x (v := (.int .i64 t_37)) hF hS (ex_assign rfl) rfl rfl fun a hF => ?_
              refine q_end (n_sq ?_)
              refine q_seq ?_
              refine q_seq ?_
              refine q_region ?_
              refine q_x (v := (.int .i64 t_37)) hF hS (ex_move rfl) rfl rfl fun a hF => ?_
              refine q_x (v := (.bool (decide (t_37 < 0)))) hF hS (ex_ibin rfl rfl rfl) rfl rfl fun a hF => ?_
              refine q_end (n_sq ?_)
              rcases hc10 : (decide (t_37 < 0)) with _ | _
              · have hr := cond_f hc10 hr
                refine q_cond_f hF rfl hc10 ?_
                refine q_skipc (n_sq ?_)
                refine q_seq ?_
                refine q_seq ?_
                refine q_region ?_
                refine q_x (v := (.int .i64 t_37)) hF hS (ex_move rfl) rfl rfl fun a hF => ?_
                refine q_x (v := (.int .i64 t_35.1)) hF hS (ex_move rfl) rfl rfl fun a hF => ?_
                refine q_x (v := (.bool (t_37 != t_35.1))) hF hS (ex_ibin rfl rfl rfl) rfl rfl fun a hF => ?_
                refine q_end (n_sq ?_)
                rcases hc11 : (t_37 != t_35.1) with _ | _
                · have hr := cond_f hc11 hr
                  refine q_cond_f hF rfl hc11 ?_
                  refine q_skipc (n_sq ?_)
                  refine q_seq ?_
                  refine q_region ?_
                  refine q_x (v := (.agg #[(.int .i64 p_aBudget.Ratio.Num), (.int .i64 p_aBudget.Ratio.Den), (.int .i64 p_aBudget.Rho.Num), (.int .i64 p_aBudget.Rho.Den)])) hF hS (ex_loadA (vs := [(.int .i64 p_aBudget.Ratio.Num), (.int .i64 p_aBudget.Ratio.Den), (.int .i64 p_aBudget.Rho.Num), (.int .i64 p_aBudget.Rho.Den)]) 2 0 Try.underlying25 rfl sz25 rfl rfl rfl rfl) rfl rfl fun a hF => ?_
                  obtain ⟨t_39, ht_39, hr⟩ := bindS hr
                  refine q_call (vs := [(.agg #[(.int .i64 p_aBudget.Ratio.Num), (.int .i64 p_aBudget.Ratio.Den), (.int .i64 p_aBudget.Rho.Num), (.int .i64 p_aBudget.Rho.Den)])]) hF hS Try.func19 (by kernel_rfl) rfl rfl rfl (c_laws_toLoss p_aBudget t_39 ht_39 _ m hS.vis) ?_
                  rintro a w _ rfl hF hS
                  refine q_x (v := s1.v) hF hS (ex_move rfl) rfl rfl fun a hF => ?_
                  obtain ⟨t_40, ht_40, hr⟩ := bindS hr
                  refine q_call (vs := [s1.v]) hF hS Try.func62 (by kernel_rfl) rfl rfl rfl (c_laws_toEntryS p_aL t_40 ht_40 _ m hS.vis s1 h1) ?_
                  rintro a w _ ⟨q42, s42, rfl, hR41, h42⟩ hF hS2
                  have hS : St _ _ _ _ [q42, q36, q11, [⟨b2, [(.int .i64 p_aBudget.Ratio.Num), (.int .i64 p_aBudget.Ratio.Den), (.int .i64 p_aBudget.Rho.Num), (.int .i64 p_aBudget.Rho.Den)], 25⟩]] := hS.joinF hR41
                  obtain ⟨m44, hl44, hv44, hz44⟩ := hS.lend
                  obtain ⟨t_43, ht_43, hr⟩ := bindS hr
                  refine q_call (vs := [(.agg #[(.int .i64 t_39.Ratio.Num), (.int .i64 t_39.Ratio.Den), (.int .i64 t_39.Rho.Num), (.int .i64 t_39.Rho.Den)]), s42.v]) hF hS Try.func66 (by kernel_rfl) rfl rfl rfl (c_impl_AcceptEntries t_39 t_40 t_43 ht_43 _ m44 hv44 s42 (h42.froz hl44 (hz44 0 _ rfl))) ?_
                  rintro a w _ ⟨q46, s46, rfl, hR45, h46⟩ hF hS2
                  have hS : St _ _ _ _ [q46, q42, q36, q11, [⟨b2, [(.int .i64 p_aBudget.Ratio.Num), (.int .i64 p_aBudget.Ratio.Den), (.int .i64 p_aBudget.Rho.Num), (.int .i64 p_aBudget.Rho.Den)], 25⟩]] := hS.joinF hR45
                  have h46 := h46.any m
                  refine q_x (v := (.tuple #[s46.v, (.bool t_43.2)])) hF hS (ex_move rfl) rfl rfl fun a hF => ?_
                  refine q_x (v := s46.v) hF hS (ex_extract rfl rfl) rfl rfl fun a hF => ?_
                  refine q_x (v := (.bool t_43.2)) hF hS (ex_extract rfl rfl) rfl rfl fun a hF => ?_
                  refine q_x (v := s46.v) hF hS (ex_assign rfl) rfl rfl fun a hF => ?_
                  refine q_x (v := (.bool t_43.2)) hF hS (ex_assign rfl) rfl rfl fun a hF => ?_
                  refine q_end (n_sq ?_)
                  refine q_seq ?_
                  refine q_seq ?_
                  obtain ⟨t_49, hj12, hr⟩ := bindS hr
                  refine q_join (fun a w => Fr a 104 [(9, s19.v), (12, (.int .i64 t_35.1)), (95, (.bool t_49))] ∧ St [] w0 w m [q36]) ?_ ?_
                  · refine q_region ?_
                    refine q_x (v := s46.v) hF hS (ex_move rfl) rfl rfl fun a hF => ?_
                    refine q_x (v := s11.v) hF hS (ex_move rfl) rfl rfl fun a hF => ?_
                    obtain ⟨m48, hl48, hv48, hz48⟩ := hS.lend
                    obtain ⟨t_47, ht_47, hj12⟩ := bindS hj12
                    refine q_call (vs := [s46.v, s11.v]) hF hS Try.func41 (by kernel_rfl) rfl rfl rfl (c_laws_eqIntS t_43.1 t_8.1 t_47 ht_47 _ m48 hv48 s46 (h46.froz hl48 (hz48 0 _ rfl)) s11 (h11.froz hl48 (hz48 3 _ rfl))) ?_
                    rintro a w _ rfl hF hS
                    refine q_x (v := (.bool (!t_47))) hF hS (ex_not rfl) rfl rfl fun a hF => ?_
                    refine q_x (v := (.bool (!t_47))) hF hS (ex_move rfl) rfl rfl fun a hF => ?_
                    rcases hc13 : (!t_47) with _ | _
                    · have hj12 := cond_f hc13 hj12
                      refine q_xg (v := (.bool t_43.2)) hF hS (ex_move rfl) (wanted_t hF rfl rfl rfl hc13) rfl fun a hF => ?_
                      refine q_xg (v := (.bool t_8.2)) hF hS (ex_move rfl) (wanted_t hF rfl rfl rfl hc13) rfl fun a hF => ?_
                      refine q_xg (v := (.bool (t_43.2 != t_8.2))) hF hS (ex_bne Try.underlying4 rfl rfl) (wanted_t hF rfl rfl rfl hc13) rfl fun a hF => ?_
                      refine q_x (v := (.bool (t_43.2 != t_8.2))) hF hS (ex_pick_f rfl rfl hc13) rfl rfl fun a hF => ?_
                      refine q_end (n_jn ?_)
                      obtain rfl := someI hj12
                      exact ⟨hF.sub ⟨rfl, rfl, rfl, trivial⟩, hS.mask [false, false, true, false, false]⟩
                    · have hj12 := cond_t hc13 hj12
                      refine q_skip hF (wanted_f hF rfl rfl rfl hc13 rfl) rfl fun a hF => ?_
                      refine q_skip hF (wanted_f hF rfl rfl rfl hc13 rfl) rfl fun a hF => ?_
                      refine q_skip hF (wanted_f hF rfl rfl rfl hc13 rfl) rfl fun a hF => ?_
                      refine q_x (v := (.bool true)) hF hS (ex_pick_t rfl rfl hc13) rfl rfl fun a hF => ?_
                      refine q_end (n_jn ?_)
                      obtain rfl := someI hj12
                      exact ⟨hF.sub ⟨rfl, rfl, rfl, trivial⟩, hS.mask [false, false, true, false, false]⟩
                  · rintro a w ⟨hF, hS⟩
                    refine n_sq ?_
                    rcases hc14 : (t_49) with _ | _
                    · have hr := cond_f hc14 hr
                      refine q_cond_f hF rfl hc14 ?_
                      refine q_skipc (n_sq ?_)
                      refine q_seq ?_
                      refine q_region ?_
                      refine q_x (v := (.int .i64 1)) hF hS (ex_assign rfl) rfl rfl fun a hF => ?_
                      refine q_end (n_sq ?_)
                      refine q_seq ?_
                      refine q_region ?_
                      refine q_x (v := s19.v) hF hS (ex_move rfl) rfl rfl fun a hF => ?_
                      refine q_x (v := (.int .i64 1)) hF hS (ex_move rfl) rfl rfl fun a hF => ?_
                      obtain ⟨m51, hl51, hv51, hz51⟩ := hS.lend
                      obtain ⟨t_50, ht_50, hr⟩ := bindS hr
                      refine q_call (vs := [s19.v, (.int .i64 1)]) hF hS Try.func68 (by kernel_rfl) rfl rfl rfl (c_laws_heldIntS t_35.2 1 t_50 ht_50 _ m51 hv51 s19 (h36.froz hl51 (hz51 0 _ rfl))) ?_
                      rintro a w _ rfl hF hS
                      refine q_x (v := (.int .i64 t_50)) hF hS (ex_assign rfl) rfl rfl fun a hF => ?_
                      refine q_end (n_sq ?_)
                      refine q_seq ?_
                      refine q_seq ?_
                      refine q_region ?_
                      refine q_x (v := (.int .i64 t_50)) hF hS (ex_move rfl) rfl rfl fun a hF => ?_
                      refine q_x (v := (.bool (decide (t_50 < 0)))) hF hS (ex_ibin rfl rfl rfl) rfl rfl fun a hF => ?_
                      refine q_end (n_sq ?_)
                      rcases hc15 : (decide (t_50 < 0)) with _ | _
                      · have hr := cond_f hc15 hr
                        refine q_cond_f hF rfl hc15 ?_
                        refine q_skipc (n_sq ?_)
                        refine q_seq ?_
                        refine q_seq ?_
                        refine q_region ?_
                        refine q_x (v := (.int .i64 t_50)) hF hS (ex_move rfl) rfl rfl fun a hF => ?_
                        refine q_x (v := (.int .i64 t_35.1)) hF hS (ex_move rfl) rfl rfl fun a hF => ?_
                        refine q_x (v := (.bool (t_50 != t_35.1))) hF hS (ex_ibin rfl rfl rfl) rfl rfl fun a hF => ?_
                        refine q_end (n_sq ?_)
                        rcases hc16 : (t_50 != t_35.1) with _ | _
                        · have hr := cond_f hc16 hr
                          refine q_cond_f hF rfl hc16 ?_
                          refine q_skipc (n_sq ?_)
                          refine q_seq ?_
                          refine q_region ?_
                          refine q_x (v := (.bool true)) hF hS (ex_assign rfl) rfl rfl fun a hF => ?_
                          refine q_end (n_sq (q_ret ?_))
                          obtain rfl := someI hr
                          exact ret_of hF hS rfl (.tmp rfl .nil) rfl
                        · have hr := cond_t hc16 hr
                          refine q_cond_t hF rfl hc16 ?_
                          refine q_seq ?_
                          refine q_region ?_
                          refine q_x (v := (.bool false)) hF hS (ex_assign rfl) rfl rfl fun a hF => ?_
                          refine q_end (n_sq (q_ret (r_sq ?_)))
                          obtain rfl := someI hr
                          exact ret_of hF hS rfl (.tmp rfl .nil) rfl
                      · have hr := cond_t hc15 hr
                        refine q_cond_t hF rfl hc15 ?_
                        refine q_seq ?_
                        refine q_region ?_
                        refine q_x (v := (.bool false)) hF hS (ex_assign rfl) rfl rfl fun a hF => ?_
                        refine q_end (n_sq (q_ret (r_sq ?_)))
                        obtain rfl := someI hr
                        exact ret_of hF hS rfl (.tmp rfl .nil) rfl
                    · have hr := cond_t hc14 hr
                      refine q_cond_t hF rfl hc14 ?_
                      refine q_seq ?_
                      refine q_region ?_
                      refine q_x (v := (.bool false)) hF hS (ex_assign rfl) rfl rfl fun a hF => ?_
                      refine q_end (n_sq (q_ret (r_sq ?_)))
                      obtain rfl := someI hr
                      exact ret_of hF hS rfl (.tmp rfl .nil) rfl
                · have hr := cond_t hc11 hr
                  refine q_cond_t hF rfl hc11 ?_
                  refine q_seq ?_
                  refine q_region ?_
                  refine q_x (v := (.bool false)) hF hS (ex_assign rfl) rfl rfl fun a hF => ?_
                  refine q_end (n_sq (q_ret (r_sq ?_)))
                  obtain rfl := someI hr
                  exact ret_of hF hS rfl (.tmp rfl .nil) rfl
              · have hr := cond_t hc10 hr
                refine q_cond_t hF rfl hc10 ?_
                refine q_seq ?_
                refine q_region ?_
                refine q_x (v := (.bool false)) hF hS (ex_assign rfl) rfl rfl fun a hF => ?_
                refine q_end (n_sq (q_ret (r_sq ?_)))
                obtain rfl := someI hr
                exact ret_of hF hS rfl (.tmp rfl .nil) rfl
            · have hr := cond_t hc9 hr
              refine q_cond_t hF rfl hc9 ?_
              refine q_seq ?_
              refine q_region ?_
              refine q_x (v := (.bool false)) hF hS (ex_assign rfl) rfl rfl fun a hF => ?_
              refine q_end (n_sq (q_ret (r_sq ?_)))
              obtain rfl := someI hr
              exact ret_of hF hS rfl (.tmp rfl .nil) rfl
        · have hr := cond_t hc5 hr
          refine q_cond_t hF rfl hc5 ?_
          refine q_seq ?_
          refine q_region ?_
          refine q_x (v := (.bool false)) hF hS (ex_assign rfl) rfl rfl fun a hF => ?_
          refine q_end (n_sq (q_ret (r_sq ?_)))
          obtain rfl := someI hr
          exact ret_of hF hS rfl (.tmp rfl .nil) rfl
      · have hr := cond_t hc4 hr
        refine q_cond_t hF rfl hc4 ?_
        refine q_seq ?_
        refine q_region ?_
        refine q_x (v := (.bool false)) hF hS (ex_assign rfl) rfl rfl fun a hF => ?_
        refine q_end (n_sq (q_ret (r_sq ?_)))
        obtain rfl := someI hr
        exact ret_of hF hS rfl (.tmp rfl .nil) rfl
  · have hr := cond_t hc1 hr
    refine q_cond_t hF rfl hc1 ?_
    refine q_seq ?_
    refine q_region ?_
    refine q_x (v := (.bool true)) hF hS (ex_assign rfl) rfl rfl fun a hF => ?_
    refine q_end (n_sq (q_ret (r_sq ?_)))
    obtain rfl := someI hr
    exact ret_of hF hS rfl (.tmp rfl .nil) rfl

end Go.Proofs.Ytkgmphgbmjbfhaa
