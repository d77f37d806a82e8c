/- The walks of the functions: each returns what its plain function says. -/
import Derived.Test.YtkgmphgbmjbfhaaGWalks1
namespace Go.Proofs.Ytkgmphgbmjbfhaa
open Go.Gx Go.Gx.F Go.RowKit
set_option linter.all false
set_option maxRecDepth 10000


theorem c_impl_clampedMasses (p_a : impl_Frac) (p_lo : Int) (p_hi : Int) (p_x : Int) (r : (List impl_Frac) × Bool) (hr : impl_clampedMasses p_a p_lo p_hi p_x = some r) (w0 : World) (m : Mem) (hv : Vis m w0) :
    Ret Try.prog 126 [(.agg #[(.int .i64 p_a.Num), (.int .i64 p_a.Den)]), (.int .i64 p_lo), (.int .i64 p_hi), (.int .i64 p_x)] w0 (fun v w => ∃ (q0' : Piece) (s0' : Sl), v = (.tuple #[s0'.v, (.bool r.2)]) ∧ St [] w0 w m [q0'] ∧ OwnL m 26 q0' s0' r.1) := by
  unfold impl_clampedMasses at hr
  refine ret_start Try.func126 rfl 74 rfl rfl m hv fun a hF hS => ?_
  refine q_seq ?_
  refine q_region ?_
  refine q_box (cs := [(.int .i64 p_a.Num), (.int .i64 p_a.Den)]) hF hS rfl rfl rfl fun a w b1 hF hS => ?_
  refine q_x (v := nilS.v) hF hS (ex_assign rfl) rfl rfl fun a hF => ?_
  refine q_x (v := (.bool false)) hF hS (ex_assign rfl) rfl rfl fun a hF => ?_
  refine q_end (n_sq ?_)
  refine q_seq ?_
  refine q_seq ?_
  refine q_region ?_
  refine q_x (v := (.int .i64 p_lo)) hF hS (ex_move rfl) rfl rfl fun a hF => ?_
  refine q_x (v := (.int .i64 p_hi)) hF hS (ex_move rfl) rfl rfl fun a hF => ?_
  refine q_x (v := (.bool (p_lo == p_hi))) hF hS (ex_ibin rfl rfl rfl) rfl rfl fun a hF => ?_
  refine q_end (n_sq ?_)
  rcases hc1 : (p_lo == p_hi) with _ | _
  · have hr := cond_f hc1 hr
    refine q_cond_f hF rfl hc1 ?_
    refine q_skipc (n_sq ?_)
    refine q_seq ?_
    refine q_region ?_
    refine q_x (v := (.int .i64 p_hi)) hF hS (ex_move rfl) rfl rfl fun a hF => ?_
    refine q_x (v := (.int .i64 p_lo)) hF hS (ex_move rfl) rfl rfl fun a hF => ?_
    refine q_x (v := (.int .i64 (w64 (p_hi - p_lo)))) hF hS (ex_ibin rfl rfl rfl) rfl rfl fun a hF => ?_
    refine q_x (v := (.int .i64 (w64 ((w64 (p_hi - p_lo)) + 1)))) hF hS (ex_ibin rfl rfl rfl) rfl rfl fun a hF => ?_
    obtain ⟨l_2, hl_2, hr⟩ := bindS hr
    refine q_do rfl fun _ hK => wp_make (z := ((impl_Frac.mk 0 0) : impl_Frac)) hF hS Try.underlying51 inf26 rfl rfl rfl rfl rfl (by decide) hl_2 rfl fun a w q3 s3 hF hS h3 _ => hK _ _ ?_
    refine q_x (v := s3.v) hF hS (ex_assign rfl) rfl rfl fun a hF => ?_
    refine q_end (n_sq ?_)
    refine q_seq ?_
    refine q_seq ?_
    refine q_region ?_
    refine q_x (v := s3.v) hF hS (ex_move rfl) rfl rfl fun a hF => ?_
    refine q_x (v := (.int .i64 (goLen l_2))) hF hS (ex_len Try.underlying51 rfl h3.len) rfl rfl fun a hF => ?_
    refine q_x (v := (.int .i64 0)) hF hS (ex_move rfl) rfl rfl fun a hF => ?_
    refine q_end (n_sq ?_)
    refine q_block ?_
    obtain ⟨o2, hl2, hr⟩ := bindS hr
    refine q_loop (fun (s : (List impl_Frac) × Int) a w => ∃ (q5 : Piece), ∃ out_4, ∃ t_6, s = (out_4, t_6) ∧ Fr a 74 [(1, (.int .i64 p_lo)), (2, (.int .i64 p_hi)), (3, (.int .i64 p_x)), (4, (.pointer (some ⟨b1, 0, none⟩))), (10, s3.v), (25, (.int .i64 (goLen l_2))), (26, (.int .i64 t_6))] ∧ St [] w0 w m [q5, [⟨b1, [(.int .i64 p_a.Num), (.int .i64 p_a.Den)], 26⟩]] ∧ OwnL m 26 q5 s3 out_4) (fun (o : ((List impl_Frac)) ⊕ ((List impl_Frac) × Bool)) e a w => ∃ (q20 : Piece), ∃ out_19, o = .inl out_19 ∧ e = .exit 0 ∧ Fr a 74 [(10, s3.v)] ∧ St [] w0 w m [q20] ∧ OwnL m 26 q20 s3 out_19) hl2 ⟨q3, _, _, rfl, hF.sub ⟨rfl, rfl, rfl, rfl, rfl, rfl, rfl, trivial⟩, hS, h3⟩ ?_ ?_
    · clear hF hS
      rintro s a w st ⟨q5, out_4, t_6, rfl, hF, hS, h5⟩ hb2
      unfold impl_clampedMasses_l1 at hb2
      refine q_seq ?_
      refine q_region ?_
      refine q_x (v := (.bool (decide (t_6 < (goLen l_2))))) hF hS (ex_ibin rfl rfl rfl) rfl rfl fun a hF => ?_
      refine q_end (n_sq ?_)
      refine q_seq ?_
      rcases hc3 : (decide (t_6 < (goLen l_2))) with _ | _
      · have hb2 := cond_f hc3 hb2
        refine q_cond_f hF rfl hc3 ?_
        refine q_exit (x_sq ?_)
        obtain rfl := someI hb2
        exact ⟨nofun, .inl ⟨q5, _, rfl, rfl, hF.sub ⟨rfl, trivial⟩, hS.mask [true, false], h5⟩⟩
      · have hb2 := cond_t hc3 hb2
        refine q_cond_t hF rfl hc3 ?_
        refine q_skipc (n_sq ?_)
        refine q_seq ?_
        refine q_block ?_
        refine q_seq ?_
        refine q_region ?_
        refine q_x (v := (.int .i64 t_6)) hF hS (ex_move rfl) rfl rfl fun a hF => ?_
        refine q_x (v := (.int .i64 t_6)) hF hS (ex_assign rfl) rfl rfl fun a hF => ?_
        refine q_end (n_sq ?_)
        refine q_seq ?_
        refine q_region ?_
        refine q_x (v := (.int .i64 p_lo)) hF hS (ex_move rfl) rfl rfl fun a hF => ?_
        refine q_x (v := (.int .i64 t_6)) hF hS (ex_move rfl) rfl rfl fun a hF => ?_
        refine q_x (v := (.int .i64 (w64 (p_lo + t_6)))) hF hS (ex_ibin rfl rfl rfl) rfl rfl fun a hF => ?_
        refine q_x (v := (.int .i64 (w64 (p_lo + t_6)))) hF hS (ex_assign rfl) rfl rfl fun a hF => ?_
        refine q_end (n_sq ?_)
        refine q_seq ?_
        refine q_region ?_
        refine q_x (v := (.bool false)) hF hS (ex_assign rfl) rfl rfl fun a hF => ?_
        refine q_end (n_sq ?_)
        refine q_seq ?_
        refine q_seq ?_
        obtain ⟨t_7, hj4, hb2⟩ := bindS hb2
        refine q_join (fun a w => Fr a 74 [(1, (.int .i64 p_lo)), (2, (.int .i64 p_hi)), (3, (.int .i64 p_x)), (4, (.pointer (some ⟨b1, 0, none⟩))), (10, s3.v), (11, (.int .i64 t_6)), (12, (.int .i64 (w64 (p_lo + t_6)))), (25, (.int .i64 (goLen l_2))), (26, (.int .i64 t_6)), (39, (.bool t_7))] ∧ St [] w0 w m [q5, [⟨b1, [(.int .i64 p_a.Num), (.int .i64 p_a.Den)], 26⟩]]) ?_ ?_
        · refine q_region ?_
          refine q_x (v := (.int .i64 (w64 (p_lo + t_6)))) hF hS (ex_move rfl) rfl rfl fun a hF => ?_
          refine q_x (v := (.int .i64 p_lo)) hF hS (ex_move rfl) rfl rfl fun a hF => ?_
          refine q_x (v := (.bool ((w64 (p_lo + t_6)) == p_lo))) hF hS (ex_ibin rfl rfl rfl) rfl rfl fun a hF => ?_
          refine q_x (v := (.bool ((w64 (p_lo + t_6)) == p_lo))) hF hS (ex_move rfl) rfl rfl fun a hF => ?_
          rcases hc5 : ((w64 (p_lo + t_6)) == p_lo) with _ | _
          · have hj4 := cond_f hc5 hj4
            refine q_xg (v := (.int .i64 (w64 (p_lo + t_6)))) hF hS (ex_move rfl) (wanted_t hF rfl rfl rfl hc5) rfl fun a hF => ?_
            refine q_xg (v := (.int .i64 p_hi)) hF hS (ex_move rfl) (wanted_t hF rfl rfl rfl hc5) rfl fun a hF => ?_
            refine q_xg (v := (.bool ((w64 (p_lo + t_6)) == p_hi))) hF hS (ex_ibin rfl rfl rfl) (wanted_t hF rfl rfl rfl hc5) rfl fun a hF => ?_
            refine q_x (v := (.bool ((w64 (p_lo + t_6)) == p_hi))) hF hS (ex_pick_f rfl rfl hc5) rfl rfl fun a hF => ?_
            refine q_end (n_jn ?_)
            obtain rfl := someI hj4
            exact ⟨hF.sub ⟨rfl, rfl, rfl, rfl, rfl, rfl, rfl, rfl, rfl, rfl, trivial⟩, hS⟩
          · have hj4 := cond_t hc5 hj4
            refine q_skip hF (wanted_f hF rfl rfl rfl hc5 rfl) rfl fun a hF => ?_
            refine q_skip hF (wanted_f hF rfl rfl rfl hc5 rfl) rfl fun a hF => ?_
            refine q_skip hF (wanted_f hF rfl rfl rfl hc5 rfl) rfl fun a hF => ?_
            refine q_x (v := (.bool true)) hF hS (ex_pick_t rfl rfl hc5) rfl rfl fun a hF => ?_
            refine q_end (n_jn ?_)
            obtain rfl := someI hj4
            exact ⟨hF.sub ⟨rfl, rfl, rfl, rfl, rfl, rfl, rfl, rfl, rfl, rfl, trivial⟩, hS⟩
        · rintro a w ⟨hF, hS⟩
          refine n_sq ?_
          obtain ⟨j6, hj6, hb2⟩ := bindS hb2
          refine q_join (fun a w => ∃ (q17 : Piece), ∃ out_16, ∃ ok_18, j6 = (out_16, ok_18) ∧ Fr a 74 [(1, (.int .i64 p_lo)), (2, (.int .i64 p_hi)), (3, (.int .i64 p_x)), (4, (.pointer (some ⟨b1, 0, none⟩))), (10, s3.v), (13, (.bool ok_18)), (25, (.int .i64 (goLen l_2))), (26, (.int .i64 t_6))] ∧ St [] w0 w m [q17, [⟨b1, [(.int .i64 p_a.Num), (.int .i64 p_a.Den)], 26⟩]] ∧ OwnL m 26 q17 s3 out_16) ?_ ?_
          · rcases hc7 : (t_7) with _ | _
            · have hj6 := cond_f hc7 hj6
              refine q_cond_f hF rfl hc7 ?_
              refine q_region ?_
              refine q_x (v := s3.v) hF hS (ex_move rfl) rfl rfl fun a hF => ?_
              refine q_x (v := (.int .i64 t_6)) hF hS (ex_move rfl) rfl rfl fun a hF => ?_
              refine q_x (v := (.agg #[(.int .i64 p_a.Num), (.int .i64 p_a.Den)])) hF hS (ex_loadA (vs := [(.int .i64 p_a.Num), (.int .i64 p_a.Den)]) 1 0 Try.underlying26 rfl sz26 rfl rfl rfl rfl) rfl rfl fun a hF => ?_
              refine q_x (v := (.int .i64 p_x)) hF hS (ex_move rfl) rfl rfl fun a hF => ?_
              refine q_x (v := (.int .i64 (w64 (p_lo + t_6)))) hF hS (ex_move rfl) rfl rfl fun a hF => ?_
              refine q_x (v := (.int .i64 (w64 (p_x - (w64 (p_lo + t_6)))))) hF hS (ex_ibin rfl rfl rfl) rfl rfl fun a hF => ?_
              refine q_x (v := (.int .i64 (w64 (p_lo + t_6)))) hF hS (ex_move rfl) rfl rfl fun a hF => ?_
              refine q_x (v := (.int .i64 p_x)) hF hS (ex_move rfl) rfl rfl fun a hF => ?_
              refine q_x (v := (.int .i64 (w64 ((w64 (p_lo + t_6)) - p_x)))) hF hS (ex_ibin rfl rfl rfl) rfl rfl fun a hF => ?_
              refine q_x (v := (.int .i64 (max (w64 (p_x - (w64 (p_lo + t_6)))) (w64 ((w64 (p_lo + t_6)) - p_x))))) hF hS (ex_max rfl rfl) rfl rfl fun a hF => ?_
              obtain ⟨t_8, ht_8, hj6⟩ := bindS hj6
              refine q_call (vs := [(.agg #[(.int .i64 p_a.Num), (.int .i64 p_a.Den)]), (.int .i64 (max (w64 (p_x - (w64 (p_lo + t_6)))) (w64 ((w64 (p_lo + t_6)) - p_x))))]) hF hS Try.func89 (by kernel_rfl) rfl rfl rfl (c_impl_geoMass p_a (max (w64 (p_x - (w64 (p_lo + t_6)))) (w64 ((w64 (p_lo + t_6)) - p_x))) t_8 ht_8 _ m hS.vis) ?_
              rintro a w _ rfl hF hS
              refine q_x (v := (.tuple #[(.agg #[(.int .i64 t_8.1.Num), (.int .i64 t_8.1.Den)]), (.bool t_8.2)])) hF hS (ex_move rfl) rfl rfl fun a hF => ?_
              refine q_x (v := (.agg #[(.int .i64 t_8.1.Num), (.int .i64 t_8.1.Den)])) hF hS (ex_extract rfl rfl) rfl rfl fun a hF => ?_
              refine q_x (v := (.bool t_8.2)) hF hS (ex_extract rfl rfl) rfl rfl fun a hF => ?_
              obtain ⟨e_9, he_9, hj6⟩ := bindS hj6
              obtain ⟨vs10, at10, d10⟩ := h5.at he_9 2 rfl
              obtain rfl : vs10 = [(.int .i64 e_9.Num), (.int .i64 e_9.Den)] := d10
              refine q_x (v := (elP s3 (t_6.toNat * 2))) hF hS (ex_indexAddr Try.underlying51 sz26 rfl rfl (h5.idx he_9)) rfl rfl fun a hF => ?_
              refine q_do rfl fun _ hK => wp_storeE (e' := t_8.1) (us := [(.int .i64 t_8.1.Num), (.int .i64 t_8.1.Den)]) (vs := [(.int .i64 e_9.Num), (.int .i64 e_9.Den)]) 0 hF hS h5 sz26 rfl rfl rfl rfl rfl rfl rfl he_9 at10 rfl rfl rfl fun w q11 hS h11 => hK _ _ ?_
              refine q_x (v := (.bool t_8.2)) hF hS (ex_assign rfl) rfl rfl fun a hF => ?_
              refine q_end (n_jn ?_)
              obtain rfl := someI hj6
              exact ⟨q11, _, _, rfl, hF.sub ⟨rfl, rfl, rfl, rfl, rfl, rfl, rfl, rfl, trivial⟩, hS, h11⟩
            · have hj6 := cond_t hc7 hj6
              refine q_cond_t hF rfl hc7 ?_
              refine q_region ?_
              refine q_x (v := s3.v) hF hS (ex_move rfl) rfl rfl fun a hF => ?_
              refine q_x (v := (.int .i64 t_6)) hF hS (ex_move rfl) rfl rfl fun a hF => ?_
              refine q_x (v := (.agg #[(.int .i64 p_a.Num), (.int .i64 p_a.Den)])) hF hS (ex_loadA (vs := [(.int .i64 p_a.Num), (.int .i64 p_a.Den)]) 1 0 Try.underlying26 rfl sz26 rfl rfl rfl rfl) rfl rfl fun a hF => ?_
              refine q_x (v := (.int .i64 p_x)) hF hS (ex_move rfl) rfl rfl fun a hF => ?_
              refine q_x (v := (.int .i64 (w64 (p_lo + t_6)))) hF hS (ex_move rfl) rfl rfl fun a hF => ?_
              refine q_x (v := (.int .i64 (w64 (p_x - (w64 (p_lo + t_6)))))) hF hS (ex_ibin rfl rfl rfl) rfl rfl fun a hF => ?_
              refine q_x (v := (.int .i64 (w64 (p_lo + t_6)))) hF hS (ex_move rfl) rfl rfl fun a hF => ?_
              refine q_x (v := (.int .i64 p_x)) hF hS (ex_move rfl) rfl rfl fun a hF => ?_
              refine q_x (v := (.int .i64 (w64 ((w64 (p_lo + t_6)) - p_x)))) hF hS (ex_ibin rfl rfl rfl) rfl rfl fun a hF => ?_
              refine q_x (v := (.int .i64 (max (w64 (p_x - (w64 (p_lo + t_6)))) (w64 ((w64 (p_lo + t_6)) - p_x))))) hF hS (ex_max rfl rfl) rfl rfl fun a hF => ?_
              obtain ⟨t_12, ht_12, hj6⟩ := bindS hj6
              refine q_call (vs := [(.agg #[(.int .i64 p_a.Num), (.int .i64 p_a.Den)]), (.int .i64 (max (w64 (p_x - (w64 (p_lo + t_6)))) (w64 ((w64 (p_lo + t_6)) - p_x))))]) hF hS Try.func100 (by kernel_rfl) rfl rfl rfl (c_impl_geoTail p_a (max (w64 (p_x - (w64 (p_lo + t_6)))) (w64 ((w64 (p_lo + t_6)) - p_x))) t_12 ht_12 _ m hS.vis) ?_
              rintro a w _ rfl hF hS
              refine q_x (v := (.tuple #[(.agg #[(.int .i64 t_12.1.Num), (.int .i64 t_12.1.Den)]), (.bool t_12.2)])) hF hS (ex_move rfl) rfl rfl fun a hF => ?_
              refine q_x (v := (.agg #[(.int .i64 t_12.1.Num), (.int .i64 t_12.1.Den)])) hF hS (ex_extract rfl rfl) rfl rfl fun a hF => ?_
              refine q_x (v := (.bool t_12.2)) hF hS (ex_extract rfl rfl) rfl rfl fun a hF => ?_
              obtain ⟨e_13, he_13, hj6⟩ := bindS hj6
              obtain ⟨vs14, at14, d14⟩ := h5.at he_13 2 rfl
              obtain rfl : vs14 = [(.int .i64 e_13.Num), (.int .i64 e_13.Den)] := d14
              refine q_x (v := (elP s3 (t_6.toNat * 2))) hF hS (ex_indexAddr Try.underlying51 sz26 rfl rfl (h5.idx he_13)) rfl rfl fun a hF => ?_
              refine q_do rfl fun _ hK => wp_storeE (e' := t_12.1) (us := [(.int .i64 t_12.1.Num), (.int .i64 t_12.1.Den)]) (vs := [(.int .i64 e_13.Num), (.int .i64 e_13.Den)]) 0 hF hS h5 sz26 rfl rfl rfl rfl rfl rfl rfl he_13 at14 rfl rfl rfl fun w q15 hS h15 => hK _ _ ?_
              refine q_x (v := (.bool t_12.2)) hF hS (ex_assign rfl) rfl rfl fun a hF => ?_
              refine q_end (n_jn ?_)
              obtain rfl := someI hj6
              exact ⟨q15, _, _, rfl, hF.sub ⟨rfl, rfl, rfl, rfl, rfl, rfl, rfl, rfl, trivial⟩, hS, h15⟩
          · rintro a w ⟨q17, out_16, ok_18, rfl, hF, hS, h17⟩
            refine n_sq ?_
            refine q_seq ?_
            refine q_region ?_
            refine q_x (v := (.bool ok_18)) hF hS (ex_move rfl) rfl rfl fun a hF => ?_
            refine q_x (v := (.bool (!ok_18))) hF hS (ex_not rfl) rfl rfl fun a hF => ?_
            refine q_end (n_sq ?_)
            rcases hc8 : (!ok_18) with _ | _
            · have hb2 := cond_f hc8 hb2
              refine q_cond_f hF rfl hc8 ?_
              refine q_skipc (n_ib (n_sq ?_))
              refine q_region ?_
              refine q_x (v := (.int .i64 (w64 (t_6 + 1)))) hF hS (ex_ibin rfl rfl rfl) rfl rfl fun a hF => ?_
              refine q_x (v := (.int .i64 (w64 (t_6 + 1)))) hF hS (ex_move rfl) rfl rfl fun a hF => ?_
              refine q_end ?_
              obtain rfl := someI hb2
              exact ⟨rfl, q17, _, _, rfl, hF.sub ⟨rfl, rfl, rfl, rfl, rfl, rfl, rfl, trivial⟩, hS, h17⟩
            · have hb2 := cond_t hc8 hb2
              refine q_cond_t hF rfl hc8 ?_
              refine q_seq ?_
              refine q_region ?_
              refine q_x (v := nilS.v) hF hS (ex_assign rfl) rfl rfl fun a hF => ?_
              refine q_x (v := (.bool false)) hF hS (ex_assign rfl) rfl rfl fun a hF => ?_
              refine q_end (n_sq (q_ret (r_ib (r_sq ?_))))
              obtain rfl := someI hb2
              refine ⟨nofun, .inr fun ho => ?_⟩
              subst ho
              refine r_ib (r_sq ?_)
              obtain rfl := someI hr
              exact ret_of hF hS rfl (.tmp rfl (.tmp rfl .nil)) ⟨[], nilS, rfl, hS.sel [2] (by decide), (OwnL.nil (α := impl_Frac) m 26)⟩
    · rintro e a w ⟨q20, out_19, rfl, rfl, hF, hS, h20⟩
      refine x_ib (n_sq ?_)
      refine q_seq ?_
      refine q_region ?_
      refine q_x (v := s3.v) hF hS (ex_move rfl) rfl rfl fun a hF => ?_
      refine q_x (v := s3.v) hF hS (ex_assign rfl) rfl rfl fun a hF => ?_
      refine q_x (v := (.bool true)) hF hS (ex_assign rfl) rfl rfl fun a hF => ?_
      refine q_end (n_sq (q_ret ?_))
      obtain rfl := someI hr
      exact ret_of hF hS rfl (.tmp rfl (.tmp rfl .nil)) ⟨q20, s3, rfl, hS.sel [0] (by decide), h20⟩
  · have hr := cond_t hc1 hr
    refine q_cond_t hF rfl hc1 ?_
    refine q_seq ?_
    refine q_region ?_
    refine q_x (v := (.agg #[(.int .i64 1), (.int .i64 1)])) hF hS (ex_build (cells := [(.int .i64 1), (.int .i64 1)]) rfl (by kernel_rfl)) rfl rfl fun a hF => ?_
    refine q_do rfl fun _ hK => wp_buildSlice' (l := ([(impl_Frac.mk 1 1)] : List impl_Frac)) (cells := [(.int .i64 1), (.int .i64 1)]) hF hS Try.underlying51 inf26 rfl rfl (by kernel_rfl) rfl rfl rfl ⟨rfl, rfl⟩ rfl rfl fun a w q21 s21 hF hS h21 _ => hK _ _ ?_
    refine q_x (v := s21.v) hF hS (ex_assign rfl) rfl rfl fun a hF => ?_
    refine q_x (v := (.bool true)) hF hS (ex_assign rfl) rfl rfl fun a hF => ?_
    refine q_end (n_sq (q_ret (r_sq ?_)))
    obtain rfl := someI hr
    exact ret_of hF hS rfl (.tmp rfl (.tmp rfl .nil)) ⟨q21, s21, rfl, hS.sel [0] (by decide), h21⟩

theorem c_impl_ClampedMasses (p_a : impl_Frac) (p_lo : Int) (p_hi : Int) (p_x : Int) (r : (List impl_Frac) × Bool) (hr : impl_ClampedMasses p_a p_lo p_hi p_x = some r) (w0 : World) (m : Mem) (hv : Vis m w0) :
    Ret Try.prog 57 [(.agg #[(.int .i64 p_a.Num), (.int .i64 p_a.Den)]), (.int .i64 p_lo), (.int .i64 p_hi), (.int .i64 p_x)] w0 (fun v w => ∃ (q0' : Piece) (s0' : Sl), v = (.tuple #[s0'.v, (.bool r.2)]) ∧ St [] w0 w m [q0'] ∧ OwnL m 26 q0' s0' r.1) := by
  unfold impl_ClampedMasses at hr
  refine ret_start Try.func57 rfl 36 rfl rfl m hv fun a hF hS => ?_
  refine q_seq ?_
  refine q_region ?_
  refine q_box (cs := [(.int .i64 p_a.Num), (.int .i64 p_a.Den)]) hF hS rfl rfl rfl fun a w b1 hF hS => ?_
  refine q_x (v := nilS.v) hF hS (ex_assign rfl) rfl rfl fun a hF => ?_
  refine q_x (v := (.bool false)) hF hS (ex_assign rfl) rfl rfl fun a hF => ?_
  refine q_end (n_sq ?_)
  refine q_seq ?_
  refine q_seq ?_
  obtain ⟨t_4, hj1, hr⟩ := bindS hr
  refine q_join (fun a w => Fr a 36 [(1, (.int .i64 p_lo)), (2, (.int .i64 p_hi)), (3, (.int .i64 p_x)), (4, (.pointer (some ⟨b1, 0, none⟩))), (28, (.bool t_4))] ∧ St [] w0 w m [[⟨b1, [(.int .i64 p_a.Num), (.int .i64 p_a.Den)], 26⟩]]) ?_ ?_
  · refine q_region ?_
    refine q_x (v := (.agg #[(.int .i64 p_a.Num), (.int .i64 p_a.Den)])) hF hS (ex_loadA (vs := [(.int .i64 p_a.Num), (.int .i64 p_a.Den)]) 0 0 Try.underlying26 rfl sz26 rfl rfl rfl rfl) rfl rfl fun a hF => ?_
    obtain ⟨t_2, ht_2, hj1⟩ := bindS hj1
    refine q_call (vs := [(.agg #[(.int .i64 p_a.Num), (.int .i64 p_a.Den)])]) hF hS Try.func88 (by kernel_rfl) rfl rfl rfl (c_impl_isRatio p_a t_2 ht_2 _ m hS.vis) ?_
    rintro a w _ rfl hF hS
    refine q_x (v := (.bool (!t_2))) hF hS (ex_not rfl) rfl rfl fun a hF => ?_
    refine q_x (v := (.bool (!t_2))) hF hS (ex_move rfl) rfl rfl fun a hF => ?_
    rcases hc2 : (!t_2) with _ | _
    · have hj1 := cond_f hc2 hj1
      refine q_xg (v := (.int .i64 p_lo)) hF hS (ex_move rfl) (wanted_t hF rfl rfl rfl hc2) rfl fun a hF => ?_
      refine q_xg (v := (.int .i64 p_hi)) hF hS (ex_move rfl) (wanted_t hF rfl rfl rfl hc2) rfl fun a hF => ?_
      obtain ⟨t_3, ht_3, hj1⟩ := bindS hj1
      refine q_callg (vs := [(.int .i64 p_lo), (.int .i64 p_hi)]) hF hS (wanted_t hF rfl rfl rfl hc2) Try.func125 (by kernel_rfl) rfl rfl rfl (c_impl_isClamp p_lo p_hi t_3 ht_3 _ m hS.vis) ?_
      rintro a w _ rfl hF hS
      refine q_xg (v := (.bool (!t_3))) hF hS (ex_not rfl) (wanted_t hF rfl rfl rfl hc2) rfl fun a hF => ?_
      refine q_x (v := (.bool (!t_3))) hF hS (ex_pick_f rfl rfl hc2) rfl rfl fun a hF => ?_
      refine q_x (v := (.bool (!t_3))) hF hS (ex_move rfl) rfl rfl fun a hF => ?_
      rcases hc3 : (!t_3) with _ | _
      · have hj1 := cond_f hc3 hj1
        refine q_xg (v := (.int .i64 p_x)) hF hS (ex_move rfl) (wanted_t hF rfl rfl rfl hc3) rfl fun a hF => ?_
        refine q_xg (v := (.int .i64 p_lo)) hF hS (ex_move rfl) (wanted_t hF rfl rfl rfl hc3) rfl fun a hF => ?_
        refine q_xg (v := (.bool (decide (p_x < p_lo)))) hF hS (ex_ibin rfl rfl rfl) (wanted_t hF rfl rfl rfl hc3) rfl fun a hF => ?_
        refine q_x (v := (.bool (decide (p_x < p_lo)))) hF hS (ex_pick_f rfl rfl hc3) rfl rfl fun a hF => ?_
        refine q_x (v := (.bool (decide (p_x < p_lo)))) hF hS (ex_move rfl) rfl rfl fun a hF => ?_
        rcases hc4 : (decide (p_x < p_lo)) with _ | _
        · have hj1 := cond_f hc4 hj1
          refine q_xg (v := (.int .i64 p_x)) hF hS (ex_move rfl) (wanted_t hF rfl rfl rfl hc4) rfl fun a hF => ?_
          refine q_xg (v := (.int .i64 p_hi)) hF hS (ex_move rfl) (wanted_t hF rfl rfl rfl hc4) rfl fun a hF => ?_
          refine q_xg (v := (.bool (decide (p_hi < p_x)))) hF hS (ex_ibin rfl rfl rfl) (wanted_t hF rfl rfl rfl hc4) rfl fun a hF => ?_
          refine q_x (v := (.bool (decide (p_hi < p_x)))) hF hS (ex_pick_f rfl rfl hc4) rfl rfl fun a hF => ?_
          refine q_end (n_jn ?_)
          obtain rfl := someI hj1
          exact ⟨hF.sub ⟨rfl, rfl, rfl, rfl, rfl, trivial⟩, hS⟩
        · have hj1 := cond_t hc4 hj1
          refine q_skip hF (wanted_f hF rfl rfl rfl hc4 rfl) rfl fun a hF => ?_
          refine q_skip hF (wanted_f hF rfl rfl rfl hc4 rfl) rfl fun a hF => ?_
          refine q_skip hF (wanted_f hF rfl rfl rfl hc4 rfl) rfl fun a hF => ?_
          refine q_x (v := (.bool true)) hF hS (ex_pick_t rfl rfl hc4) rfl rfl fun a hF => ?_
          refine q_end (n_jn ?_)
          obtain rfl := someI hj1
          exact ⟨hF.sub ⟨rfl, rfl, rfl, rfl, rfl, trivial⟩, hS⟩
      · have hj1 := cond_t hc3 hj1
        refine q_skip hF (wanted_f hF rfl rfl rfl hc3 rfl) rfl fun a hF => ?_
        refine q_skip hF (wanted_f hF rfl rfl rfl hc3 rfl) rfl fun a hF => ?_
        refine q_skip hF (wanted_f hF rfl rfl rfl hc3 rfl) rfl fun a hF => ?_
        refine q_x (v := (.bool true)) hF hS (ex_pick_t rfl rfl hc3) rfl rfl fun a hF => ?_
        refine q_x (v := (.bool true)) hF hS (ex_move rfl) rfl rfl fun a hF => ?_
        refine q_skip hF (wanted_f hF rfl rfl rfl rfl rfl) rfl fun a hF => ?_
        refine q_skip hF (wanted_f hF rfl rfl rfl rfl rfl) rfl fun a hF => ?_
        refine q_skip hF (wanted_f hF rfl rfl rfl rfl rfl) rfl fun a hF => ?_
        refine q_x (v := (.bool true)) hF hS (ex_pick_t rfl rfl rfl) rfl rfl fun a hF => ?_
        refine q_end (n_jn ?_)
        obtain rfl := someI hj1
        exact ⟨hF.sub ⟨rfl, rfl, rfl, rfl, rfl, trivial⟩, hS⟩
    · have hj1 := cond_t hc2 hj1
      refine q_skip hF (wanted_f hF rfl rfl rfl hc2 rfl) rfl fun a hF => ?_
      refine q_skip hF (wanted_f hF rfl rfl rfl hc2 rfl) rfl fun a hF => ?_
      refine q_skip hF (wanted_f hF rfl rfl rfl hc2 rfl) rfl fun a hF => ?_
      refine q_skip hF (wanted_f hF rfl rfl rfl hc2 rfl) rfl fun a hF => ?_
      refine q_x (v := (.bool true)) hF hS (ex_pick_t rfl rfl hc2) rfl rfl fun a hF => ?_
      refine q_x (v := (.bool true)) hF hS (ex_move rfl) rfl rfl fun a hF => ?_
      refine q_skip hF (wanted_f hF rfl rfl rfl rfl rfl) rfl fun a hF => ?_
      refine q_skip hF (wanted_f hF rfl rfl rfl rfl rfl) rfl fun a hF => ?_
      refine q_skip hF (wanted_f hF rfl rfl rfl rfl rfl) rfl fun a hF => ?_
      refine q_x (v := (.bool true)) hF hS (ex_pick_t rfl rfl rfl) rfl rfl fun a hF => ?_
      refine q_x (v := (.bool true)) hF hS (ex_move rfl) rfl rfl fun a hF => ?_
      refine q_skip hF (wanted_f hF rfl rfl rfl rfl rfl) rfl fun a hF => ?_
      refine q_skip hF (wanted_f hF rfl rfl rfl rfl rfl) rfl fun a hF => ?_
      refine q_skip hF (wanted_f hF rfl rfl rfl rfl rfl) rfl fun a hF => ?_
      refine q_x (v := (.bool true)) hF hS (ex_pick_t rfl rfl rfl) rfl rfl fun a hF => ?_
      refine q_end (n_jn ?_)
      obtain rfl := someI hj1
      exact ⟨hF.sub ⟨rfl, rfl, rfl, rfl, rfl, trivial⟩, hS⟩
  · rintro a w ⟨hF, hS⟩
    refine n_sq ?_
    rcases hc5 : (t_4) with _ | _
    · have hr := cond_f hc5 hr
      refine q_cond_f hF rfl hc5 ?_
      refine q_skipc (n_sq ?_)
      refine q_seq ?_
      refine q_region ?_
      refine q_x (v := (.agg #[(.int .i64 p_a.Num), (.int .i64 p_a.Den)])) hF hS (ex_loadA (vs := [(.int .i64 p_a.Num), (.int .i64 p_a.Den)]) 0 0 Try.underlying26 rfl sz26 rfl rfl rfl rfl) rfl rfl fun a hF => ?_
      refine q_x (v := (.int .i64 p_lo)) hF hS (ex_move rfl) rfl rfl fun a hF => ?_
      refine q_x (v := (.int .i64 p_hi)) hF hS (ex_move rfl) rfl rfl fun a hF => ?_
      refine q_x (v := (.int .i64 p_x)) hF hS (ex_move rfl) rfl rfl fun a hF => ?_
      obtain ⟨t_5, ht_5, hr⟩ := bindS hr
      refine q_call (vs := [(.agg #[(.int .i64 p_a.Num), (.int .i64 p_a.Den)]), (.int .i64 p_lo), (.int .i64 p_hi), (.int .i64 p_x)]) hF hS Try.func126 (by kernel_rfl) rfl rfl rfl (c_impl_clampedMasses p_a p_lo p_hi p_x t_5 ht_5 _ m hS.vis) ?_
      rintro a w _ ⟨q7, s7, rfl, hR6, h7⟩ hF hS2
      have hS : St _ _ _ _ [q7, [⟨b1, [(.int .i64 p_a.Num), (.int .i64 p_a.Den)], 26⟩]] := hS.joinF hR6
      refine q_x (v := s7.v) hF hS (ex_extract rfl rfl) rfl rfl fun a hF => ?_
      refine q_x (v := (.bool t_5.2)) hF hS (ex_extract rfl rfl) rfl rfl fun a hF => ?_
      refine q_x (v := s7.v) hF hS (ex_assign rfl) rfl rfl fun a hF => ?_
      refine q_x (v := (.bool t_5.2)) hF hS (ex_assign rfl) rfl rfl fun a hF => ?_
      refine q_end (n_sq (q_ret ?_))
      obtain rfl := someI hr
      exact ret_of hF hS rfl (.tmp rfl (.tmp rfl .nil)) ⟨q7, s7, rfl, hS.sel [0] (by decide), h7⟩
    · have hr := cond_t hc5 hr
      refine q_cond_t hF rfl hc5 ?_
      refine q_seq ?_
      refine q_region ?_
      refine q_x (v := nilS.v) hF hS (ex_assign rfl) rfl rfl fun a hF => ?_
      refine q_x (v := (.bool false)) hF hS (ex_assign rfl) rfl rfl fun a hF => ?_
      refine q_end (n_sq (q_ret (r_sq ?_)))
      obtain rfl := someI hr
      exact ret_of hF hS rfl (.tmp rfl (.tmp rfl .nil)) ⟨[], nilS, rfl, hS.sel [1] (by decide), (OwnL.nil (α := impl_Frac) m 26)⟩

theorem c_laws_eqFrac (p_a : impl_Frac) (p_b : impl_Frac) (r : Bool) (hr : laws_eqFrac p_a p_b = some r) (w0 : World) (m : Mem) (hv : Vis m w0) :
    Ret Try.prog 32 [(.agg #[(.int .i64 p_a.Num), (.int .i64 p_a.Den)]), (.agg #[(.int .i64 p_b.Num), (.int .i64 p_b.Den)])] w0 (fun v _ => v = (.bool r)) := by
  unfold laws_eqFrac at hr
  refine ret_start Try.func32 rfl 15 rfl rfl m hv fun a hF hS => ?_
  refine q_seq ?_
  refine q_region ?_
  refine q_box (cs := [(.int .i64 p_a.Num), (.int .i64 p_a.Den)]) hF hS rfl rfl rfl fun a w b1 hF hS => ?_
  refine q_box (cs := [(.int .i64 p_b.Num), (.int .i64 p_b.Den)]) hF hS rfl rfl rfl fun a w b2 hF hS => ?_
  refine q_x (v := (.bool false)) hF hS (ex_assign rfl) rfl rfl fun a hF => ?_
  refine q_end (n_sq ?_)
  refine q_seq ?_
  refine q_seq ?_
  refine q_region ?_
  refine q_x (v := (.pointer (some ⟨b1, 0, none⟩))) hF hS (ex_fieldAddr Try.underlying26 rfl sz3 rfl rfl) rfl rfl fun a hF => ?_
  refine q_x (v := (.int .i64 p_a.Num)) hF hS (ex_load1 1 0 Try.underlying3 rfl rfl rfl rfl) rfl rfl fun a hF => ?_
  refine q_x (v := (.pointer (some ⟨b2, 0, none⟩))) hF hS (ex_fieldAddr Try.underlying26 rfl sz3 rfl rfl) rfl rfl fun a hF => ?_
  refine q_x (v := (.int .i64 p_b.Num)) hF hS (ex_load1 0 0 Try.underlying3 rfl rfl rfl rfl) rfl rfl fun a hF => ?_
  refine q_x (v := (.bool (p_a.Num != p_b.Num))) hF hS (ex_ibin rfl rfl rfl) rfl rfl fun a hF => ?_
  refine q_end (n_sq ?_)
  rcases hc1 : (p_a.Num != p_b.Num) with _ | _
  · have hr := cond_f hc1 hr
    refine q_cond_f hF rfl hc1 ?_
    refine q_skipc (n_sq ?_)
    refine q_seq ?_
    refine q_seq ?_
    refine q_region ?_
    refine q_x (v := (.pointer (some ⟨b1, 1, none⟩))) hF hS (ex_fieldAddr Try.underlying26 rfl sz3 rfl rfl) rfl rfl fun a hF => ?_
    refine q_x (v := (.int .i64 p_a.Den)) hF hS (ex_load1 1 0 Try.underlying3 rfl rfl rfl rfl) rfl rfl fun a hF => ?_
    refine q_x (v := (.pointer (some ⟨b2, 1, none⟩))) hF hS (ex_fieldAddr Try.underlying26 rfl sz3 rfl rfl) rfl rfl fun a hF => ?_
    refine q_x (v := (.int .i64 p_b.Den)) hF hS (ex_load1 0 0 Try.underlying3 rfl rfl rfl rfl) rfl rfl fun a hF => ?_
    refine q_x (v := (.bool (p_a.Den != p_b.Den))) hF hS (ex_ibin rfl rfl rfl) rfl rfl fun a hF => ?_
    refine q_end (n_sq ?_)
    rcases hc2 : (p_a.Den != p_b.Den) with _ | _
    · have hr := cond_f hc2 hr
      refine q_cond_f hF rfl hc2 ?_
      refine q_skipc (n_sq ?_)
      refine q_seq ?_
      refine q_region ?_
      refine q_x (v := (.bool true)) hF hS (ex_assign rfl) rfl rfl fun a hF => ?_
      refine q_end (n_sq (q_ret ?_))
      obtain rfl := someI hr
      exact ret_of hF hS rfl (.tmp rfl .nil) rfl
    · have hr := cond_t hc2 hr
      refine q_cond_t hF rfl hc2 ?_
      refine q_seq ?_
      refine q_region ?_
      refine q_x (v := (.bool false)) hF hS (ex_assign rfl) rfl rfl fun a hF => ?_
      refine q_end (n_sq (q_ret (r_sq ?_)))
      obtain rfl := someI hr
      exact ret_of hF hS rfl (.tmp rfl .nil) rfl
  · have hr := cond_t hc1 hr
    refine q_cond_t hF rfl hc1 ?_
    refine q_seq ?_
    refine q_region ?_
    refine q_x (v := (.bool false)) hF hS (ex_assign rfl) rfl rfl fun a hF => ?_
    refine q_end (n_sq (q_ret (r_sq ?_)))
    obtain rfl := someI hr
    exact ret_of hF hS rfl (.tmp rfl .nil) rfl

theorem c_laws_eqFracS (p_a : List impl_Frac) (p_b : List impl_Frac) (r : Bool) (hr : laws_eqFracS p_a p_b = some r) (w0 : World) (m : Mem) (hv : Vis m w0) (s1 : Sl) (h1 : Rd m s1 p_a) (s2 : Sl) (h2 : Rd m s2 p_b) :
    Ret Try.prog 40 [s1.v, s2.v] w0 (fun v _ => v = (.bool r)) := by
  unfold laws_eqFracS at hr
  refine ret_start Try.func40 rfl 27 rfl rfl m hv fun a hF hS => ?_
  refine q_seq ?_
  refine q_region ?_
  refine q_x (v := (.bool false)) hF hS (ex_assign rfl) rfl rfl fun a hF => ?_
  refine q_end (n_sq ?_)
  refine q_seq ?_
  refine q_seq ?_
  refine q_region ?_
  refine q_x (v := s1.v) hF hS (ex_move rfl) rfl rfl fun a hF => ?_
  refine q_x (v := (.int .i64 (goLen p_a))) hF hS (ex_len Try.underlying51 rfl h1.len) rfl rfl fun a hF => ?_
  refine q_x (v := s2.v) hF hS (ex_move rfl) rfl rfl fun a hF => ?_
  refine q_x (v := (.int .i64 (goLen p_b))) hF hS (ex_len Try.underlying51 rfl h2.len) rfl rfl fun a hF => ?_
  refine q_x (v := (.bool ((goLen p_a) != (goLen p_b)))) hF hS (ex_ibin rfl rfl rfl) rfl rfl fun a hF => ?_
  refine q_end (n_sq ?_)
  rcases hc1 : ((goLen p_a) != (goLen p_b)) with _ | _
  · have hr := cond_f hc1 hr
    refine q_cond_f hF rfl hc1 ?_
    refine q_skipc (n_sq ?_)
    refine q_seq ?_
    refine q_seq ?_
    refine q_region ?_
    refine q_x (v := (.int .i64 0)) hF hS (ex_assign rfl) rfl rfl fun a hF => ?_
    refine q_end (n_sq ?_)
    refine q_block ?_
    obtain ⟨o2, hl2, hr⟩ := bindS hr
    refine q_loop (fun (i_3 : Int) a w => Fr a 27 [(0, s1.v), (1, s2.v), (5, (.int .i64 i_3))] ∧ St [] w0 w m []) (fun (o : (Unit) ⊕ (Bool)) e a w => o = .inl () ∧ e = .exit 0 ∧ Fr a 27 [] ∧ St [] w0 w m []) hl2 ⟨hF.sub ⟨rfl, rfl, rfl, trivial⟩, hS⟩ ?_ ?_
    · clear hF hS
      rintro i_3 a w st ⟨hF, hS⟩ hb2
      unfold laws_eqFracS_l1 at hb2
      refine q_seq ?_
      refine q_seq ?_
      refine q_region ?_
      refine q_x (v := (.int .i64 i_3)) hF hS (ex_move rfl) rfl rfl fun a hF => ?_
      refine q_x (v := s1.v) hF hS (ex_move rfl) rfl rfl fun a hF => ?_
      refine q_x (v := (.int .i64 (goLen p_a))) hF hS (ex_len Try.underlying51 rfl h1.len) rfl rfl fun a hF => ?_
      refine q_x (v := (.bool (decide (i_3 < (goLen p_a))))) hF hS (ex_ibin rfl rfl rfl) rfl rfl fun a hF => ?_
      refine q_end (n_sq ?_)
      rcases hc3 : (decide (i_3 < (goLen p_a))) with _ | _
      · have hb2 := cond_f hc3 hb2
        refine q_cond_f hF rfl hc3 ?_
        refine q_exit (x_sq ?_)
        obtain rfl := someI hb2
        exact ⟨nofun, .inl ⟨rfl, rfl, hF.sub trivial, hS⟩⟩
      · have hb2 := cond_t hc3 hb2
        refine q_cond_t hF rfl hc3 ?_
        refine q_skipc (n_sq ?_)
        refine q_seq ?_
        refine q_block ?_
        refine q_seq ?_
        refine e_region [] mixed fun w' hw' => ?_
        have hS := hS.below hw'
        refine e_p (v := s1.v) 0 hF rfl (ex_move rfl) rfl rfl (by kernel_rfl) (by kernel_rfl) (by kernel_rfl) fun a hF => ?_
        refine e_p (v := (.int .i64 i_3)) 1 hF rfl (ex_move rfl) rfl rfl (by kernel_rfl) (by kernel_rfl) (by kernel_rfl) fun a hF => ?_
        obtain ⟨e_4, he_4, hb2⟩ := bindS hb2
        obtain ⟨vs5, at5, d5⟩ := h1.at he_4 2 rfl
        obtain rfl : vs5 = [(.int .i64 e_4.Num), (.int .i64 e_4.Den)] := d5
        refine e_p (v := (elP s1 (i_3.toNat * 2))) 2 hF rfl (ex_indexAddr Try.underlying51 sz26 rfl rfl (h1.idx he_4)) rfl rfl (by kernel_rfl) (by kernel_rfl) (by kernel_rfl) fun a hF => ?_
        refine e_x (v := (.agg #[(.int .i64 e_4.Num), (.int .i64 e_4.Den)])) 3 hF hS rfl (ex_loadEA (us := [(.int .i64 e_4.Num), (.int .i64 e_4.Den)]) 0 Try.underlying26 rfl sz26 rfl ((at5).at) rfl rfl rfl) rfl rfl (by kernel_rfl) (by kernel_rfl) (by kernel_rfl) (by kernel_rfl) fun a hF => ?_
        refine e_p (v := s2.v) 4 hF rfl (ex_move rfl) rfl rfl (by kernel_rfl) (by kernel_rfl) (by kernel_rfl) fun a hF => ?_
        refine e_p (v := (.int .i64 i_3)) 5 hF rfl (ex_move rfl) rfl rfl (by kernel_rfl) (by kernel_rfl) (by kernel_rfl) fun a hF => ?_
        obtain ⟨e_6, he_6, hb2⟩ := bindS hb2
        obtain ⟨vs7, at7, d7⟩ := h2.at he_6 2 rfl
        obtain rfl : vs7 = [(.int .i64 e_6.Num), (.int .i64 e_6.Den)] := d7
        refine e_p (v := (elP s2 (i_3.toNat * 2))) 6 hF rfl (ex_indexAddr Try.underlying51 sz26 rfl rfl (h2.idx he_6)) rfl rfl (by kernel_rfl) (by kernel_rfl) (by kernel_rfl) fun a hF => ?_
        refine e_x (v := (.agg #[(.int .i64 e_6.Num), (.int .i64 e_6.Den)])) 7 hF hS rfl (ex_loadEA (us := [(.int .i64 e_6.Num), (.int .i64 e_6.Den)]) 0 Try.underlying26 rfl sz26 rfl ((at7).at) rfl rfl rfl) rfl rfl (by kernel_rfl) (by kernel_rfl) (by kernel_rfl) (by kernel_rfl) fun a hF => ?_
        refine e_one 8 (by kernel_rfl) ?_
        obtain ⟨t_8, ht_8, hb2⟩ := bindS hb2
        refine e_call (vs := [(.agg #[(.int .i64 e_4.Num), (.int .i64 e_4.Den)]), (.agg #[(.int .i64 e_6.Num), (.int .i64 e_6.Den)])]) hF hS rfl Try.func32 (by kernel_rfl) rfl rfl rfl (c_laws_eqFrac e_4 e_6 t_8 ht_8 _ m hS.vis) ?_
        rintro a w _ rfl hF hS
        refine e_p (v := (.bool (!t_8))) 9 hF rfl (ex_not rfl) rfl rfl (by kernel_rfl) (by kernel_rfl) (by kernel_rfl) fun a hF => ?_
        refine e_end (by kernel_rfl) (n_sq ?_) _
        rcases hc4 : (!t_8) with _ | _
        · have hb2 := cond_f hc4 hb2
          refine q_cond_f hF rfl hc4 ?_
          refine q_skipc (n_ib (n_sq ?_))
          refine q_region ?_
          refine q_x (v := (.int .i64 i_3)) hF hS (ex_move rfl) rfl rfl fun a hF => ?_
          refine q_x (v := (.int .i64 (w64 (i_3 + 1)))) hF hS (ex_ibin rfl rfl rfl) rfl rfl fun a hF => ?_
          refine q_x (v := (.int .i64 (w64 (i_3 + 1)))) hF hS (ex_assign rfl) rfl rfl fun a hF => ?_
          refine q_end ?_
          obtain rfl := someI hb2
          exact ⟨rfl, hF.sub ⟨rfl, rfl, rfl, trivial⟩, hS⟩
        · have hb2 := cond_t hc4 hb2
          refine q_cond_t hF rfl hc4 ?_
          refine q_seq ?_
          refine q_region ?_
          refine q_x (v := (.bool false)) hF hS (ex_assign rfl) rfl rfl fun a hF => ?_
          refine q_end (n_sq (q_ret (r_ib (r_sq ?_))))
          obtain rfl := someI hb2
          refine ⟨nofun, .inr fun ho => ?_⟩
          subst ho
          refine r_ib (r_sq ?_)
          obtain rfl := someI hr
          exact ret_of hF hS rfl (.tmp rfl .nil) rfl
    · rintro e a w ⟨rfl, rfl, hF, hS⟩
      refine x_ib (n_sq ?_)
      refine q_seq ?_
      refine q_region ?_
      refine q_x (v := (.bool true)) hF hS (ex_assign rfl) rfl rfl fun a hF => ?_
      refine q_end (n_sq (q_ret ?_))
      obtain rfl := someI hr
      exact ret_of hF hS rfl (.tmp rfl .nil) rfl
  · have hr := cond_t hc1 hr
    refine q_cond_t hF rfl hc1 ?_
    refine q_seq ?_
    refine q_region ?_
    refine q_x (v := (.bool false)) hF hS (ex_assign rfl) rfl rfl fun a hF => ?_
    refine q_end (n_sq (q_ret (r_sq ?_)))
    obtain rfl := someI hr
    exact ret_of hF hS rfl (.tmp rfl .nil) rfl

theorem c_laws_markFracS (p_a : List impl_Frac) (p_k : Int) (r : Int × (List impl_Frac)) (hr : laws_markFracS p_a p_k = some r) (w0 : World) (m : Mem) (s1 : Sl) (q1 : Piece) (h1 : OwnL m 26 q1 s1 p_a) (X : List Nat) (hS : St X w0 w0 m [q1]) :
    RetX Try.prog 43 [s1.v, (.int .i64 p_k)] w0 (fun v w => ∃ (qp0 : Piece), v = (.int .i64 r.1) ∧ St X w0 w m [qp0] ∧ OwnL m 26 qp0 s1 r.2) := by
  unfold laws_markFracS at hr
  refine ret_startX Try.func43 rfl 27 rfl rfl fun a hF => ?_
  refine q_seq ?_
  refine q_region ?_
  refine q_x (v := (.int .i64 0)) hF hS (ex_assign rfl) rfl rfl fun a hF => ?_
  refine q_end (n_sq ?_)
  refine q_seq ?_
  refine q_seq ?_
  refine q_region ?_
  refine q_x (v := (.int .i64 0)) hF hS (ex_assign rfl) rfl rfl fun a hF => ?_
  refine q_end (n_sq ?_)
  refine q_block ?_
  obtain ⟨o1, hl1, hr⟩ := bindS hr
  refine q_loop (fun (s : (List impl_Frac) × Int × Int) a w => ∃ (q3 : Piece), ∃ a_2, ∃ k_4, ∃ i_5, s = (a_2, k_4, i_5) ∧ Fr a 27 [(0, s1.v), (1, (.int .i64 k_4)), (5, (.int .i64 i_5))] ∧ St X w0 w m [q3] ∧ OwnL m 26 q3 s1 a_2) (fun (o : (List impl_Frac) × Int) e a w => ∃ (q13 : Piece), ∃ a_12, ∃ k_14, o = (a_12, k_14) ∧ e = .exit 0 ∧ Fr a 27 [(1, (.int .i64 k_14))] ∧ St X w0 w m [q13] ∧ OwnL m 26 q13 s1 a_12) hl1 ⟨q1, _, _, _, rfl, hF.sub ⟨rfl, rfl, rfl, trivial⟩, hS, h1⟩ ?_ ?_
  · clear hF hS
    rintro s a w st ⟨q3, a_2, k_4, i_5, rfl, hF, hS, h3⟩ hb1
    unfold laws_markFracS_l1 at hb1
    refine q_seq ?_
    refine q_seq ?_
    refine q_region ?_
    refine q_x (v := (.int .i64 i_5)) hF hS (ex_move rfl) rfl rfl fun a hF => ?_
    refine q_x (v := s1.v) hF hS (ex_move rfl) rfl rfl fun a hF => ?_
    refine q_x (v := (.int .i64 (goLen a_2))) hF hS (ex_len Try.underlying51 rfl h3.len) rfl rfl fun a hF => ?_
    refine q_x (v := (.bool (decide (i_5 < (goLen a_2))))) hF hS (ex_ibin rfl rfl rfl) rfl rfl fun a hF => ?_
    refine q_end (n_sq ?_)
    rcases hc2 : (decide (i_5 < (goLen a_2))) with _ | _
    · have hb1 := cond_f hc2 hb1
      refine q_cond_f hF rfl hc2 ?_
      refine q_exit (x_sq ?_)
      obtain rfl := someI hb1
      exact ⟨nofun, .inl ⟨q3, _, _, rfl, rfl, hF.sub ⟨rfl, trivial⟩, hS, h3⟩⟩
    · have hb1 := cond_t hc2 hb1
      refine q_cond_t hF rfl hc2 ?_
      refine q_skipc (n_sq ?_)
      refine q_seq ?_
      refine q_block ?_
      refine q_seq ?_
      refine q_region ?_
      refine q_x (v := s1.v) hF hS (ex_move rfl) rfl rfl fun a hF => ?_
      refine q_x (v := (.int .i64 i_5)) hF hS (ex_move rfl) rfl rfl fun a hF => ?_
      refine q_x (v := (.int .i64 k_4)) hF hS (ex_move rfl) rfl rfl fun a hF => ?_
      obtain ⟨e_6, he_6, hb1⟩ := bindS hb1
      obtain ⟨vs7, at7, d7⟩ := h3.at he_6 2 rfl
      obtain rfl : vs7 = [(.int .i64 e_6.Num), (.int .i64 e_6.Den)] := d7
      refine q_x (v := (elP s1 (i_5.toNat * 2))) hF hS (ex_indexAddr Try.underlying51 sz26 rfl rfl (h3.idx he_6)) rfl rfl fun a hF => ?_
      refine q_x (v := (elP s1 (i_5.toNat * 2 + 0))) hF hS (ex_fieldAddrE Try.underlying26 rfl sz3 rfl (h3.idx he_6) rfl) rfl rfl fun a hF => ?_
      refine q_do rfl fun _ hK => wp_storeE (e' := (impl_Frac.mk k_4 e_6.Den)) (us := [(.int .i64 k_4)]) (vs := [(.int .i64 e_6.Num), (.int .i64 e_6.Den)]) 0 hF hS h3 sz3 rfl rfl rfl rfl rfl rfl rfl he_6 at7 rfl rfl rfl fun w q8 hS h8 => hK _ _ ?_
      refine q_end (n_sq ?_)
      refine q_seq ?_
      refine q_region ?_
      refine q_x (v := (.int .i64 k_4)) hF hS (ex_move rfl) rfl rfl fun a hF => ?_
      refine q_x (v := (.int .i64 (w64 (k_4 + 1)))) hF hS (ex_ibin rfl rfl rfl) rfl rfl fun a hF => ?_
      refine q_x (v := (.int .i64 (w64 (k_4 + 1)))) hF hS (ex_assign rfl) rfl rfl fun a hF => ?_
      refine q_end (n_sq ?_)
      refine q_seq ?_
      refine q_region ?_
      refine q_x (v := s1.v) hF hS (ex_move rfl) rfl rfl fun a hF => ?_
      refine q_x (v := (.int .i64 i_5)) hF hS (ex_move rfl) rfl rfl fun a hF => ?_
      refine q_x (v := (.int .i64 (w64 (k_4 + 1)))) hF hS (ex_move rfl) rfl rfl fun a hF => ?_
      obtain ⟨e_9, he_9, hb1⟩ := bindS hb1
      obtain ⟨vs10, at10, d10⟩ := h8.at he_9 2 rfl
      obtain rfl : vs10 = [(.int .i64 e_9.Num), (.int .i64 e_9.Den)] := d10
      refine q_x (v := (elP s1 (i_5.toNat * 2))) hF hS (ex_indexAddr Try.underlying51 sz26 rfl rfl (h8.idx he_9)) rfl rfl fun a hF => ?_
      refine q_x (v := (elP s1 (i_5.toNat * 2 + 1))) hF hS (ex_fieldAddrE Try.underlying26 rfl sz3 rfl (h8.idx he_9) rfl) rfl rfl fun a hF => ?_
      refine q_do rfl fun _ hK => wp_storeE (e' := (impl_Frac.mk e_9.Num (w64 (k_4 + 1)))) (us := [(.int .i64 (w64 (k_4 + 1)))]) (vs := [(.int .i64 e_9.Num), (.int .i64 e_9.Den)]) 1 hF hS h8 sz3 rfl rfl rfl rfl rfl rfl rfl he_9 at10 rfl rfl rfl fun w q11 hS h11 => hK _ _ ?_
      refine q_end (n_sq ?_)
      refine q_region ?_
      refine q_x (v := (.int .i64 (w64 (k_4 + 1)))) hF hS (ex_move rfl) rfl rfl fun a hF => ?_
      refine q_x (v := (.int .i64 (w64 ((w64 (k_4 + 1)) + 1)))) hF hS (ex_ibin rfl rfl rfl) rfl rfl fun a hF => ?_
      refine q_x (v := (.int .i64 (w64 ((w64 (k_4 + 1)) + 1)))) hF hS (ex_assign rfl) rfl rfl fun a hF => ?_
      refine q_end (n_ib (n_sq ?_))
      refine q_region ?_
      refine q_x (v := (.int .i64 i_5)) hF hS (ex_move rfl) rfl rfl fun a hF => ?_
      refine q_x (v := (.int .i64 (w64 (i_5 + 1)))) hF hS (ex_ibin rfl rfl rfl) rfl rfl fun a hF => ?_
      refine q_x (v := (.int .i64 (w64 (i_5 + 1)))) hF hS (ex_assign rfl) rfl rfl fun a hF => ?_
      refine q_end ?_
      obtain rfl := someI hb1
      exact ⟨rfl, q11, _, _, _, rfl, hF.sub ⟨rfl, rfl, rfl, trivial⟩, hS, h11⟩
  · rintro e a w ⟨q13, a_12, k_14, rfl, rfl, hF, hS, h13⟩
    refine x_ib (n_sq ?_)
    refine q_seq ?_
    refine q_region ?_
    refine q_x (v := (.int .i64 k_14)) hF hS (ex_move rfl) rfl rfl fun a hF => ?_
    refine q_x (v := (.int .i64 k_14)) hF hS (ex_assign rfl) rfl rfl fun a hF => ?_
    refine q_end (n_sq (q_ret ?_))
    obtain rfl := someI hr
    exact ret_ofX hF hS rfl (.tmp rfl .nil) ⟨q13, rfl, hS.sel [0] (by decide), h13⟩

theorem c_laws_heldFracS (p_a : List impl_Frac) (p_k : Int) (r : Int) (hr : laws_heldFracS p_a p_k = some r) (w0 : World) (m : Mem) (hv : Vis m w0) (s1 : Sl) (h1 : Rd m s1 p_a) :
    Ret Try.prog 44 [s1.v, (.int .i64 p_k)] w0 (fun v _ => v = (.int .i64 r)) := by
  unfold laws_heldFracS at hr
  refine ret_start Try.func44 rfl 31 rfl rfl m hv fun a hF hS => ?_
  refine q_seq ?_
  refine q_region ?_
  refine q_x (v := (.int .i64 0)) hF hS (ex_assign rfl) rfl rfl fun a hF => ?_
  refine q_end (n_sq ?_)
  refine q_seq ?_
  refine q_seq ?_
  refine q_region ?_
  refine q_x (v := (.int .i64 0)) hF hS (ex_assign rfl) rfl rfl fun a hF => ?_
  refine q_end (n_sq ?_)
  refine q_block ?_
  obtain ⟨o1, hl1, hr⟩ := bindS hr
  refine q_loop (fun (s : Int × Int) a w => ∃ k_2, ∃ i_3, s = (k_2, i_3) ∧ Fr a 31 [(0, s1.v), (1, (.int .i64 k_2)), (5, (.int .i64 i_3))] ∧ St [] w0 w m []) (fun (o : (Int) ⊕ (Int)) e a w => ∃ k_8, o = .inl k_8 ∧ e = .exit 0 ∧ Fr a 31 [(1, (.int .i64 k_8))] ∧ St [] w0 w m []) hl1 ⟨_, _, rfl, hF.sub ⟨rfl, rfl, rfl, trivial⟩, hS⟩ ?_ ?_
  · clear hF hS
    rintro s a w st ⟨k_2, i_3, rfl, hF, hS⟩ hb1
    unfold laws_heldFracS_l1 at hb1
    refine q_seq ?_
    refine q_seq ?_
    refine q_region ?_
    refine q_x (v := (.int .i64 i_3)) hF hS (ex_move rfl) rfl rfl fun a hF => ?_
    refine q_x (v := s1.v) hF hS (ex_move rfl) rfl rfl fun a hF => ?_
    refine q_x (v := (.int .i64 (goLen p_a))) hF hS (ex_len Try.underlying51 rfl h1.len) rfl rfl fun a hF => ?_
    refine q_x (v := (.bool (decide (i_3 < (goLen p_a))))) hF hS (ex_ibin rfl rfl rfl) rfl rfl fun a hF => ?_
    refine q_end (n_sq ?_)
    rcases hc2 : (decide (i_3 < (goLen p_a))) with _ | _
    · have hb1 := cond_f hc2 hb1
      refine q_cond_f hF rfl hc2 ?_
      refine q_exit (x_sq ?_)
      obtain rfl := someI hb1
      exact ⟨nofun, .inl ⟨_, rfl, rfl, hF.sub ⟨rfl, trivial⟩, hS⟩⟩
    · have hb1 := cond_t hc2 hb1
      refine q_cond_t hF rfl hc2 ?_
      refine q_skipc (n_sq ?_)
      refine q_seq ?_
      refine q_block ?_
      refine q_seq ?_
      refine q_seq ?_
      refine q_region ?_
      refine q_x (v := s1.v) hF hS (ex_move rfl) rfl rfl fun a hF => ?_
      refine q_x (v := (.int .i64 i_3)) hF hS (ex_move rfl) rfl rfl fun a hF => ?_
      obtain ⟨e_4, he_4, hb1⟩ := bindS hb1
      obtain ⟨vs5, at5, d5⟩ := h1.at he_4 2 rfl
      obtain rfl : vs5 = [(.int .i64 e_4.Num), (.int .i64 e_4.Den)] := d5
      refine q_x (v := (elP s1 (i_3.toNat * 2))) hF hS (ex_indexAddr Try.underlying51 sz26 rfl rfl (h1.idx he_4)) rfl rfl fun a hF => ?_
      refine q_x (v := (elP s1 (i_3.toNat * 2 + 0))) hF hS (ex_fieldAddrE Try.underlying26 rfl sz3 rfl (h1.idx he_4) rfl) rfl rfl fun a hF => ?_
      refine q_x (v := (.int .i64 e_4.Num)) hF hS (ex_loadE1 0 Try.underlying3 rfl rfl ((at5).at) rfl rfl) rfl rfl fun a hF => ?_
      refine q_x (v := (.int .i64 k_2)) hF hS (ex_move rfl) rfl rfl fun a hF => ?_
      refine q_x (v := (.bool (e_4.Num != k_2))) hF hS (ex_ibin rfl rfl rfl) rfl rfl fun a hF => ?_
      refine q_end (n_sq ?_)
      rcases hc3 : (e_4.Num != k_2) with _ | _
      · have hb1 := cond_f hc3 hb1
        refine q_cond_f hF rfl hc3 ?_
        refine q_skipc (n_sq ?_)
        refine q_seq ?_
        refine q_region ?_
        refine q_x (v := (.int .i64 k_2)) hF hS (ex_move rfl) rfl rfl fun a hF => ?_
        refine q_x (v := (.int .i64 (w64 (k_2 + 1)))) hF hS (ex_ibin rfl rfl rfl) rfl rfl fun a hF => ?_
        refine q_x (v := (.int .i64 (w64 (k_2 + 1)))) hF hS (ex_assign rfl) rfl rfl fun a hF => ?_
        refine q_end (n_sq ?_)
        refine q_seq ?_
        refine q_seq ?_
        refine q_region ?_
        refine q_x (v := s1.v) hF hS (ex_move rfl) rfl rfl fun a hF => ?_
        refine q_x (v := (.int .i64 i_3)) hF hS (ex_move rfl) rfl rfl fun a hF => ?_
        obtain ⟨e_6, he_6, hb1⟩ := bindS hb1
        obtain ⟨vs7, at7, d7⟩ := h1.at he_6 2 rfl
        obtain rfl : vs7 = [(.int .i64 e_6.Num), (.int .i64 e_6.Den)] := d7
        refine q_x (v := (elP s1 (i_3.toNat * 2))) hF hS (ex_indexAddr Try.underlying51 sz26 rfl rfl (h1.idx he_6)) rfl rfl fun a hF => ?_
        refine q_x (v := (elP s1 (i_3.toNat * 2 + 1))) hF hS (ex_fieldAddrE Try.underlying26 rfl sz3 rfl (h1.idx he_6) rfl) rfl rfl fun a hF => ?_
        refine q_x (v := (.int .i64 e_6.Den)) hF hS (ex_loadE1 1 Try.underlying3 rfl rfl ((at7).at) rfl rfl) rfl rfl fun a hF => ?_
        refine q_x (v := (.int .i64 (w64 (k_2 + 1)))) hF hS (ex_move rfl) rfl rfl fun a hF => ?_
        refine q_x (v := (.bool (e_6.Den != (w64 (k_2 + 1))))) hF hS (ex_ibin rfl rfl rfl) rfl rfl fun a hF => ?_
        refine q_end (n_sq ?_)
        rcases hc4 : (e_6.Den != (w64 (k_2 + 1))) with _ | _
        · have hb1 := cond_f hc4 hb1
          refine q_cond_f hF rfl hc4 ?_
          refine q_skipc (n_sq ?_)
          refine q_region ?_
          refine q_x (v := (.int .i64 (w64 (k_2 + 1)))) hF hS (ex_move rfl) rfl rfl fun a hF => ?_
          refine q_x (v := (.int .i64 (w64 ((w64 (k_2 + 1)) + 1)))) hF hS (ex_ibin rfl rfl rfl) rfl rfl fun a hF => ?_
          refine q_x (v := (.int .i64 (w64 ((w64 (k_2 + 1)) + 1)))) hF hS (ex_assign rfl) rfl rfl fun a hF => ?_
          refine q_end (n_ib (n_sq ?_))
          refine q_region ?_
          refine q_x (v := (.int .i64 i_3)) hF hS (ex_move rfl) rfl rfl fun a hF => ?_
          refine q_x (v := (.int .i64 (w64 (i_3 + 1)))) hF hS (ex_ibin rfl rfl rfl) rfl rfl fun a hF => ?_
          refine q_x (v := (.int .i64 (w64 (i_3 + 1)))) hF hS (ex_assign rfl) rfl rfl fun a hF => ?_
          refine q_end ?_
          obtain rfl := someI hb1
          exact ⟨rfl, _, _, rfl, hF.sub ⟨rfl, rfl, rfl, trivial⟩, hS⟩
        · have hb1 := cond_t hc4 hb1
          refine q_cond_t hF rfl hc4 ?_
          refine q_seq ?_
          refine q_region ?_
          refine q_x (v := (.int .i64 (-1))) hF hS (ex_assign rfl) rfl rfl fun a hF => ?_
          refine q_end (n_sq (q_ret (r_sq (r_ib (r_sq ?_)))))
          obtain rfl := someI hb1
          refine ⟨nofun, .inr fun ho => ?_⟩
          subst ho
          refine r_ib (r_sq ?_)
          obtain rfl := someI hr
          exact ret_of hF hS rfl (.tmp rfl .nil) rfl
      · have hb1 := cond_t hc3 hb1
        refine q_cond_t hF rfl hc3 ?_
        refine q_seq ?_
        refine q_region ?_
        refine q_x (v := (.int .i64 (-1))) hF hS (ex_assign rfl) rfl rfl fun a hF => ?_
        refine q_end (n_sq (q_ret (r_sq (r_ib (r_sq ?_)))))
        obtain rfl := someI hb1
        refine ⟨nofun, .inr fun ho => ?_⟩
        subst ho
        refine r_ib (r_sq ?_)
        obtain rfl := someI hr
        exact ret_of hF hS rfl (.tmp rfl .nil) rfl
  · rintro e a w ⟨k_8, rfl, rfl, hF, hS⟩
    refine x_ib (n_sq ?_)
    refine q_seq ?_
    refine q_region ?_
    refine q_x (v := (.int .i64 k_8)) hF hS (ex_move rfl) rfl rfl fun a hF => ?_
    refine q_x (v := (.int .i64 k_8)) hF hS (ex_assign rfl) rfl rfl fun a hF => ?_
    refine q_end (n_sq (q_ret ?_))
    obtain rfl := someI hr
    exact ret_of hF hS rfl (.tmp rfl .nil) rfl

theorem c_laws_FnExactClampedMasses (p_aA : laws_Frac) (p_aLo : Int) (p_aHi : Int) (p_aX : Int) (r : Bool) (hr : laws_FnExactClampedMasses p_aA p_aLo p_aHi p_aX = some r) (w0 : World) (m : Mem) (hv : Vis m w0) :
    Ret Try.prog 14 [(.agg #[(.int .i64 p_aA.Num), (.int .i64 p_aA.Den)]), (.int .i64 p_aLo), (.int .i64 p_aHi), (.int .i64 p_aX)] w0 (fun v _ => v = (.bool r)) := by
  unfold laws_FnExactClampedMasses at hr
  refine ret_start Try.func14 rfl 81 rfl rfl m hv fun a hF hS => ?_
  refine q_seq ?_
  refine q_region ?_
  refine q_box (cs := [(.int .i64 p_aA.Num), (.int .i64 p_aA.Den)]) hF hS rfl rfl rfl fun a w b1 hF hS => ?_
  refine q_x (v := (.bool false)) hF hS (ex_assign rfl) rfl rfl fun a hF => ?_
  refine q_end (n_sq ?_)
  refine q_seq ?_
  refine q_region ?_
  refine q_x (v := (.agg #[(.int .i64 p_aA.Num), (.int .i64 p_aA.Den)])) hF hS (ex_loadA (vs := [(.int .i64 p_aA.Num), (.int .i64 p_aA.Den)]) 0 0 Try.underlying23 rfl sz23 rfl rfl rfl rfl) rfl rfl fun a hF => ?_
  obtain ⟨t_2, ht_2, hr⟩ := bindS hr
  refine q_call (vs := [(.agg #[(.int .i64 p_aA.Num), (.int .i64 p_aA.Den)])]) hF hS Try.func30 (by kernel_rfl) rfl rfl rfl (c_laws_toFrac p_aA t_2 ht_2 _ m hS.vis) ?_
  rintro a w _ rfl hF hS
  refine q_x (v := (.int .i64 p_aLo)) hF hS (ex_move rfl) rfl rfl fun a hF => ?_
  refine q_x (v := (.int .i64 p_aHi)) hF hS (ex_move rfl) rfl rfl fun a hF => ?_
  refine q_x (v := (.int .i64 p_aX)) hF hS (ex_move rfl) rfl rfl fun a hF => ?_
  obtain ⟨t_3, ht_3, hr⟩ := bindS hr
  refine q_call (vs := [(.agg #[(.int .i64 t_2.Num), (.int .i64 t_2.Den)]), (.int .i64 p_aLo), (.int .i64 p_aHi), (.int .i64 p_aX)]) hF hS Try.func56 (by kernel_rfl) rfl rfl rfl (c_spec_ClampedMasses t_2 p_aLo p_aHi p_aX t_3 ht_3 _ m hS.vis) ?_
  rintro a w _ ⟨q5, s5, rfl, hR4, h5⟩ hF hS2
  have hS : St _ _ _ _ [q5, [⟨b1, [(.int .i64 p_aA.Num), (.int .i64 p_aA.Den)], 23⟩]] := hS.joinF hR4
  refine q_x (v := (.tuple #[s5.v, (.bool t_3.2)])) hF hS (ex_move rfl) rfl rfl fun a hF => ?_
  refine q_x (v := s5.v) hF hS (ex_extract rfl rfl) rfl rfl fun a hF => ?_
  refine q_x (v := (.bool t_3.2)) hF hS (ex_extract rfl rfl) rfl rfl fun a hF => ?_
  refine q_x (v := s5.v) hF hS (ex_assign rfl) rfl rfl fun a hF => ?_
  refine q_x (v := (.bool t_3.2)) hF hS (ex_assign rfl) rfl rfl fun a hF => ?_
  refine q_end (n_sq ?_)
  refine q_seq ?_
  refine q_region ?_
  refine q_x (v := (.agg #[(.int .i64 p_aA.Num), (.int .i64 p_aA.Den)])) hF hS (ex_loadA (vs := [(.int .i64 p_aA.Num), (.int .i64 p_aA.Den)]) 1 0 Try.underlying23 rfl sz23 rfl rfl rfl rfl) rfl rfl fun a hF => ?_
  obtain ⟨t_6, ht_6, hr⟩ := bindS hr
  refine q_call (vs := [(.agg #[(.int .i64 p_aA.Num), (.int .i64 p_aA.Den)])]) hF hS Try.func30 (by kernel_rfl) rfl rfl rfl (c_laws_toFrac p_aA t_6 ht_6 _ m hS.vis) ?_
  rintro a w _ rfl hF hS
  refine q_x (v := (.int .i64 p_aLo)) hF hS (ex_move rfl) rfl rfl fun a hF => ?_
  refine q_x (v := (.int .i64 p_aHi)) hF hS (ex_move rfl) rfl rfl fun a hF => ?_
  refine q_x (v := (.int .i64 p_aX)) hF hS (ex_move rfl) rfl rfl fun a hF => ?_
  obtain ⟨t_7, ht_7, hr⟩ := bindS hr
  refine q_call (vs := [(.agg #[(.int .i64 t_6.Num), (.int .i64 t_6.Den)]), (.int .i64 p_aLo), (.int .i64 p_aHi), (.int .i64 p_aX)]) hF hS Try.func57 (by kernel_rfl) rfl rfl rfl (c_impl_ClampedMasses t_6 p_aLo p_aHi p_aX t_7 ht_7 _ m hS.vis) ?_
  rintro a w _ ⟨q9, s9, rfl, hR8, h9⟩ hF hS2
  have hS : St _ _ _ _ [q9, q5, [⟨b1, [(.int .i64 p_aA.Num), (.int .i64 p_aA.Den)], 23⟩]] := hS.joinF hR8
  refine q_x (v := (.tuple #[s9.v, (.bool t_7.2)])) hF hS (ex_move rfl) rfl rfl fun a hF => ?_
  refine q_x (v := s9.v) hF hS (ex_extract rfl rfl) rfl rfl fun a hF => ?_
  refine q_x (v := (.bool t_7.2)) hF hS (ex_extract rfl rfl) rfl rfl fun a hF => ?_
  refine q_x (v := s9.v) hF hS (ex_assign rfl) rfl rfl fun a hF => ?_
  refine q_x (v := (.bool t_7.2)) hF hS (ex_assign rfl) rfl rfl fun a hF => ?_
  refine q_end (n_sq ?_)
  refine q_seq ?_
  refine q_seq ?_
  obtain ⟨t_12, hj1, hr⟩ := bindS hr
  refine q_join (fun a w => Fr a 81 [(1, (.int .i64 p_aLo)), (2, (.int .i64 p_aHi)), (3, (.int .i64 p_aX)), (4, (.pointer (some ⟨b1, 0, none⟩))), (9, s5.v), (10, (.bool t_3.2)), (11, s9.v), (43, (.bool t_12))] ∧ St [] w0 w m [q5, q9, [⟨b1, [(.int .i64 p_aA.Num), (.int .i64 p_aA.Den)], 23⟩]]) ?_ ?_
  · refine q_region ?_
    refine q_x (v := s9.v) hF hS (ex_move rfl) rfl rfl fun a hF => ?_
    refine q_x (v := s5.v) hF hS (ex_move rfl) rfl rfl fun a hF => ?_
    obtain ⟨m11, hl11, hv11, hz11⟩ := hS.lend
    obtain ⟨t_10, ht_10, hj1⟩ := bindS hj1
    refine q_call (vs := [s9.v, s5.v]) hF hS Try.func40 (by kernel_rfl) rfl rfl rfl (c_laws_eqFracS t_7.1 t_3.1 t_10 ht_10 _ m11 hv11 s9 (h9.froz hl11 (hz11 0 _ rfl)) s5 (h5.froz hl11 (hz11 1 _ rfl))) ?_
    rintro a w _ rfl hF hS
    refine q_x (v := (.bool (!t_10))) hF hS (ex_not rfl) rfl rfl fun a hF => ?_
    refine q_x (v := (.bool (!t_10))) hF hS (ex_move rfl) rfl rfl fun a hF => ?_
    rcases hc2 : (!t_10) with _ | _
    · have hj1 := cond_f hc2 hj1
      refine q_xg (v := (.bool t_7.2)) hF hS (ex_move rfl) (wanted_t hF rfl rfl rfl hc2) rfl fun a hF => ?_
      refine q_xg (v := (.bool t_3.2)) hF hS (ex_move rfl) (wanted_t hF rfl rfl rfl hc2) rfl fun a hF => ?_
      refine q_xg (v := (.bool (t_7.2 != t_3.2))) hF hS (ex_bne Try.underlying4 rfl rfl) (wanted_t hF rfl rfl rfl hc2) rfl fun a hF => ?_
      refine q_x (v := (.bool (t_7.2 != t_3.2))) hF hS (ex_pick_f rfl rfl hc2) rfl rfl fun a hF => ?_
      refine q_end (n_jn ?_)
      obtain rfl := someI hj1
      exact ⟨hF.sub ⟨rfl, rfl, rfl, rfl, rfl, rfl, rfl, rfl, trivial⟩, hS.sel [1, 0, 2] (by decide)⟩
    · have hj1 := cond_t hc2 hj1
      refine q_skip hF (wanted_f hF rfl rfl rfl hc2 rfl) rfl fun a hF => ?_
      refine q_skip hF (wanted_f hF rfl rfl rfl hc2 rfl) rfl fun a hF => ?_
      refine q_skip hF (wanted_f hF rfl rfl rfl hc2 rfl) rfl fun a hF => ?_
      refine q_x (v := (.bool true)) hF hS (ex_pick_t rfl rfl hc2) rfl rfl fun a hF => ?_
      refine q_end (n_jn ?_)
      obtain rfl := someI hj1
      exact ⟨hF.sub ⟨rfl, rfl, rfl, rfl, rfl, rfl, rfl, rfl, trivial⟩, hS.sel [1, 0, 2] (by decide)⟩
  · rintro a w ⟨hF, hS⟩
    refine n_sq ?_
    rcases hc3 : (t_12) with _ | _
    · have hr := cond_f hc3 hr
      refine q_cond_f hF rfl hc3 ?_
      refine q_skipc (n_sq ?_)
      refine q_seq ?_
      refine q_region ?_
      refine q_x (v := (.int .i64 1)) hF hS (ex_assign rfl) rfl rfl fun a hF => ?_
      refine q_end (n_sq ?_)
      refine q_seq ?_
      refine q_region ?_
      refine q_x (v := s9.v) hF hS (ex_move rfl) rfl rfl fun a hF => ?_
      refine q_x (v := (.int .i64 1)) hF hS (ex_move rfl) rfl rfl fun a hF => ?_
      have hS : St _ _ _ _ [q9, q5, [⟨b1, [(.int .i64 p_aA.Num), (.int .i64 p_aA.Den)], 23⟩]] := hS.sel [1, 0, 2] (by decide)
      have hS13 : St _ _ _ _ ([q9] ++ [q5, [⟨b1, [(.int .i64 p_aA.Num), (.int .i64 p_aA.Den)], 23⟩]]) := hS
      have hE13 := hS13.enter
      obtain ⟨t_14, ht_14, hr⟩ := bindS hr
      refine q_do rfl fun _ hK => wp_callX (vs := [s9.v, (.int .i64 1)]) hF Try.func43 (by kernel_rfl) rfl rfl rfl (c_laws_markFracS t_7.1 1 t_14 ht_14 _ m s9 q9 h9 _ hE13) fun a w _ hR hF => hK _ _ ?_
      obtain ⟨q15, rfl, hR13, h15⟩ := hR
      have hS : St _ _ _ _ [q15, q5, [⟨b1, [(.int .i64 p_aA.Num), (.int .i64 p_aA.Den)], 23⟩]] := hS13.leaveF hR13
      refine q_x (v := (.int .i64 t_14.1)) hF hS (ex_assign rfl) rfl rfl fun a hF => ?_
      refine q_end (n_sq ?_)
      refine q_seq ?_
      refine q_region ?_
      refine q_x (v := (.int .i64 1)) hF hS (ex_assign rfl) rfl rfl fun a hF => ?_
      refine q_end (n_sq ?_)
      refine q_seq ?_
      refine q_region ?_
      refine q_x (v := s9.v) hF hS (ex_move rfl) rfl rfl fun a hF => ?_
      refine q_x (v := (.int .i64 1)) hF hS (ex_move rfl) rfl rfl fun a hF => ?_
      obtain ⟨m17, hl17, hv17, hz17⟩ := hS.lend
      obtain ⟨t_16, ht_16, hr⟩ := bindS hr
      refine q_call (vs := [s9.v, (.int .i64 1)]) hF hS Try.func44 (by kernel_rfl) rfl rfl rfl (c_laws_heldFracS t_14.2 1 t_16 ht_16 _ m17 hv17 s9 (h15.froz hl17 (hz17 0 _ rfl))) ?_
      rintro a w _ rfl hF hS
      refine q_x (v := (.int .i64 t_16)) hF hS (ex_assign rfl) rfl rfl fun a hF => ?_
      refine q_end (n_sq ?_)
      refine q_seq ?_
      refine q_seq ?_
      refine q_region ?_
      refine q_x (v := (.int .i64 t_16)) hF hS (ex_move rfl) rfl rfl fun a hF => ?_
      refine q_x (v := (.bool (decide (t_16 < 0)))) hF hS (ex_ibin rfl rfl rfl) rfl rfl fun a hF => ?_
      refine q_end (n_sq ?_)
      rcases hc4 : (decide (t_16 < 0)) with _ | _
      · have hr := cond_f hc4 hr
        refine q_cond_f hF rfl hc4 ?_
        refine q_skipc (n_sq ?_)
        refine q_seq ?_
        refine q_seq ?_
        refine q_region ?_
        refine q_x (v := (.int .i64 t_16)) hF hS (ex_move rfl) rfl rfl fun a hF => ?_
        refine q_x (v := (.int .i64 t_14.1)) hF hS (ex_move rfl) rfl rfl fun a hF => ?_
        refine q_x (v := (.bool (t_16 != t_14.1))) hF hS (ex_ibin rfl rfl rfl) rfl rfl fun a hF => ?_
        refine q_end (n_sq ?_)
        rcases hc5 : (t_16 != t_14.1) with _ | _
        · have hr := cond_f hc5 hr
          refine q_cond_f hF rfl hc5 ?_
          refine q_skipc (n_sq ?_)
          refine q_seq ?_
          refine q_region ?_
          refine q_x (v := (.agg #[(.int .i64 p_aA.Num), (.int .i64 p_aA.Den)])) hF hS (ex_loadA (vs := [(.int .i64 p_aA.Num), (.int .i64 p_aA.Den)]) 2 0 Try.underlying23 rfl sz23 rfl rfl rfl rfl) rfl rfl fun a hF => ?_
          obtain ⟨t_18, ht_18, hr⟩ := bindS hr
          refine q_call (vs := [(.agg #[(.int .i64 p_aA.Num), (.int .i64 p_aA.Den)])]) hF hS Try.func30 (by kernel_rfl) rfl rfl rfl (c_laws_toFrac p_aA t_18 ht_18 _ m hS.vis) ?_
          rintro a w _ rfl hF hS
          refine q_x (v := (.int .i64 p_aLo)) hF hS (ex_move rfl) rfl rfl fun a hF => ?_
          refine q_x (v := (.int .i64 p_aHi)) hF hS (ex_move rfl) rfl rfl fun a hF => ?_
          refine q_x (v := (.int .i64 p_aX)) hF hS (ex_move rfl) rfl rfl fun a hF => ?_
          obtain ⟨t_19, ht_19, hr⟩ := bindS hr
          refine q_call (vs := [(.agg #[(.int .i64 t_18.Num), (.int .i64 t_18.Den)]), (.int .i64 p_aLo), (.int .i64 p_aHi), (.int .i64 p_aX)]) hF hS Try.func57 (by kernel_rfl) rfl rfl rfl (c_impl_ClampedMasses t_18 p_aLo p_aHi p_aX t_19 ht_19 _ m hS.vis) ?_
          rintro a w _ ⟨q21, s21, rfl, hR20, h21⟩ hF hS2
          have hS : St _ _ _ _ [q21, q15, q5, [⟨b1, [(.int .i64 p_aA.Num), (.int .i64 p_aA.Den)], 23⟩]] := hS.joinF hR20
          refine q_x (v := (.tuple #[s21.v, (.bool t_19.2)])) hF hS (ex_move rfl) rfl rfl fun a hF => ?_
          refine q_x (v := s21.v) hF hS (ex_extract rfl rfl) rfl rfl fun a hF => ?_
          refine q_x (v := (.bool t_19.2)) hF hS (ex_extract rfl rfl) rfl rfl fun a hF => ?_
          refine q_x (v := s21.v) hF hS (ex_assign rfl) rfl rfl fun a hF => ?_
          refine q_x (v := (.bool t_19.2)) hF hS (ex_assign rfl) rfl rfl fun a hF => ?_
          refine q_end (n_sq ?_)
          refine q_seq ?_
          refine q_seq ?_
          obtain ⟨t_24, hj6, hr⟩ := bindS hr
          refine q_join (fun a w => Fr a 81 [(11, s9.v), (13, (.int .i64 t_14.1)), (72, (.bool t_24))] ∧ St [] w0 w m [q15]) ?_ ?_
          · refine q_region ?_
            refine q_x (v := s21.v) hF hS (ex_move rfl) rfl rfl fun a hF => ?_
            refine q_x (v := s5.v) hF hS (ex_move rfl) rfl rfl fun a hF => ?_
            obtain ⟨m23, hl23, hv23, hz23⟩ := hS.lend
            obtain ⟨t_22, ht_22, hj6⟩ := bindS hj6
            refine q_call (vs := [s21.v, s5.v]) hF hS Try.func40 (by kernel_rfl) rfl rfl rfl (c_laws_eqFracS t_19.1 t_3.1 t_22 ht_22 _ m23 hv23 s21 (h21.froz hl23 (hz23 0 _ rfl)) s5 (h5.froz hl23 (hz23 2 _ rfl))) ?_
            rintro a w _ rfl hF hS
            refine q_x (v := (.bool (!t_22))) hF hS (ex_not rfl) rfl rfl fun a hF => ?_
            refine q_x (v := (.bool (!t_22))) hF hS (ex_move rfl) rfl rfl fun a hF => ?_
            rcases hc7 : (!t_22) with _ | _
            · have hj6 := cond_f hc7 hj6
              refine q_xg (v := (.bool t_19.2)) hF hS (ex_move rfl) (wanted_t hF rfl rfl rfl hc7) rfl fun a hF => ?_
              refine q_xg (v := (.bool t_3.2)) hF hS (ex_move rfl) (wanted_t hF rfl rfl rfl hc7) rfl fun a hF => ?_
              refine q_xg (v := (.bool (t_19.2 != t_3.2))) hF hS (ex_bne Try.underlying4 rfl rfl) (wanted_t hF rfl rfl rfl hc7) rfl fun a hF => ?_
              refine q_x (v := (.bool (t_19.2 != t_3.2))) hF hS (ex_pick_f rfl rfl hc7) rfl rfl fun a hF => ?_
              refine q_end (n_jn ?_)
              obtain rfl := someI hj6
              exact ⟨hF.sub ⟨rfl, rfl, rfl, trivial⟩, hS.mask [false, true, false, false]⟩
            · have hj6 := cond_t hc7 hj6
              refine q_skip hF (wanted_f hF rfl rfl rfl hc7 rfl) rfl fun a hF => ?_
              refine q_skip hF (wanted_f hF rfl rfl rfl hc7 rfl) rfl fun a hF => ?_
              refine q_skip hF (wanted_f hF rfl rfl rfl hc7 rfl) rfl fun a hF => ?_
              refine q_x (v := (.bool true)) hF hS (ex_pick_t rfl rfl hc7) rfl rfl fun a hF => ?_
              refine q_end (n_jn ?_)
              obtain rfl := someI hj6
              exact ⟨hF.sub ⟨rfl, rfl, rfl, trivial⟩, hS.mask [false, true, false, false]⟩
          · rintro a w ⟨hF, hS⟩
            refine n_sq ?_
            rcases hc8 : (t_24) with _ | _
            · have hr := cond_f hc8 hr
              refine q_cond_f hF rfl hc8 ?_
              refine q_skipc (n_sq ?_)
              refine q_seq ?_
              refine q_region ?_
              refine q_x (v := (.int .i64 1)) hF hS (ex_assign rfl) rfl rfl fun a hF => ?_
              refine q_end (n_sq ?_)
              refine q_seq ?_
              refine q_region ?_
              refine q_x (v := s9.v) hF hS (ex_move rfl) rfl rfl fun a hF => ?_
              refine q_x (v := (.int .i64 1)) hF hS (ex_move rfl) rfl rfl fun a hF => ?_
              obtain ⟨m26, hl26, hv26, hz26⟩ := hS.lend
              obtain ⟨t_25, ht_25, hr⟩ := bindS hr
              refine q_call (vs := [s9.v, (.int .i64 1)]) hF hS Try.func44 (by kernel_rfl) rfl rfl rfl (c_laws_heldFracS t_14.2 1 t_25 ht_25 _ m26 hv26 s9 (h15.froz hl26 (hz26 0 _ rfl))) ?_
              rintro a w _ rfl hF hS
              refine q_x (v := (.int .i64 t_25)) hF hS (ex_assign rfl) rfl rfl fun a hF => ?_
              refine q_end (n_sq ?_)
              refine q_seq ?_
              refine q_seq ?_
              refine q_region ?_
              refine q_x (v := (.int .i64 t_25)) hF hS (ex_move rfl) rfl rfl fun a hF => ?_
              refine q_x (v := (.bool (decide (t_25 < 0)))) hF hS (ex_ibin rfl rfl rfl) rfl rfl fun a hF => ?_
              refine q_end (n_sq ?_)
              rcases hc9 : (decide (t_25 < 0)) with _ | _
              · have hr := cond_f hc9 hr
                refine q_cond_f hF rfl hc9 ?_
                refine q_skipc (n_sq ?_)
                refine q_seq ?_
                refine q_seq ?_
                refine q_region ?_
                refine q_x (v := (.int .i64 t_25)) hF hS (ex_move rfl) rfl rfl fun a hF => ?_
                refine q_x (v := (.int .i64 t_14.1)) hF hS (ex_move rfl) rfl rfl fun a hF => ?_
                refine q_x (v := (.bool (t_25 != t_14.1))) hF hS (ex_ibin rfl rfl rfl) rfl rfl fun a hF => ?_
                refine q_end (n_sq ?_)
                rcases hc10 : (t_25 != t_14.1) with _ | _
                · have hr := cond_f hc10 hr
                  refine q_cond_f hF rfl hc10 ?_
                  refine q_skipc (n_sq ?_)
                  refine q_seq ?_
                  refine q_region ?_
                  refine q_x (v := (.bool true)) hF hS (ex_assign rfl) rfl rfl fun a hF => ?_
                  refine q_end (n_sq (q_ret ?_))
                  obtain rfl := someI hr
                  exact ret_of hF hS rfl (.tmp rfl .nil) rfl
                · have hr := cond_t hc10 hr
                  refine q_cond_t hF rfl hc10 ?_
                  refine q_seq ?_
                  refine q_region ?_
                  refine q_x (v := (.bool false)) hF hS (ex_assign rfl) rfl rfl fun a hF => ?_
                  refine q_end (n_sq (q_ret (r_sq ?_)))
                  obtain rfl := someI hr
                  exact ret_of hF hS rfl (.tmp rfl .nil) rfl
              · have hr := cond_t hc9 hr
                refine q_cond_t hF rfl hc9 ?_
                refine q_seq ?_
                refine q_region ?_
                refine q_x (v := (.bool false)) hF hS (ex_assign rfl) rfl rfl fun a hF => ?_
                refine q_end (n_sq (q_ret (r_sq ?_)))
                obtain rfl := someI hr
                exact ret_of hF hS rfl (.tmp rfl .nil) rfl
            · have hr := cond_t hc8 hr
              refine q_cond_t hF rfl hc8 ?_
              refine q_seq ?_
              refine q_region ?_
              refine q_x (v := (.bool false)) hF hS (ex_assign rfl) rfl rfl fun a hF => ?_
              refine q_end (n_sq (q_ret (r_sq ?_)))
              obtain rfl := someI hr
              exact ret_of hF hS rfl (.tmp rfl .nil) rfl
        · have hr := cond_t hc5 hr
          refine q_cond_t hF rfl hc5 ?_
          refine q_seq ?_
          refine q_region ?_
          refine q_x (v := (.bool false)) hF hS (ex_assign rfl) rfl rfl fun a hF => ?_
          refine q_end (n_sq (q_ret (r_sq ?_)))
          obtain rfl := someI hr
          exact ret_of hF hS rfl (.tmp rfl .nil) rfl
      · have hr := cond_t hc4 hr
        refine q_cond_t hF rfl hc4 ?_
        refine q_seq ?_
        refine q_region ?_
        refine q_x (v := (.bool false)) hF hS (ex_assign rfl) rfl rfl fun a hF => ?_
        refine q_end (n_sq (q_ret (r_sq ?_)))
        obtain rfl := someI hr
        exact ret_of hF hS rfl (.tmp rfl .nil) rfl
    · have hr := cond_t hc3 hr
      refine q_cond_t hF rfl hc3 ?_
      refine q_seq ?_
      refine q_region ?_
      refine q_x (v := (.bool false)) hF hS (ex_assign rfl) rfl rfl fun a hF => ?_
      refine q_end (n_sq (q_ret (r_sq ?_)))
      obtain rfl := someI hr
      exact ret_of hF hS rfl (.tmp rfl .nil) rfl

theorem c_spec_l1Sign (p_n : Int) (r : Int) (hr : spec_l1Sign p_n = some r) (w0 : World) (m : Mem) (hv : Vis m w0) :
    Ret Try.prog 142 [(.int .i64 p_n)] w0 (fun v _ => v = (.int .i64 r)) := by
  unfold spec_l1Sign at hr
  refine ret_start Try.func142 rfl 9 rfl rfl m hv fun a hF hS => ?_
  refine q_seq ?_
  refine q_region ?_
  refine q_x (v := (.int .i64 0)) hF hS (ex_assign rfl) rfl rfl fun a hF => ?_
  refine q_end (n_sq ?_)
  refine q_seq ?_
  refine q_block ?_
  refine q_seq ?_
  refine q_region ?_
  refine q_x (v := (.int .i64 p_n)) hF hS (ex_move rfl) rfl rfl fun a hF => ?_
  refine q_x (v := (.bool (decide (p_n < 0)))) hF hS (ex_ibin rfl rfl rfl) rfl rfl fun a hF => ?_
  refine q_x (v := (.bool (decide (p_n < 0)))) hF hS (ex_assign rfl) rfl rfl fun a hF => ?_
  refine q_end (n_sq ?_)
  rcases hc1 : (decide (p_n < 0)) with _ | _
  · have hr := cond_f hc1 hr
    refine q_cond_f hF rfl hc1 ?_
    refine q_seq ?_
    refine q_region ?_
    refine q_x (v := (.int .i64 p_n)) hF hS (ex_move rfl) rfl rfl fun a hF => ?_
    refine q_x (v := (.bool (decide (0 < p_n)))) hF hS (ex_ibin rfl rfl rfl) rfl rfl fun a hF => ?_
    refine q_x (v := (.bool (decide (0 < p_n)))) hF hS (ex_assign rfl) rfl rfl fun a hF => ?_
    refine q_end (n_sq ?_)
    rcases hc2 : (decide (0 < p_n)) with _ | _
    · have hr := cond_f hc2 hr
      refine q_cond_f hF rfl hc2 ?_
      refine q_skipc (n_ib (n_sq ?_))
      refine q_seq ?_
      refine q_region ?_
      refine q_x (v := (.int .i64 0)) hF hS (ex_assign rfl) rfl rfl fun a hF => ?_
      refine q_end (n_sq (q_ret ?_))
      obtain rfl := someI hr
      exact ret_of hF hS rfl (.tmp rfl .nil) rfl
    · have hr := cond_t hc2 hr
      refine q_cond_t hF rfl hc2 ?_
      refine q_seq ?_
      refine q_region ?_
      refine q_x (v := (.int .i64 1)) hF hS (ex_assign rfl) rfl rfl fun a hF => ?_
      refine q_end (n_sq (q_ret (r_ib (r_sq ?_))))
      obtain rfl := someI hr
      exact ret_of hF hS rfl (.tmp rfl .nil) rfl
  · have hr := cond_t hc1 hr
    refine q_cond_t hF rfl hc1 ?_
    refine q_seq ?_
    refine q_region ?_
    refine q_x (v := (.int .i64 (-1))) hF hS (ex_assign rfl) rfl rfl fun a hF => ?_
    refine q_end (n_sq (q_ret (r_ib (r_sq ?_))))
    obtain rfl := someI hr
    exact ret_of hF hS rfl (.tmp rfl .nil) rfl

theorem c_spec_fCmp (p_a : impl_Frac) (p_b : impl_Frac) (r : Int) (hr : spec_fCmp p_a p_b = some r) (w0 : World) (m : Mem) (hv : Vis m w0) :
    Ret Try.prog 98 [(.agg #[(.int .i64 p_a.Num), (.int .i64 p_a.Den)]), (.agg #[(.int .i64 p_b.Num), (.int .i64 p_b.Den)])] w0 (fun v _ => v = (.int .i64 r)) := by
  unfold spec_fCmp at hr
  refine ret_start Try.func98 rfl 17 rfl rfl m hv fun a hF hS => ?_
  refine q_seq ?_
  refine q_region ?_
  refine q_box (cs := [(.int .i64 p_a.Num), (.int .i64 p_a.Den)]) hF hS rfl rfl rfl fun a w b1 hF hS => ?_
  refine q_box (cs := [(.int .i64 p_b.Num), (.int .i64 p_b.Den)]) hF hS rfl rfl rfl fun a w b2 hF hS => ?_
  refine q_x (v := (.int .i64 0)) hF hS (ex_assign rfl) rfl rfl fun a hF => ?_
  refine q_end (n_sq ?_)
  refine q_seq ?_
  refine q_region ?_
  refine q_x (v := (.pointer (some ⟨b1, 0, none⟩))) hF hS (ex_fieldAddr Try.underlying26 rfl sz3 rfl rfl) rfl rfl fun a hF => ?_
  refine q_x (v := (.int .i64 p_a.Num)) hF hS (ex_load1 1 0 Try.underlying3 rfl rfl rfl rfl) rfl rfl fun a hF => ?_
  refine q_x (v := (.pointer (some ⟨b2, 1, none⟩))) hF hS (ex_fieldAddr Try.underlying26 rfl sz3 rfl rfl) rfl rfl fun a hF => ?_
  refine q_x (v := (.int .i64 p_b.Den)) hF hS (ex_load1 0 0 Try.underlying3 rfl rfl rfl rfl) rfl rfl fun a hF => ?_
  refine q_x (v := (.int .i64 (w64 (p_a.Num * p_b.Den)))) hF hS (ex_ibin rfl rfl rfl) rfl rfl fun a hF => ?_
  refine q_x (v := (.pointer (some ⟨b2, 0, none⟩))) hF hS (ex_fieldAddr Try.underlying26 rfl sz3 rfl rfl) rfl rfl fun a hF => ?_
  refine q_x (v := (.int .i64 p_b.Num)) hF hS (ex_load1 0 0 Try.underlying3 rfl rfl rfl rfl) rfl rfl fun a hF => ?_
  refine q_x (v := (.pointer (some ⟨b1, 1, none⟩))) hF hS (ex_fieldAddr Try.underlying26 rfl sz3 rfl rfl) rfl rfl fun a hF => ?_
  refine q_x (v := (.int .i64 p_a.Den)) hF hS (ex_load1 1 0 Try.underlying3 rfl rfl rfl rfl) rfl rfl fun a hF => ?_
  refine q_x (v := (.int .i64 (w64 (p_b.Num * p_a.Den)))) hF hS (ex_ibin rfl rfl rfl) rfl rfl fun a hF => ?_
  refine q_x (v := (.int .i64 (w64 ((w64 (p_a.Num * p_b.Den)) - (w64 (p_b.Num * p_a.Den)))))) hF hS (ex_ibin rfl rfl rfl) rfl rfl fun a hF => ?_
  obtain ⟨t_3, ht_3, hr⟩ := bindS hr
  refine q_call (vs := [(.int .i64 (w64 ((w64 (p_a.Num * p_b.Den)) - (w64 (p_b.Num * p_a.Den)))))]) hF hS Try.func142 (by kernel_rfl) rfl rfl rfl (c_spec_l1Sign (w64 ((w64 (p_a.Num * p_b.Den)) - (w64 (p_b.Num * p_a.Den)))) t_3 ht_3 _ m hS.vis) ?_
  rintro a w _ rfl hF hS
  refine q_x (v := (.int .i64 t_3)) hF hS (ex_assign rfl) rfl rfl fun a hF => ?_
  refine q_end (n_sq (q_ret ?_))
  obtain rfl := someI hr
  exact ret_of hF hS rfl (.tmp rfl .nil) rfl

theorem c_spec_WorstRatio (p_a : impl_Frac) (p_lo : Int) (p_hi : Int) (r : impl_Frac × Bool) (hr : spec_WorstRatio p_a p_lo p_hi = some r) (w0 : World) (m : Mem) (hv : Vis m w0) :
    Ret Try.prog 58 [(.agg #[(.int .i64 p_a.Num), (.int .i64 p_a.Den)]), (.int .i64 p_lo), (.int .i64 p_hi)] w0 (fun v _ => v = (.tuple #[(.agg #[(.int .i64 r.1.Num), (.int .i64 r.1.Den)]), (.bool r.2)])) := by
  unfold spec_WorstRatio at hr
  refine ret_start Try.func58 rfl 108 rfl rfl m hv fun a hF hS => ?_
  refine q_seq ?_
  refine q_region ?_
  refine q_box (cs := [(.int .i64 p_a.Num), (.int .i64 p_a.Den)]) hF hS rfl rfl rfl fun a w b1 hF hS => ?_
  refine q_alloc (cs := [(.int .i64 0), (.int .i64 0)]) hF hS rfl rfl rfl fun a w b2 hF hS => ?_
  refine q_x (v := (.bool false)) hF hS (ex_assign rfl) rfl rfl fun a hF => ?_
  refine q_end (n_sq ?_)
  refine q_seq ?_
  refine q_seq ?_
  obtain ⟨t_5, hj1, hr⟩ := bindS hr
  refine q_join (fun a w => Fr a 108 [(1, (.int .i64 p_lo)), (2, (.int .i64 p_hi)), (3, (.pointer (some ⟨b1, 0, none⟩))), (6, (.pointer (some ⟨b2, 0, none⟩))), (27, (.bool t_5))] ∧ St [] w0 w m [[⟨b2, [(.int .i64 0), (.int .i64 0)], 26⟩], [⟨b1, [(.int .i64 p_a.Num), (.int .i64 p_a.Den)], 26⟩]]) ?_ ?_
  · refine q_region ?_
    refine q_x (v := (.agg #[(.int .i64 p_a.Num), (.int .i64 p_a.Den)])) hF hS (ex_loadA (vs := [(.int .i64 p_a.Num), (.int .i64 p_a.Den)]) 1 0 Try.underlying26 rfl sz26 rfl rfl rfl rfl) rfl rfl fun a hF => ?_
    obtain ⟨t_3, ht_3, hj1⟩ := bindS hj1
    refine q_call (vs := [(.agg #[(.int .i64 p_a.Num), (.int .i64 p_a.Den)])]) hF hS Try.func85 (by kernel_rfl) rfl rfl rfl (c_spec_zRatio p_a t_3 ht_3 _ m hS.vis) ?_
    rintro a w _ rfl hF hS
    refine q_x (v := (.bool (!t_3))) hF hS (ex_not rfl) rfl rfl fun a hF => ?_
    refine q_x (v := (.bool (!t_3))) hF hS (ex_move rfl) rfl rfl fun a hF => ?_
    rcases hc2 : (!t_3) with _ | _
    · have hj1 := cond_f hc2 hj1
      refine q_xg (v := (.int .i64 p_lo)) hF hS (ex_move rfl) (wanted_t hF rfl rfl rfl hc2) rfl fun a hF => ?_
      refine q_xg (v := (.int .i64 p_hi)) hF hS (ex_move rfl) (wanted_t hF rfl rfl rfl hc2) rfl fun a hF => ?_
      obtain ⟨t_4, ht_4, hj1⟩ := bindS hj1
      refine q_callg (vs := [(.int .i64 p_lo), (.int .i64 p_hi)]) hF hS (wanted_t hF rfl rfl rfl hc2) Try.func123 (by kernel_rfl) rfl rfl rfl (c_spec_zBounds p_lo p_hi t_4 ht_4 _ m hS.vis) ?_
      rintro a w _ rfl hF hS
      refine q_xg (v := (.bool (!t_4))) hF hS (ex_not rfl) (wanted_t hF rfl rfl rfl hc2) rfl fun a hF => ?_
      refine q_x (v := (.bool (!t_4))) hF hS (ex_pick_f rfl rfl hc2) rfl rfl fun a hF => ?_
      refine q_end (n_jn ?_)
      obtain rfl := someI hj1
      exact ⟨hF.sub ⟨rfl, rfl, rfl, rfl, rfl, trivial⟩, hS⟩
    · have hj1 := cond_t hc2 hj1
      refine q_skip hF (wanted_f hF rfl rfl rfl hc2 rfl) rfl fun a hF => ?_
      refine q_skip hF (wanted_f hF rfl rfl rfl hc2 rfl) rfl fun a hF => ?_
      refine q_skip hF (wanted_f hF rfl rfl rfl hc2 rfl) rfl fun a hF => ?_
      refine q_skip hF (wanted_f hF rfl rfl rfl hc2 rfl) rfl fun a hF => ?_
      refine q_x (v := (.bool true)) hF hS (ex_pick_t rfl rfl hc2) rfl rfl fun a hF => ?_
      refine q_end (n_jn ?_)
      obtain rfl := someI hj1
      exact ⟨hF.sub ⟨rfl, rfl, rfl, rfl, rfl, trivial⟩, hS⟩
  · rintro a w ⟨hF, hS⟩
    refine n_sq ?_
    rcases hc3 : (t_5) with _ | _
    · have hr := cond_f hc3 hr
      refine q_cond_f hF rfl hc3 ?_
      refine q_skipc (n_sq ?_)
      refine q_seq ?_
      refine q_region ?_
      obtain ⟨t_6, ht_6, hr⟩ := bindS hr
      refine q_call (vs := [(.int .i64 1)]) hF hS Try.func97 (by kernel_rfl) rfl rfl rfl (c_spec_fInt 1 t_6 ht_6 _ m hS.vis) ?_
      rintro a w _ rfl hF hS
      refine q_alloc (cs := [(.int .i64 0), (.int .i64 0)]) hF hS rfl rfl rfl fun a w b7 hF hS => ?_
      refine q_store (vs := [(.int .i64 t_6.Num), (.int .i64 t_6.Den)]) (cs' := [(.int .i64 t_6.Num), (.int .i64 t_6.Den)]) 0 0 hF hS sz26 rfl rfl rfl rfl rfl rfl rfl rfl fun a w hF hS => ?_
      refine q_end (n_sq ?_)
      refine q_seq ?_
      refine q_seq ?_
      refine q_region ?_
      refine q_x (v := (.int .i64 p_lo)) hF hS (ex_move rfl) rfl rfl fun a hF => ?_
      refine q_x (v := (.int .i64 p_lo)) hF hS (ex_assign rfl) rfl rfl fun a hF => ?_
      refine q_end (n_sq ?_)
      refine q_block ?_
      obtain ⟨o4, hl4, hr⟩ := bindS hr
      refine q_loop (fun (s : Int × impl_Frac) a w => ∃ x_8, ∃ best_9, s = (x_8, best_9) ∧ Fr a 108 [(1, (.int .i64 p_lo)), (2, (.int .i64 p_hi)), (3, (.pointer (some ⟨b1, 0, none⟩))), (6, (.pointer (some ⟨b2, 0, none⟩))), (8, (.pointer (some ⟨b7, 0, none⟩))), (9, (.int .i64 x_8))] ∧ St [] w0 w m [[⟨b7, [(.int .i64 best_9.Num), (.int .i64 best_9.Den)], 26⟩], [⟨b2, [(.int .i64 0), (.int .i64 0)], 26⟩], [⟨b1, [(.int .i64 p_a.Num), (.int .i64 p_a.Den)], 26⟩]]) (fun (o : (impl_Frac) ⊕ (impl_Frac × Bool)) e a w => ∃ best_43, o = .inl best_43 ∧ e = .exit 0 ∧ Fr a 108 [(6, (.pointer (some ⟨b2, 0, none⟩))), (8, (.pointer (some ⟨b7, 0, none⟩)))] ∧ St [] w0 w m [[⟨b7, [(.int .i64 best_43.Num), (.int .i64 best_43.Den)], 26⟩], [⟨b2, [(.int .i64 0), (.int .i64 0)], 26⟩]]) hl4 ⟨_, _, rfl, hF.sub ⟨rfl, rfl, rfl, rfl, rfl, rfl, trivial⟩, hS⟩ ?_ ?_
      · clear hF hS
        rintro s a w st ⟨x_8, best_9, rfl, hF, hS⟩ hb4
        unfold spec_WorstRatio_l1 at hb4
        refine q_seq ?_
        refine q_seq ?_
        refine q_region ?_
        refine q_x (v := (.int .i64 x_8)) hF hS (ex_move rfl) rfl rfl fun a hF => ?_
        refine q_x (v := (.int .i64 p_hi)) hF hS (ex_move rfl) rfl rfl fun a hF => ?_
        refine q_x (v := (.bool (decide (x_8 < p_hi)))) hF hS (ex_ibin rfl rfl rfl) rfl rfl fun a hF => ?_
        refine q_end (n_sq ?_)
        rcases hc5 : (decide (x_8 < p_hi)) with _ | _
        · have hb4 := cond_f hc5 hb4
          refine q_cond_f hF rfl hc5 ?_
          refine q_exit (x_sq ?_)
          obtain rfl := someI hb4
          exact ⟨nofun, .inl ⟨_, rfl, rfl, hF.sub ⟨rfl, rfl, trivial⟩, hS.mask [true, true, false]⟩⟩
        · have hb4 := cond_t hc5 hb4
          refine q_cond_t hF rfl hc5 ?_
          refine q_skipc (n_sq ?_)
          refine q_seq ?_
          refine q_block ?_
          refine q_seq ?_
          refine q_region ?_
          refine q_x (v := (.agg #[(.int .i64 p_a.Num), (.int .i64 p_a.Den)])) hF hS (ex_loadA (vs := [(.int .i64 p_a.Num), (.int .i64 p_a.Den)]) 2 0 Try.underlying26 rfl sz26 rfl rfl rfl rfl) rfl rfl fun a hF => ?_
          refine q_x (v := (.int .i64 p_lo)) hF hS (ex_move rfl) rfl rfl fun a hF => ?_
          refine q_x (v := (.int .i64 p_hi)) hF hS (ex_move rfl) rfl rfl fun a hF => ?_
          refine q_x (v := (.int .i64 x_8)) hF hS (ex_move rfl) rfl rfl fun a hF => ?_
          obtain ⟨t_10, ht_10, hb4⟩ := bindS hb4
          refine q_call (vs := [(.agg #[(.int .i64 p_a.Num), (.int .i64 p_a.Den)]), (.int .i64 p_lo), (.int .i64 p_hi), (.int .i64 x_8)]) hF hS Try.func124 (by kernel_rfl) rfl rfl rfl (c_spec_zClamped p_a p_lo p_hi x_8 t_10 ht_10 _ m hS.vis) ?_
          rintro a w _ ⟨q12, s12, rfl, hR11, h12⟩ hF hS2
          have hS : St _ _ _ _ [q12, [⟨b7, [(.int .i64 best_9.Num), (.int .i64 best_9.Den)], 26⟩], [⟨b2, [(.int .i64 0), (.int .i64 0)], 26⟩], [⟨b1, [(.int .i64 p_a.Num), (.int .i64 p_a.Den)], 26⟩]] := hS.joinF hR11
          refine q_x (v := (.tuple #[s12.v, (.bool t_10.2)])) hF hS (ex_move rfl) rfl rfl fun a hF => ?_
          refine q_x (v := s12.v) hF hS (ex_extract rfl rfl) rfl rfl fun a hF => ?_
          refine q_x (v := (.bool t_10.2)) hF hS (ex_extract rfl rfl) rfl rfl fun a hF => ?_
          refine q_x (v := s12.v) hF hS (ex_assign rfl) rfl rfl fun a hF => ?_
          refine q_x (v := (.bool t_10.2)) hF hS (ex_assign rfl) rfl rfl fun a hF => ?_
          refine q_end (n_sq ?_)
          refine q_seq ?_
          refine q_region ?_
          refine q_x (v := (.agg #[(.int .i64 p_a.Num), (.int .i64 p_a.Den)])) hF hS (ex_loadA (vs := [(.int .i64 p_a.Num), (.int .i64 p_a.Den)]) 3 0 Try.underlying26 rfl sz26 rfl rfl rfl rfl) rfl rfl fun a hF => ?_
          refine q_x (v := (.int .i64 p_lo)) hF hS (ex_move rfl) rfl rfl fun a hF => ?_
          refine q_x (v := (.int .i64 p_hi)) hF hS (ex_move rfl) rfl rfl fun a hF => ?_
          refine q_x (v := (.int .i64 x_8)) hF hS (ex_move rfl) rfl rfl fun a hF => ?_
          refine q_x (v := (.int .i64 (w64 (x_8 + 1)))) hF hS (ex_ibin rfl rfl rfl) rfl rfl fun a hF => ?_
          obtain ⟨t_13, ht_13, hb4⟩ := bindS hb4
          refine q_call (vs := [(.agg #[(.int .i64 p_a.Num), (.int .i64 p_a.Den)]), (.int .i64 p_lo), (.int .i64 p_hi), (.int .i64 (w64 (x_8 + 1)))]) hF hS Try.func124 (by kernel_rfl) rfl rfl rfl (c_spec_zClamped p_a p_lo p_hi (w64 (x_8 + 1)) t_13 ht_13 _ m hS.vis) ?_
          rintro a w _ ⟨q15, s15, rfl, hR14, h15⟩ hF hS2
          have hS : St _ _ _ _ [q15, q12, [⟨b7, [(.int .i64 best_9.Num), (.int .i64 best_9.Den)], 26⟩], [⟨b2, [(.int .i64 0), (.int .i64 0)], 26⟩], [⟨b1, [(.int .i64 p_a.Num), (.int .i64 p_a.Den)], 26⟩]] := hS.joinF hR14
          refine q_x (v := (.tuple #[s15.v, (.bool t_13.2)])) hF hS (ex_move rfl) rfl rfl fun a hF => ?_
          refine q_x (v := s15.v) hF hS (ex_extract rfl rfl) rfl rfl fun a hF => ?_
          refine q_x (v := (.bool t_13.2)) hF hS (ex_extract rfl rfl) rfl rfl fun a hF => ?_
          refine q_x (v := s15.v) hF hS (ex_assign rfl) rfl rfl fun a hF => ?_
          refine q_x (v := (.bool t_13.2)) hF hS (ex_assign rfl) rfl rfl fun a hF => ?_
          refine q_end (n_sq ?_)
          refine q_seq ?_
          refine q_seq ?_
          obtain ⟨t_16, hj6, hb4⟩ := bindS hb4
          refine q_join (fun a w => Fr a 108 [(1, (.int .i64 p_lo)), (2, (.int .i64 p_hi)), (3, (.pointer (some ⟨b1, 0, none⟩))), (6, (.pointer (some ⟨b2, 0, none⟩))), (8, (.pointer (some ⟨b7, 0, none⟩))), (9, (.int .i64 x_8)), (10, s12.v), (12, s15.v), (58, (.bool t_16))] ∧ St [] w0 w m [q12, q15, [⟨b7, [(.int .i64 best_9.Num), (.int .i64 best_9.Den)], 26⟩], [⟨b2, [(.int .i64 0), (.int .i64 0)], 26⟩], [⟨b1, [(.int .i64 p_a.Num), (.int .i64 p_a.Den)], 26⟩]]) ?_ ?_
          · refine q_region ?_
            refine q_x (v := (.bool t_10.2)) hF hS (ex_move rfl) rfl rfl fun a hF => ?_
            refine q_x (v := (.bool (!t_10.2))) hF hS (ex_not rfl) rfl rfl fun a hF => ?_
            refine q_x (v := (.bool (!t_10.2))) hF hS (ex_move rfl) rfl rfl fun a hF => ?_
            rcases hc7 : (!t_10.2) with _ | _
            · have hj6 := cond_f hc7 hj6
              refine q_xg (v := (.bool t_13.2)) hF hS (ex_move rfl) (wanted_t hF rfl rfl rfl hc7) rfl fun a hF => ?_
              refine q_xg (v := (.bool (!t_13.2))) hF hS (ex_not rfl) (wanted_t hF rfl rfl rfl hc7) rfl fun a hF => ?_
              refine q_x (v := (.bool (!t_13.2))) hF hS (ex_pick_f rfl rfl hc7) rfl rfl fun a hF => ?_
              refine q_end (n_jn ?_)
              obtain rfl := someI hj6
              exact ⟨hF.sub ⟨rfl, rfl, rfl, rfl, rfl, rfl, rfl, rfl, rfl, trivial⟩, hS.sel [1, 0, 2, 3, 4] (by decide)⟩
            · have hj6 := cond_t hc7 hj6
              refine q_skip hF (wanted_f hF rfl rfl rfl hc7 rfl) rfl fun a hF => ?_
              refine q_skip hF (wanted_f hF rfl rfl rfl hc7 rfl) rfl fun a hF => ?_
              refine q_x (v := (.bool true)) hF hS (ex_pick_t rfl rfl hc7) rfl rfl fun a hF => ?_
              refine q_end (n_jn ?_)
              obtain rfl := someI hj6
              exact ⟨hF.sub ⟨rfl, rfl, rfl, rfl, rfl, rfl, rfl, rfl, rfl, trivial⟩, hS.sel [1, 0, 2, 3, 4] (by decide)⟩
          · rintro a w ⟨hF, hS⟩
            refine n_sq ?_
            rcases hc8 : (t_16) with _ | _
            · have hb4 := cond_f hc8 hb4
              refine q_cond_f hF rfl hc8 ?_
              refine q_skipc (n_sq ?_)
              refine q_seq ?_
              refine q_region ?_
              refine q_x (v := s12.v) hF hS (ex_move rfl) rfl rfl fun a hF => ?_
              refine q_x (v := (.int .i64 (goLen t_10.1))) hF hS (ex_len Try.underlying51 rfl h12.len) rfl rfl fun a hF => ?_
              refine q_x (v := (.int .i64 0)) hF hS (ex_move rfl) rfl rfl fun a hF => ?_
              refine q_end (n_sq ?_)
              refine q_block ?_
              obtain ⟨o9, hl9, hb4⟩ := bindS hb4
              refine q_loop (fun (s : Int × impl_Frac) a w => ∃ t_17, ∃ best_18, s = (t_17, best_18) ∧ Fr a 108 [(1, (.int .i64 p_lo)), (2, (.int .i64 p_hi)), (3, (.pointer (some ⟨b1, 0, none⟩))), (6, (.pointer (some ⟨b2, 0, none⟩))), (8, (.pointer (some ⟨b7, 0, none⟩))), (9, (.int .i64 x_8)), (10, s12.v), (12, s15.v), (61, (.int .i64 (goLen t_10.1))), (62, (.int .i64 t_17))] ∧ St [] w0 w m [q12, q15, [⟨b7, [(.int .i64 best_18.Num), (.int .i64 best_18.Den)], 26⟩], [⟨b2, [(.int .i64 0), (.int .i64 0)], 26⟩], [⟨b1, [(.int .i64 p_a.Num), (.int .i64 p_a.Den)], 26⟩]]) (fun (o : (impl_Frac) ⊕ (Stp (Int × impl_Frac) ((impl_Frac) ⊕ (impl_Frac × Bool)))) e a w => ∃ best_42, o = .inl best_42 ∧ e = .exit 2 ∧ Fr a 108 [(1, (.int .i64 p_lo)), (2, (.int .i64 p_hi)), (3, (.pointer (some ⟨b1, 0, none⟩))), (6, (.pointer (some ⟨b2, 0, none⟩))), (8, (.pointer (some ⟨b7, 0, none⟩))), (9, (.int .i64 x_8))] ∧ St [] w0 w m [[⟨b7, [(.int .i64 best_42.Num), (.int .i64 best_42.Den)], 26⟩], [⟨b2, [(.int .i64 0), (.int .i64 0)], 26⟩], [⟨b1, [(.int .i64 p_a.Num), (.int .i64 p_a.Den)], 26⟩]]) hl9 ⟨_, _, rfl, hF.sub ⟨rfl, rfl, rfl, rfl, rfl, rfl, rfl, rfl, rfl, rfl, trivial⟩, hS⟩ ?_ ?_
              · clear hF hS
                rintro s a w st ⟨t_17, best_18, rfl, hF, hS⟩ hb9
                unfold spec_WorstRatio_l2 at hb9
                refine q_seq ?_
                refine q_region ?_
                refine q_x (v := (.bool (decide (t_17 < (goLen t_10.1))))) hF hS (ex_ibin rfl rfl rfl) rfl rfl fun a hF => ?_
                refine q_end (n_sq ?_)
                refine q_seq ?_
                rcases hc10 : (decide (t_17 < (goLen t_10.1))) with _ | _
                · have hb9 := cond_f hc10 hb9
                  refine q_cond_f hF rfl hc10 ?_
                  refine q_exit (x_sq ?_)
                  obtain rfl := someI hb9
                  exact ⟨nofun, .inl ⟨_, rfl, rfl, hF.sub ⟨rfl, rfl, rfl, rfl, rfl, rfl, trivial⟩, hS.mask [false, false, true, true, true]⟩⟩
                · have hb9 := cond_t hc10 hb9
                  refine q_cond_t hF rfl hc10 ?_
                  refine q_skipc (n_sq ?_)
                  refine q_seq ?_
                  refine q_block ?_
                  refine q_seq ?_
                  refine q_region ?_
                  refine q_x (v := (.int .i64 t_17)) hF hS (ex_move rfl) rfl rfl fun a hF => ?_
                  refine q_x (v := (.int .i64 t_17)) hF hS (ex_assign rfl) rfl rfl fun a hF => ?_
                  refine q_end (n_sq ?_)
                  refine q_seq ?_
                  obtain ⟨j11, hj11, hb9⟩ := bindS hb9
                  refine q_join (fun a w => ∃ b25, ∃ three_26, ∃ u_27, j11 = (three_26, u_27) ∧ Fr a 108 [(1, (.int .i64 p_lo)), (2, (.int .i64 p_hi)), (3, (.pointer (some ⟨b1, 0, none⟩))), (6, (.pointer (some ⟨b2, 0, none⟩))), (8, (.pointer (some ⟨b7, 0, none⟩))), (9, (.int .i64 x_8)), (10, s12.v), (12, s15.v), (14, (.int .i64 t_17)), (15, (.pointer (some ⟨b25, 0, none⟩))), (16, (.bool three_26)), (61, (.int .i64 (goLen t_10.1))), (62, (.int .i64 t_17))] ∧ St [] w0 w m [q12, q15, [⟨b25, [(.int .i64 u_27.Num), (.int .i64 u_27.Den)], 26⟩], [⟨b7, [(.int .i64 best_18.Num), (.int .i64 best_18.Den)], 26⟩], [⟨b2, [(.int .i64 0), (.int .i64 0)], 26⟩], [⟨b1, [(.int .i64 p_a.Num), (.int .i64 p_a.Den)], 26⟩]]) ?_ ?_
                  · refine e_region [13] mixed fun w' hw' => ?_
                    have hS := hS.below hw'
                    refine e_p (v := s12.v) 0 hF rfl (ex_move rfl) rfl rfl (by kernel_rfl) (by kernel_rfl) (by kernel_rfl) fun a hF => ?_
                    refine e_p (v := (.int .i64 t_17)) 1 hF rfl (ex_move rfl) rfl rfl (by kernel_rfl) (by kernel_rfl) (by kernel_rfl) fun a hF => ?_
                    obtain ⟨e_19, he_19, hj11⟩ := bindS hj11
                    obtain ⟨vs20, at20, d20⟩ := h12.at he_19 2 rfl
                    obtain rfl : vs20 = [(.int .i64 e_19.Num), (.int .i64 e_19.Den)] := d20
                    refine e_p (v := (elP s12 (t_17.toNat * 2))) 2 hF rfl (ex_indexAddr Try.underlying51 sz26 rfl rfl (h12.idx he_19)) rfl rfl (by kernel_rfl) (by kernel_rfl) (by kernel_rfl) fun a hF => ?_
                    refine e_x (v := (.agg #[(.int .i64 e_19.Num), (.int .i64 e_19.Den)])) 3 hF hS rfl (ex_loadEA (us := [(.int .i64 e_19.Num), (.int .i64 e_19.Den)]) 0 Try.underlying26 rfl sz26 rfl (at20.at 0 rfl) rfl rfl rfl) rfl rfl (by kernel_rfl) (by kernel_rfl) (by kernel_rfl) (by kernel_rfl) fun a hF => ?_
                    refine e_p (v := s15.v) 4 hF rfl (ex_move rfl) rfl rfl (by kernel_rfl) (by kernel_rfl) (by kernel_rfl) fun a hF => ?_
                    refine e_p (v := (.int .i64 t_17)) 5 hF rfl (ex_move rfl) rfl rfl (by kernel_rfl) (by kernel_rfl) (by kernel_rfl) fun a hF => ?_
                    obtain ⟨e_21, he_21, hj11⟩ := bindS hj11
                    obtain ⟨vs22, at22, d22⟩ := h15.at he_21 2 rfl
                    obtain rfl : vs22 = [(.int .i64 e_21.Num), (.int .i64 e_21.Den)] := d22
                    refine e_p (v := (elP s15 (t_17.toNat * 2))) 6 hF rfl (ex_indexAddr Try.underlying51 sz26 rfl rfl (h15.idx he_21)) rfl rfl (by kernel_rfl) (by kernel_rfl) (by kernel_rfl) fun a hF => ?_
                    refine e_x (v := (.agg #[(.int .i64 e_21.Num), (.int .i64 e_21.Den)])) 7 hF hS rfl (ex_loadEA (us := [(.int .i64 e_21.Num), (.int .i64 e_21.Den)]) 0 Try.underlying26 rfl sz26 rfl (at22.at 1 rfl) rfl rfl rfl) rfl rfl (by kernel_rfl) (by kernel_rfl) (by kernel_rfl) (by kernel_rfl) fun a hF => ?_
                    obtain ⟨t_24, ht_24, hj11⟩ := bindS hj11
                    refine e_all [8, 12] (by kernel_rfl) rfl ⟨?_, ?_, trivial⟩
                    · refine e_call (vs := [(.agg #[(.int .i64 e_19.Num), (.int .i64 e_19.Den)]), (.agg #[(.int .i64 e_21.Num), (.int .i64 e_21.Den)])]) hF hS rfl Try.func71 (by kernel_rfl) rfl rfl rfl (c_spec_fDiv e_19 e_21 t_24 ht_24 _ m hS.vis) ?_
                      rintro a w _ rfl hF hS
                      refine e_p (v := (.tuple #[(.agg #[(.int .i64 t_24.1.Num), (.int .i64 t_24.1.Den)]), (.bool t_24.2)])) 9 hF rfl (ex_move rfl) rfl rfl (by kernel_rfl) (by kernel_rfl) (by kernel_rfl) fun a hF => ?_
                      refine e_p (v := (.agg #[(.int .i64 t_24.1.Num), (.int .i64 t_24.1.Den)])) 10 hF rfl (ex_extract rfl rfl) rfl rfl (by kernel_rfl) (by kernel_rfl) (by kernel_rfl) fun a hF => ?_
                      refine e_p (v := (.bool t_24.2)) 11 hF rfl (ex_extract rfl rfl) rfl rfl (by kernel_rfl) (by kernel_rfl) (by kernel_rfl) fun a hF => ?_
                      refine e_one 12 (by kernel_rfl) ?_
                      refine e_alloc (cs := [(.int .i64 0), (.int .i64 0)]) hF hS rfl rfl rfl rfl fun a w b25 hF hS => ?_
                      refine e_one 13 (by kernel_rfl) ?_
                      refine e_store (vs := [(.int .i64 t_24.1.Num), (.int .i64 t_24.1.Den)]) (cs' := [(.int .i64 t_24.1.Num), (.int .i64 t_24.1.Den)]) 0 0 hF hS rfl rfl sz26 rfl rfl rfl rfl rfl rfl rfl rfl fun a w hF hS => ?_
                      refine e_p (v := (.bool t_24.2)) 14 hF rfl (ex_assign rfl) rfl rfl (by kernel_rfl) (by kernel_rfl) (by kernel_rfl) fun a hF => ?_
                      refine e_end (by kernel_rfl) (n_jn ?_) _
                      obtain rfl := someI hj11
                      exact ⟨b25, _, _, rfl, hF.sub ⟨rfl, rfl, rfl, rfl, rfl, rfl, rfl, rfl, rfl, rfl, rfl, rfl, rfl, trivial⟩, hS.sel [1, 2, 0, 3, 4, 5] (by decide)⟩
                    · refine e_alloc (cs := [(.int .i64 0), (.int .i64 0)]) hF hS rfl rfl rfl rfl fun a w b25 hF hS => ?_
                      refine e_one 8 (by kernel_rfl) ?_
                      refine e_call (vs := [(.agg #[(.int .i64 e_19.Num), (.int .i64 e_19.Den)]), (.agg #[(.int .i64 e_21.Num), (.int .i64 e_21.Den)])]) hF hS rfl Try.func71 (by kernel_rfl) rfl rfl rfl (c_spec_fDiv e_19 e_21 t_24 ht_24 _ m hS.vis) ?_
                      rintro a w _ rfl hF hS
                      refine e_p (v := (.tuple #[(.agg #[(.int .i64 t_24.1.Num), (.int .i64 t_24.1.Den)]), (.bool t_24.2)])) 9 hF rfl (ex_move rfl) rfl rfl (by kernel_rfl) (by kernel_rfl) (by kernel_rfl) fun a hF => ?_
                      refine e_p (v := (.agg #[(.int .i64 t_24.1.Num), (.int .i64 t_24.1.Den)])) 10 hF rfl (ex_extract rfl rfl) rfl rfl (by kernel_rfl) (by kernel_rfl) (by kernel_rfl) fun a hF => ?_
                      refine e_p (v := (.bool t_24.2)) 11 hF rfl (ex_extract rfl rfl) rfl rfl (by kernel_rfl) (by kernel_rfl) (by kernel_rfl) fun a hF => ?_
                      refine e_one 13 (by kernel_rfl) ?_
                      refine e_store (vs := [(.int .i64 t_24.1.Num), (.int .i64 t_24.1.Den)]) (cs' := [(.int .i64 t_24.1.Num), (.int .i64 t_24.1.Den)]) 0 0 hF hS rfl rfl sz26 rfl rfl rfl rfl rfl rfl rfl rfl fun a w hF hS => ?_
                      refine e_p (v := (.bool t_24.2)) 14 hF rfl (ex_assign rfl) rfl rfl (by kernel_rfl) (by kernel_rfl) (by kernel_rfl) fun a hF => ?_
                      refine e_end (by kernel_rfl) (n_jn ?_) _
                      obtain rfl := someI hj11
                      exact ⟨b25, _, _, rfl, hF.sub ⟨rfl, rfl, rfl, rfl, rfl, rfl, rfl, rfl, rfl, rfl, rfl, rfl, rfl, trivial⟩, hS.sel [1, 2, 0, 3, 4, 5] (by decide)⟩
                  · rintro a w ⟨b25, three_26, u_27, rfl, hF, hS⟩
                    refine n_sq ?_
                    refine q_seq ?_
                    obtain ⟨j12, hj12, hb9⟩ := bindS hb9
                    refine q_join (fun a w => ∃ b34, ∃ four_35, ∃ v_36, j12 = (four_35, v_36) ∧ Fr a 108 [(1, (.int .i64 p_lo)), (2, (.int .i64 p_hi)), (3, (.pointer (some ⟨b1, 0, none⟩))), (6, (.pointer (some ⟨b2, 0, none⟩))), (8, (.pointer (some ⟨b7, 0, none⟩))), (9, (.int .i64 x_8)), (10, s12.v), (12, s15.v), (15, (.pointer (some ⟨b25, 0, none⟩))), (16, (.bool three_26)), (17, (.pointer (some ⟨b34, 0, none⟩))), (18, (.bool four_35)), (61, (.int .i64 (goLen t_10.1))), (62, (.int .i64 t_17))] ∧ St [] w0 w m [q12, q15, [⟨b34, [(.int .i64 v_36.Num), (.int .i64 v_36.Den)], 26⟩], [⟨b25, [(.int .i64 u_27.Num), (.int .i64 u_27.Den)], 26⟩], [⟨b7, [(.int .i64 best_18.Num), (.int .i64 best_18.Den)], 26⟩], [⟨b2, [(.int .i64 0), (.int .i64 0)], 26⟩], [⟨b1, [(.int .i64 p_a.Num), (.int .i64 p_a.Den)], 26⟩]]) ?_ ?_
                    · refine e_region [13] mixed fun w' hw' => ?_
                      have hS := hS.below hw'
                      refine e_p (v := s15.v) 0 hF rfl (ex_move rfl) rfl rfl (by kernel_rfl) (by kernel_rfl) (by kernel_rfl) fun a hF => ?_
                      refine e_p (v := (.int .i64 t_17)) 1 hF rfl (ex_move rfl) rfl rfl (by kernel_rfl) (by kernel_rfl) (by kernel_rfl) fun a hF => ?_
                      obtain ⟨e_28, he_28, hj12⟩ := bindS hj12
                      obtain ⟨vs29, at29, d29⟩ := h15.at he_28 2 rfl
                      obtain rfl : vs29 = [(.int .i64 e_28.Num), (.int .i64 e_28.Den)] := d29
                      refine e_p (v := (elP s15 (t_17.toNat * 2))) 2 hF rfl (ex_indexAddr Try.underlying51 sz26 rfl rfl (h15.idx he_28)) rfl rfl (by kernel_rfl) (by kernel_rfl) (by kernel_rfl) fun a hF => ?_
                      refine e_x (v := (.agg #[(.int .i64 e_28.Num), (.int .i64 e_28.Den)])) 3 hF hS rfl (ex_loadEA (us := [(.int .i64 e_28.Num), (.int .i64 e_28.Den)]) 0 Try.underlying26 rfl sz26 rfl (at29.at 1 rfl) rfl rfl rfl) rfl rfl (by kernel_rfl) (by kernel_rfl) (by kernel_rfl) (by kernel_rfl) fun a hF => ?_
                      refine e_p (v := s12.v) 4 hF rfl (ex_move rfl) rfl rfl (by kernel_rfl) (by kernel_rfl) (by kernel_rfl) fun a hF => ?_
                      refine e_p (v := (.int .i64 t_17)) 5 hF rfl (ex_move rfl) rfl rfl (by kernel_rfl) (by kernel_rfl) (by kernel_rfl) fun a hF => ?_
                      obtain ⟨e_30, he_30, hj12⟩ := bindS hj12
                      obtain ⟨vs31, at31, d31⟩ := h12.at he_30 2 rfl
                      obtain rfl : vs31 = [(.int .i64 e_30.Num), (.int .i64 e_30.Den)] := d31
                      refine e_p (v := (elP s12 (t_17.toNat * 2))) 6 hF rfl (ex_indexAddr Try.underlying51 sz26 rfl rfl (h12.idx he_30)) rfl rfl (by kernel_rfl) (by kernel_rfl) (by kernel_rfl) fun a hF => ?_
                      refine e_x (v := (.agg #[(.int .i64 e_30.Num), (.int .i64 e_30.Den)])) 7 hF hS rfl (ex_loadEA (us := [(.int .i64 e_30.Num), (.int .i64 e_30.Den)]) 0 Try.underlying26 rfl sz26 rfl (at31.at 0 rfl) rfl rfl rfl) rfl rfl (by kernel_rfl) (by kernel_rfl) (by kernel_rfl) (by kernel_rfl) fun a hF => ?_
                      obtain ⟨t_33, ht_33, hj12⟩ := bindS hj12
                      refine e_all [8, 12] (by kernel_rfl) rfl ⟨?_, ?_, trivial⟩
                      · refine e_call (vs := [(.agg #[(.int .i64 e_28.Num), (.int .i64 e_28.Den)]), (.agg #[(.int .i64 e_30.Num), (.int .i64 e_30.Den)])]) hF hS rfl Try.func71 (by kernel_rfl) rfl rfl rfl (c_spec_fDiv e_28 e_30 t_33 ht_33 _ m hS.vis) ?_
                        rintro a w _ rfl hF hS
                        refine e_p (v := (.tuple #[(.agg #[(.int .i64 t_33.1.Num), (.int .i64 t_33.1.Den)]), (.bool t_33.2)])) 9 hF rfl (ex_move rfl) rfl rfl (by kernel_rfl) (by kernel_rfl) (by kernel_rfl) fun a hF => ?_
                        refine e_p (v := (.agg #[(.int .i64 t_33.1.Num), (.int .i64 t_33.1.Den)])) 10 hF rfl (ex_extract rfl rfl) rfl rfl (by kernel_rfl) (by kernel_rfl) (by kernel_rfl) fun a hF => ?_
                        refine e_p (v := (.bool t_33.2)) 11 hF rfl (ex_extract rfl rfl) rfl rfl (by kernel_rfl) (by kernel_rfl) (by kernel_rfl) fun a hF => ?_
                        refine e_one 12 (by kernel_rfl) ?_
                        refine e_alloc (cs := [(.int .i64 0), (.int .i64 0)]) hF hS rfl rfl rfl rfl fun a w b34 hF hS => ?_
                        refine e_one 13 (by kernel_rfl) ?_
                        refine e_store (vs := [(.int .i64 t_33.1.Num), (.int .i64 t_33.1.Den)]) (cs' := [(.int .i64 t_33.1.Num), (.int .i64 t_33.1.Den)]) 0 0 hF hS rfl rfl sz26 rfl rfl rfl rfl rfl rfl rfl rfl fun a w hF hS => ?_
                        refine e_p (v := (.bool t_33.2)) 14 hF rfl (ex_assign rfl) rfl rfl (by kernel_rfl) (by kernel_rfl) (by kernel_rfl) fun a hF => ?_
                        refine e_end (by kernel_rfl) (n_jn ?_) _
                        obtain rfl := someI hj12
                        exact ⟨b34, _, _, rfl, hF.sub ⟨rfl, rfl, rfl, rfl, rfl, rfl, rfl, rfl, rfl, rfl, rfl, rfl, rfl, rfl, trivial⟩, hS.sel [1, 2, 0, 3, 4, 5, 6] (by decide)⟩
                      · refine e_alloc (cs := [(.int .i64 0), (.int .i64 0)]) hF hS rfl rfl rfl rfl fun a w b34 hF hS => ?_
                        refine e_one 8 (by kernel_rfl) ?_
                        refine e_call (vs := [(.agg #[(.int .i64 e_28.Num), (.int .i64 e_28.Den)]), (.agg #[(.int .i64 e_30.Num), (.int .i64 e_30.Den)])]) hF hS rfl Try.func71 (by kernel_rfl) rfl rfl rfl (c_spec_fDiv e_28 e_30 t_33 ht_33 _ m hS.vis) ?_
                        rintro a w _ rfl hF hS
                        refine e_p (v := (.tuple #[(.agg #[(.int .i64 t_33.1.Num), (.int .i64 t_33.1.Den)]), (.bool t_33.2)])) 9 hF rfl (ex_move rfl) rfl rfl (by kernel_rfl) (by kernel_rfl) (by kernel_rfl) fun a hF => ?_
                        refine e_p (v := (.agg #[(.int .i64 t_33.1.Num), (.int .i64 t_33.1.Den)])) 10 hF rfl (ex_extract rfl rfl) rfl rfl (by kernel_rfl) (by kernel_rfl) (by kernel_rfl) fun a hF => ?_
                        refine e_p (v := (.bool t_33.2)) 11 hF rfl (ex_extract rfl rfl) rfl rfl (by kernel_rfl) (by kernel_rfl) (by kernel_rfl) fun a hF => ?_
                        refine e_one 13 (by kernel_rfl) ?_
                        refine e_store (vs := [(.int .i64 t_33.1.Num), (.int .i64 t_33.1.Den)]) (cs' := [(.int .i64 t_33.1.Num), (.int .i64 t_33.1.Den)]) 0 0 hF hS rfl rfl sz26 rfl rfl rfl rfl rfl rfl rfl rfl fun a w hF hS => ?_
                        refine e_p (v := (.bool t_33.2)) 14 hF rfl (ex_assign rfl) rfl rfl (by kernel_rfl) (by kernel_rfl) (by kernel_rfl) fun a hF => ?_
                        refine e_end (by kernel_rfl) (n_jn ?_) _
                        obtain rfl := someI hj12
                        exact ⟨b34, _, _, rfl, hF.sub ⟨rfl, rfl, rfl, rfl, rfl, rfl, rfl, rfl, rfl, rfl, rfl, rfl, rfl, rfl, trivial⟩, hS.sel [1, 2, 0, 3, 4, 5, 6] (by decide)⟩
                    · rintro a w ⟨b34, four_35, v_36, rfl, hF, hS⟩
                      refine n_sq ?_
                      refine q_seq ?_
                      refine q_seq ?_
                      obtain ⟨t_37, hj13, hb9⟩ := bindS hb9
                      refine q_join (fun a w => Fr a 108 [(1, (.int .i64 p_lo)), (2, (.int .i64 p_hi)), (3, (.pointer (some ⟨b1, 0, none⟩))), (6, (.pointer (some ⟨b2, 0, none⟩))), (8, (.pointer (some ⟨b7, 0, none⟩))), (9, (.int .i64 x_8)), (10, s12.v), (12, s15.v), (15, (.pointer (some ⟨b25, 0, none⟩))), (17, (.pointer (some ⟨b34, 0, none⟩))), (61, (.int .i64 (goLen t_10.1))), (62, (.int .i64 t_17)), (94, (.bool t_37))] ∧ St [] w0 w m [q12, q15, [⟨b34, [(.int .i64 v_36.Num), (.int .i64 v_36.Den)], 26⟩], [⟨b25, [(.int .i64 u_27.Num), (.int .i64 u_27.Den)], 26⟩], [⟨b7, [(.int .i64 best_18.Num), (.int .i64 best_18.Den)], 26⟩], [⟨b2, [(.int .i64 0), (.int .i64 0)], 26⟩], [⟨b1, [(.int .i64 p_a.Num), (.int .i64 p_a.Den)], 26⟩]]) ?_ ?_
                      · refine q_region ?_
                        refine q_x (v := (.bool three_26)) hF hS (ex_move rfl) rfl rfl fun a hF => ?_
                        refine q_x (v := (.bool (!three_26))) hF hS (ex_not rfl) rfl rfl fun a hF => ?_
                        refine q_x (v := (.bool (!three_26))) hF hS (ex_move rfl) rfl rfl fun a hF => ?_
                        rcases hc14 : (!three_26) with _ | _
                        · have hj13 := cond_f hc14 hj13
                          refine q_xg (v := (.bool four_35)) hF hS (ex_move rfl) (wanted_t hF rfl rfl rfl hc14) rfl fun a hF => ?_
                          refine q_xg (v := (.bool (!four_35))) hF hS (ex_not rfl) (wanted_t hF rfl rfl rfl hc14) rfl fun a hF => ?_
                          refine q_x (v := (.bool (!four_35))) hF hS (ex_pick_f rfl rfl hc14) rfl rfl fun a hF => ?_
                          refine q_end (n_jn ?_)
                          obtain rfl := someI hj13
                          exact ⟨hF.sub ⟨rfl, rfl, rfl, rfl, rfl, rfl, rfl, rfl, rfl, rfl, rfl, rfl, rfl, trivial⟩, hS⟩
                        · have hj13 := cond_t hc14 hj13
                          refine q_skip hF (wanted_f hF rfl rfl rfl hc14 rfl) rfl fun a hF => ?_
                          refine q_skip hF (wanted_f hF rfl rfl rfl hc14 rfl) rfl fun a hF => ?_
                          refine q_x (v := (.bool true)) hF hS (ex_pick_t rfl rfl hc14) rfl rfl fun a hF => ?_
                          refine q_end (n_jn ?_)
                          obtain rfl := someI hj13
                          exact ⟨hF.sub ⟨rfl, rfl, rfl, rfl, rfl, rfl, rfl, rfl, rfl, rfl, rfl, rfl, rfl, trivial⟩, hS⟩
                      · rintro a w ⟨hF, hS⟩
                        refine n_sq ?_
                        rcases hc15 : (t_37) with _ | _
                        · have hb9 := cond_f hc15 hb9
                          refine q_cond_f hF rfl hc15 ?_
                          refine q_skipc (n_sq ?_)
                          refine q_seq ?_
                          refine q_seq ?_
                          refine q_region ?_
                          refine q_x (v := (.agg #[(.int .i64 u_27.Num), (.int .i64 u_27.Den)])) hF hS (ex_loadA (vs := [(.int .i64 u_27.Num), (.int .i64 u_27.Den)]) 3 0 Try.underlying26 rfl sz26 rfl rfl rfl rfl) rfl rfl fun a hF => ?_
                          refine q_x (v := (.agg #[(.int .i64 best_18.Num), (.int .i64 best_18.Den)])) hF hS (ex_loadA (vs := [(.int .i64 best_18.Num), (.int .i64 best_18.Den)]) 4 0 Try.underlying26 rfl sz26 rfl rfl rfl rfl) rfl rfl fun a hF => ?_
                          obtain ⟨t_38, ht_38, hb9⟩ := bindS hb9
                          refine q_call (vs := [(.agg #[(.int .i64 u_27.Num), (.int .i64 u_27.Den)]), (.agg #[(.int .i64 best_18.Num), (.int .i64 best_18.Den)])]) hF hS Try.func98 (by kernel_rfl) rfl rfl rfl (c_spec_fCmp u_27 best_18 t_38 ht_38 _ m hS.vis) ?_
                          rintro a w _ rfl hF hS
                          refine q_x (v := (.bool (decide (0 < t_38)))) hF hS (ex_ibin rfl rfl rfl) rfl rfl fun a hF => ?_
                          refine q_end (n_sq ?_)
                          obtain ⟨best_39, hj16, hb9⟩ := bindS hb9
                          refine q_join (fun a w => Fr a 108 [(1, (.int .i64 p_lo)), (2, (.int .i64 p_hi)), (3, (.pointer (some ⟨b1, 0, none⟩))), (6, (.pointer (some ⟨b2, 0, none⟩))), (8, (.pointer (some ⟨b7, 0, none⟩))), (9, (.int .i64 x_8)), (10, s12.v), (12, s15.v), (17, (.pointer (some ⟨b34, 0, none⟩))), (61, (.int .i64 (goLen t_10.1))), (62, (.int .i64 t_17))] ∧ St [] w0 w m [q12, q15, [⟨b34, [(.int .i64 v_36.Num), (.int .i64 v_36.Den)], 26⟩], [⟨b7, [(.int .i64 best_39.Num), (.int .i64 best_39.Den)], 26⟩], [⟨b2, [(.int .i64 0), (.int .i64 0)], 26⟩], [⟨b1, [(.int .i64 p_a.Num), (.int .i64 p_a.Den)], 26⟩]]) ?_ ?_
                          · rcases hc17 : (decide (0 < t_38)) with _ | _
                            · have hj16 := cond_f hc17 hj16
                              refine q_cond_f hF rfl hc17 ?_
                              refine q_skipc (n_jn ?_)
                              obtain rfl := someI hj16
                              exact ⟨hF.sub ⟨rfl, rfl, rfl, rfl, rfl, rfl, rfl, rfl, rfl, rfl, rfl, trivial⟩, hS.mask [true, true, true, false, true, true, true]⟩
                            · have hj16 := cond_t hc17 hj16
                              refine q_cond_t hF rfl hc17 ?_
                              refine q_region ?_
                              refine q_x (v := (.agg #[(.int .i64 u_27.Num), (.int .i64 u_27.Den)])) hF hS (ex_loadA (vs := [(.int .i64 u_27.Num), (.int .i64 u_27.Den)]) 3 0 Try.underlying26 rfl sz26 rfl rfl rfl rfl) rfl rfl fun a hF => ?_
                              refine q_store (vs := [(.int .i64 u_27.Num), (.int .i64 u_27.Den)]) (cs' := [(.int .i64 u_27.Num), (.int .i64 u_27.Den)]) 4 0 hF hS sz26 rfl rfl rfl rfl rfl rfl rfl rfl fun a w hF hS => ?_
                              refine q_end (n_jn ?_)
                              obtain rfl := someI hj16
                              exact ⟨hF.sub ⟨rfl, rfl, rfl, rfl, rfl, rfl, rfl, rfl, rfl, rfl, rfl, trivial⟩, hS.mask [true, true, true, false, true, true, true]⟩
                          · rintro a w ⟨hF, hS⟩
                            refine n_sq ?_
                            refine q_seq ?_
                            refine q_region ?_
                            refine q_x (v := (.agg #[(.int .i64 v_36.Num), (.int .i64 v_36.Den)])) hF hS (ex_loadA (vs := [(.int .i64 v_36.Num), (.int .i64 v_36.Den)]) 2 0 Try.underlying26 rfl sz26 rfl rfl rfl rfl) rfl rfl fun a hF => ?_
                            refine q_x (v := (.agg #[(.int .i64 best_39.Num), (.int .i64 best_39.Den)])) hF hS (ex_loadA (vs := [(.int .i64 best_39.Num), (.int .i64 best_39.Den)]) 3 0 Try.underlying26 rfl sz26 rfl rfl rfl rfl) rfl rfl fun a hF => ?_
                            obtain ⟨t_40, ht_40, hb9⟩ := bindS hb9
                            refine q_call (vs := [(.agg #[(.int .i64 v_36.Num), (.int .i64 v_36.Den)]), (.agg #[(.int .i64 best_39.Num), (.int .i64 best_39.Den)])]) hF hS Try.func98 (by kernel_rfl) rfl rfl rfl (c_spec_fCmp v_36 best_39 t_40 ht_40 _ m hS.vis) ?_
                            rintro a w _ rfl hF hS
                            refine q_x (v := (.bool (decide (0 < t_40)))) hF hS (ex_ibin rfl rfl rfl) rfl rfl fun a hF => ?_
                            refine q_end (n_sq ?_)
                            obtain ⟨best_41, hj18, hb9⟩ := bindS hb9
                            refine q_join (fun a w => Fr a 108 [(1, (.int .i64 p_lo)), (2, (.int .i64 p_hi)), (3, (.pointer (some ⟨b1, 0, none⟩))), (6, (.pointer (some ⟨b2, 0, none⟩))), (8, (.pointer (some ⟨b7, 0, none⟩))), (9, (.int .i64 x_8)), (10, s12.v), (12, s15.v), (61, (.int .i64 (goLen t_10.1))), (62, (.int .i64 t_17))] ∧ St [] w0 w m [q12, q15, [⟨b7, [(.int .i64 best_41.Num), (.int .i64 best_41.Den)], 26⟩], [⟨b2, [(.int .i64 0), (.int .i64 0)], 26⟩], [⟨b1, [(.int .i64 p_a.Num), (.int .i64 p_a.Den)], 26⟩]]) ?_ ?_
                            · rcases hc19 : (decide (0 < t_40)) with _ | _
                              · have hj18 := cond_f hc19 hj18
                                refine q_cond_f hF rfl hc19 ?_
                                refine q_skipc (n_jn ?_)
                                obtain rfl := someI hj18
                                exact ⟨hF.sub ⟨rfl, rfl, rfl, rfl, rfl, rfl, rfl, rfl, rfl, rfl, trivial⟩, hS.mask [true, true, false, true, true, true]⟩
                              · have hj18 := cond_t hc19 hj18
                                refine q_cond_t hF rfl hc19 ?_
                                refine q_region ?_
                                refine q_x (v := (.agg #[(.int .i64 v_36.Num), (.int .i64 v_36.Den)])) hF hS (ex_loadA (vs := [(.int .i64 v_36.Num), (.int .i64 v_36.Den)]) 2 0 Try.underlying26 rfl sz26 rfl rfl rfl rfl) rfl rfl fun a hF => ?_
                                refine q_store (vs := [(.int .i64 v_36.Num), (.int .i64 v_36.Den)]) (cs' := [(.int .i64 v_36.Num), (.int .i64 v_36.Den)]) 3 0 hF hS sz26 rfl rfl rfl rfl rfl rfl rfl rfl fun a w hF hS => ?_
                                refine q_end (n_jn ?_)
                                obtain rfl := someI hj18
                                exact ⟨hF.sub ⟨rfl, rfl, rfl, rfl, rfl, rfl, rfl, rfl, rfl, rfl, trivial⟩, hS.mask [true, true, false, true, true, true]⟩
                            · rintro a w ⟨hF, hS⟩
                              refine n_ib (n_sq ?_)
                              refine q_region ?_
                              refine q_x (v := (.int .i64 (w64 (t_17 + 1)))) hF hS (ex_ibin rfl rfl rfl) rfl rfl fun a hF => ?_
                              refine q_x (v := (.int .i64 (w64 (t_17 + 1)))) hF hS (ex_move rfl) rfl rfl fun a hF => ?_
                              refine q_end ?_
                              obtain rfl := someI hb9
                              exact ⟨rfl, _, _, rfl, hF.sub ⟨rfl, rfl, rfl, rfl, rfl, rfl, rfl, rfl, rfl, rfl, trivial⟩, hS⟩
                        · have hb9 := cond_t hc15 hb9
                          refine q_cond_t hF rfl hc15 ?_
                          refine q_seq ?_
                          refine q_region ?_
                          refine q_x (v := (.agg #[(.int .i64 0), (.int .i64 0)])) hF hS (ex_build (cells := [(.int .i64 0), (.int .i64 0)]) rfl (by kernel_rfl)) rfl rfl fun a hF => ?_
                          refine q_store (vs := [(.int .i64 0), (.int .i64 0)]) (cs' := [(.int .i64 0), (.int .i64 0)]) 5 0 hF hS sz26 rfl rfl rfl rfl rfl rfl rfl rfl fun a w hF hS => ?_
                          refine q_x (v := (.bool false)) hF hS (ex_assign rfl) rfl rfl fun a hF => ?_
                          refine q_end (n_sq (q_ret (r_sq (r_ib (r_sq ?_)))))
                          obtain rfl := someI hb9
                          refine ⟨nofun, .inr fun ho => ?_⟩
                          subst ho
                          refine r_ib (r_ib (r_sq ?_))
                          obtain rfl := someI hb4
                          refine ⟨nofun, .inr fun ho => ?_⟩
                          subst ho
                          refine r_ib (r_sq ?_)
                          obtain rfl := someI hr
                          exact ret_of hF hS rfl (.cellA (us := [(.int .i64 0), (.int .i64 0)]) 5 0 Try.underlying26 rfl sz26 rfl rfl rfl rfl (.tmp rfl .nil)) rfl
              · rintro e a w ⟨best_42, rfl, rfl, hF, hS⟩
                refine x_ib (n_ib (n_sq ?_))
                refine q_region ?_
                refine q_x (v := (.int .i64 x_8)) hF hS (ex_move rfl) rfl rfl fun a hF => ?_
                refine q_x (v := (.int .i64 (w64 (x_8 + 1)))) hF hS (ex_ibin rfl rfl rfl) rfl rfl fun a hF => ?_
                refine q_x (v := (.int .i64 (w64 (x_8 + 1)))) hF hS (ex_assign rfl) rfl rfl fun a hF => ?_
                refine q_end ?_
                obtain rfl := someI hb4
                exact ⟨rfl, _, _, rfl, hF.sub ⟨rfl, rfl, rfl, rfl, rfl, rfl, trivial⟩, hS⟩
            · have hb4 := cond_t hc8 hb4
              refine q_cond_t hF rfl hc8 ?_
              refine q_seq ?_
              refine q_region ?_
              refine q_x (v := (.agg #[(.int .i64 0), (.int .i64 0)])) hF hS (ex_build (cells := [(.int .i64 0), (.int .i64 0)]) rfl (by kernel_rfl)) rfl rfl fun a hF => ?_
              refine q_store (vs := [(.int .i64 0), (.int .i64 0)]) (cs' := [(.int .i64 0), (.int .i64 0)]) 3 0 hF hS sz26 rfl rfl rfl rfl rfl rfl rfl rfl fun a w hF hS => ?_
              refine q_x (v := (.bool false)) hF hS (ex_assign rfl) rfl rfl fun a hF => ?_
              refine q_end (n_sq (q_ret (r_sq (r_ib (r_sq ?_)))))
              obtain rfl := someI hb4
              refine ⟨nofun, .inr fun ho => ?_⟩
              subst ho
              refine r_ib (r_sq ?_)
              obtain rfl := someI hr
              exact ret_of hF hS rfl (.cellA (us := [(.int .i64 0), (.int .i64 0)]) 3 0 Try.underlying26 rfl sz26 rfl rfl rfl rfl (.tmp rfl .nil)) rfl
      · rintro e a w ⟨best_43, rfl, rfl, hF, hS⟩
        refine x_ib (n_sq ?_)
        refine q_seq ?_
        refine q_region ?_
        refine q_x (v := (.agg #[(.int .i64 best_43.Num), (.int .i64 best_43.Den)])) hF hS (ex_loadA (vs := [(.int .i64 best_43.Num), (.int .i64 best_43.Den)]) 0 0 Try.underlying26 rfl sz26 rfl rfl rfl rfl) rfl rfl fun a hF => ?_
        refine q_store (vs := [(.int .i64 best_43.Num), (.int .i64 best_43.Den)]) (cs' := [(.int .i64 best_43.Num), (.int .i64 best_43.Den)]) 1 0 hF hS sz26 rfl rfl rfl rfl rfl rfl rfl rfl fun a w hF hS => ?_
        refine q_x (v := (.bool true)) hF hS (ex_assign rfl) rfl rfl fun a hF => ?_
        refine q_end (n_sq (q_ret ?_))
        obtain rfl := someI hr
        exact ret_of hF hS rfl (.cellA (us := [(.int .i64 best_43.Num), (.int .i64 best_43.Den)]) 1 0 Try.underlying26 rfl sz26 rfl rfl rfl rfl (.tmp rfl .nil)) rfl
    · have hr := cond_t hc3 hr
      refine q_cond_t hF rfl hc3 ?_
      refine q_seq ?_
      refine q_region ?_
      refine q_x (v := (.agg #[(.int .i64 0), (.int .i64 0)])) hF hS (ex_build (cells := [(.int .i64 0), (.int .i64 0)]) rfl (by kernel_rfl)) rfl rfl fun a hF => ?_
      refine q_store (vs := [(.int .i64 0), (.int .i64 0)]) (cs' := [(.int .i64 0), (.int .i64 0)]) 0 0 hF hS sz26 rfl rfl rfl rfl rfl rfl rfl rfl fun a w hF hS => ?_
      refine q_x (v := (.bool false)) hF hS (ex_assign rfl) rfl rfl fun a hF => ?_
      refine q_end (n_sq (q_ret (r_sq ?_)))
      obtain rfl := someI hr
      exact ret_of hF hS rfl (.cellA (us := [(.int .i64 0), (.int .i64 0)]) 0 0 Try.underlying26 rfl sz26 rfl rfl rfl rfl (.tmp rfl .nil)) rfl

theorem c_impl_cmpFrac (p_a : impl_Frac) (p_b : impl_Frac) (r : Int) (hr : impl_cmpFrac p_a p_b = some r) (w0 : World) (m : Mem) (hv : Vis m w0) :
    Ret Try.prog 102 [(.agg #[(.int .i64 p_a.Num), (.int .i64 p_a.Den)]), (.agg #[(.int .i64 p_b.Num), (.int .i64 p_b.Den)])] w0 (fun v _ => v = (.int .i64 r)) := by
  unfold impl_cmpFrac at hr
  refine ret_start Try.func102 rfl 25 rfl rfl m hv fun a hF hS => ?_
  refine q_seq ?_
  refine q_region ?_
  refine q_box (cs := [(.int .i64 p_a.Num), (.int .i64 p_a.Den)]) hF hS rfl rfl rfl fun a w b1 hF hS => ?_
  refine q_box (cs := [(.int .i64 p_b.Num), (.int .i64 p_b.Den)]) hF hS rfl rfl rfl fun a w b2 hF hS => ?_
  refine q_x (v := (.int .i64 0)) hF hS (ex_assign rfl) rfl rfl fun a hF => ?_
  refine q_end (n_sq ?_)
  refine q_seq ?_
  refine e_region [] mixed fun w' hw' => ?_
  have hS := hS.below hw'
  refine e_p (v := (.pointer (some ⟨b1, 0, none⟩))) 0 hF rfl (ex_fieldAddr Try.underlying26 rfl sz3 rfl rfl) rfl rfl (by kernel_rfl) (by kernel_rfl) (by kernel_rfl) fun a hF => ?_
  refine e_x (v := (.int .i64 p_a.Num)) 1 hF hS rfl (ex_load1 1 0 Try.underlying3 rfl rfl rfl rfl) rfl rfl (by kernel_rfl) (by kernel_rfl) (by kernel_rfl) (by kernel_rfl) fun a hF => ?_
  refine e_p (v := (.pointer (some ⟨b2, 1, none⟩))) 2 hF rfl (ex_fieldAddr Try.underlying26 rfl sz3 rfl rfl) rfl rfl (by kernel_rfl) (by kernel_rfl) (by kernel_rfl) fun a hF => ?_
  refine e_x (v := (.int .i64 p_b.Den)) 3 hF hS rfl (ex_load1 0 0 Try.underlying3 rfl rfl rfl rfl) rfl rfl (by kernel_rfl) (by kernel_rfl) (by kernel_rfl) (by kernel_rfl) fun a hF => ?_
  refine e_p (v := (.int .i64 (w64 (p_a.Num * p_b.Den)))) 4 hF rfl (ex_ibin rfl rfl rfl) rfl rfl (by kernel_rfl) (by kernel_rfl) (by kernel_rfl) fun a hF => ?_
  refine e_p (v := (.pointer (some ⟨b2, 0, none⟩))) 5 hF rfl (ex_fieldAddr Try.underlying26 rfl sz3 rfl rfl) rfl rfl (by kernel_rfl) (by kernel_rfl) (by kernel_rfl) fun a hF => ?_
  refine e_x (v := (.int .i64 p_b.Num)) 6 hF hS rfl (ex_load1 0 0 Try.underlying3 rfl rfl rfl rfl) rfl rfl (by kernel_rfl) (by kernel_rfl) (by kernel_rfl) (by kernel_rfl) fun a hF => ?_
  refine e_p (v := (.pointer (some ⟨b1, 1, none⟩))) 7 hF rfl (ex_fieldAddr Try.underlying26 rfl sz3 rfl rfl) rfl rfl (by kernel_rfl) (by kernel_rfl) (by kernel_rfl) fun a hF => ?_
  refine e_x (v := (.int .i64 p_a.Den)) 8 hF hS rfl (ex_load1 1 0 Try.underlying3 rfl rfl rfl rfl) rfl rfl (by kernel_rfl) (by kernel_rfl) (by kernel_rfl) (by kernel_rfl) fun a hF => ?_
  refine e_p (v := (.int .i64 (w64 (p_b.Num * p_a.Den)))) 9 hF rfl (ex_ibin rfl rfl rfl) rfl rfl (by kernel_rfl) (by kernel_rfl) (by kernel_rfl) fun a hF => ?_
  refine e_p (v := (.int .i64 (w64 (p_a.Num * p_b.Den)))) 10 hF rfl (ex_assign rfl) rfl rfl (by kernel_rfl) (by kernel_rfl) (by kernel_rfl) fun a hF => ?_
  refine e_p (v := (.int .i64 (w64 (p_b.Num * p_a.Den)))) 11 hF rfl (ex_assign rfl) rfl rfl (by kernel_rfl) (by kernel_rfl) (by kernel_rfl) fun a hF => ?_
  refine e_end (by kernel_rfl) (n_sq ?_) _
  refine q_seq ?_
  refine q_block ?_
  refine q_seq ?_
  refine q_region ?_
  refine q_x (v := (.int .i64 (w64 (p_a.Num * p_b.Den)))) hF hS (ex_move rfl) rfl rfl fun a hF => ?_
  refine q_x (v := (.int .i64 (w64 (p_b.Num * p_a.Den)))) hF hS (ex_move rfl) rfl rfl fun a hF => ?_
  refine q_x (v := (.bool (decide ((w64 (p_a.Num * p_b.Den)) < (w64 (p_b.Num * p_a.Den)))))) hF hS (ex_ibin rfl rfl rfl) rfl rfl fun a hF => ?_
  refine q_x (v := (.bool (decide ((w64 (p_a.Num * p_b.Den)) < (w64 (p_b.Num * p_a.Den)))))) hF hS (ex_assign rfl) rfl rfl fun a hF => ?_
  refine q_end (n_sq ?_)
  rcases hc1 : (decide ((w64 (p_a.Num * p_b.Den)) < (w64 (p_b.Num * p_a.Den)))) with _ | _
  · have hr := cond_f hc1 hr
    refine q_cond_f hF rfl hc1 ?_
    refine q_seq ?_
    refine q_region ?_
    refine q_x (v := (.int .i64 (w64 (p_a.Num * p_b.Den)))) hF hS (ex_move rfl) rfl rfl fun a hF => ?_
    refine q_x (v := (.int .i64 (w64 (p_b.Num * p_a.Den)))) hF hS (ex_move rfl) rfl rfl fun a hF => ?_
    refine q_x (v := (.bool (decide ((w64 (p_b.Num * p_a.Den)) < (w64 (p_a.Num * p_b.Den)))))) hF hS (ex_ibin rfl rfl rfl) rfl rfl fun a hF => ?_
    refine q_x (v := (.bool (decide ((w64 (p_b.Num * p_a.Den)) < (w64 (p_a.Num * p_b.Den)))))) hF hS (ex_assign rfl) rfl rfl fun a hF => ?_
    refine q_end (n_sq ?_)
    rcases hc2 : (decide ((w64 (p_b.Num * p_a.Den)) < (w64 (p_a.Num * p_b.Den)))) with _ | _
    · have hr := cond_f hc2 hr
      refine q_cond_f hF rfl hc2 ?_
      refine q_skipc (n_ib (n_sq ?_))
      refine q_seq ?_
      refine q_region ?_
      refine q_x (v := (.int .i64 0)) hF hS (ex_assign rfl) rfl rfl fun a hF => ?_
      refine q_end (n_sq (q_ret ?_))
      obtain rfl := someI hr
      exact ret_of hF hS rfl (.tmp rfl .nil) rfl
    · have hr := cond_t hc2 hr
      refine q_cond_t hF rfl hc2 ?_
      refine q_seq ?_
      refine q_region ?_
      refine q_x (v := (.int .i64 1)) hF hS (ex_assign rfl) rfl rfl fun a hF => ?_
      refine q_end (n_sq (q_ret (r_ib (r_sq ?_))))
      obtain rfl := someI hr
      exact ret_of hF hS rfl (.tmp rfl .nil) rfl
  · have hr := cond_t hc1 hr
    refine q_cond_t hF rfl hc1 ?_
    refine q_seq ?_
    refine q_region ?_
    refine q_x (v := (.int .i64 (-1))) hF hS (ex_assign rfl) rfl rfl fun a hF => ?_
    refine q_end (n_sq (q_ret (r_ib (r_sq ?_))))
    obtain rfl := someI hr
    exact ret_of hF hS rfl (.tmp rfl .nil) rfl

theorem c_impl_WorstRatio (p_a : impl_Frac) (p_lo : Int) (p_hi : Int) (r : impl_Frac × Bool) (hr : impl_WorstRatio p_a p_lo p_hi = some r) (w0 : World) (m : Mem) (hv : Vis m w0) :
    Ret Try.prog 59 [(.agg #[(.int .i64 p_a.Num), (.int .i64 p_a.Den)]), (.int .i64 p_lo), (.int .i64 p_hi)] w0 (fun v _ => v = (.tuple #[(.agg #[(.int .i64 r.1.Num), (.int .i64 r.1.Den)]), (.bool r.2)])) := by
  unfold impl_WorstRatio at hr
  refine ret_start Try.func59 rfl 104 rfl rfl m hv fun a hF hS => ?_
  refine q_seq ?_
  refine q_region ?_
  refine q_box (cs := [(.int .i64 p_a.Num), (.int .i64 p_a.Den)]) hF hS rfl rfl rfl fun a w b1 hF hS => ?_
  refine q_alloc (cs := [(.int .i64 0), (.int .i64 0)]) hF hS rfl rfl rfl fun a w b2 hF hS => ?_
  refine q_x (v := (.bool false)) hF hS (ex_assign rfl) rfl rfl fun a hF => ?_
  refine q_end (n_sq ?_)
  refine q_seq ?_
  refine q_seq ?_
  obtain ⟨t_5, hj1, hr⟩ := bindS hr
  refine q_join (fun a w => Fr a 104 [(1, (.int .i64 p_lo)), (2, (.int .i64 p_hi)), (3, (.pointer (some ⟨b1, 0, none⟩))), (6, (.pointer (some ⟨b2, 0, none⟩))), (26, (.bool t_5))] ∧ St [] w0 w m [[⟨b2, [(.int .i64 0), (.int .i64 0)], 26⟩], [⟨b1, [(.int .i64 p_a.Num), (.int .i64 p_a.Den)], 26⟩]]) ?_ ?_
  · refine q_region ?_
    refine q_x (v := (.agg #[(.int .i64 p_a.Num), (.int .i64 p_a.Den)])) hF hS (ex_loadA (vs := [(.int .i64 p_a.Num), (.int .i64 p_a.Den)]) 1 0 Try.underlying26 rfl sz26 rfl rfl rfl rfl) rfl rfl fun a hF => ?_
    obtain ⟨t_3, ht_3, hj1⟩ := bindS hj1
    refine q_call (vs := [(.agg #[(.int .i64 p_a.Num), (.int .i64 p_a.Den)])]) hF hS Try.func88 (by kernel_rfl) rfl rfl rfl (c_impl_isRatio p_a t_3 ht_3 _ m hS.vis) ?_
    rintro a w _ rfl hF hS
    refine q_x (v := (.bool (!t_3))) hF hS (ex_not rfl) rfl rfl fun a hF => ?_
    refine q_x (v := (.bool (!t_3))) hF hS (ex_move rfl) rfl rfl fun a hF => ?_
    rcases hc2 : (!t_3) with _ | _
    · have hj1 := cond_f hc2 hj1
      refine q_xg (v := (.int .i64 p_lo)) hF hS (ex_move rfl) (wanted_t hF rfl rfl rfl hc2) rfl fun a hF => ?_
      refine q_xg (v := (.int .i64 p_hi)) hF hS (ex_move rfl) (wanted_t hF rfl rfl rfl hc2) rfl fun a hF => ?_
      obtain ⟨t_4, ht_4, hj1⟩ := bindS hj1
      refine q_callg (vs := [(.int .i64 p_lo), (.int .i64 p_hi)]) hF hS (wanted_t hF rfl rfl rfl hc2) Try.func125 (by kernel_rfl) rfl rfl rfl (c_impl_isClamp p_lo p_hi t_4 ht_4 _ m hS.vis) ?_
      rintro a w _ rfl hF hS
      refine q_xg (v := (.bool (!t_4))) hF hS (ex_not rfl) (wanted_t hF rfl rfl rfl hc2) rfl fun a hF => ?_
      refine q_x (v := (.bool (!t_4))) hF hS (ex_pick_f rfl rfl hc2) rfl rfl fun a hF => ?_
      refine q_end (n_jn ?_)
      obtain rfl := someI hj1
      exact ⟨hF.sub ⟨rfl, rfl, rfl, rfl, rfl, trivial⟩, hS⟩
    · have hj1 := cond_t hc2 hj1
      refine q_skip hF (wanted_f hF rfl rfl rfl hc2 rfl) rfl fun a hF => ?_
      refine q_skip hF (wanted_f hF rfl rfl rfl hc2 rfl) rfl fun a hF => ?_
      refine q_skip hF (wanted_f hF rfl rfl rfl hc2 rfl) rfl fun a hF => ?_
      refine q_skip hF (wanted_f hF rfl rfl rfl hc2 rfl) rfl fun a hF => ?_
      refine q_x (v := (.bool true)) hF hS (ex_pick_t rfl rfl hc2) rfl rfl fun a hF => ?_
      refine q_end (n_jn ?_)
      obtain rfl := someI hj1
      exact ⟨hF.sub ⟨rfl, rfl, rfl, rfl, rfl, trivial⟩, hS⟩
  · rintro a w ⟨hF, hS⟩
    refine n_sq ?_
    rcases hc3 : (t_5) with _ | _
    · have hr := cond_f hc3 hr
      refine q_cond_f hF rfl hc3 ?_
      refine q_skipc (n_sq ?_)
      refine q_seq ?_
      refine q_region ?_
      refine q_x (v := (.agg #[(.int .i64 1), (.int .i64 1)])) hF hS (ex_build (cells := [(.int .i64 1), (.int .i64 1)]) rfl (by kernel_rfl)) rfl rfl fun a hF => ?_
      refine q_alloc (cs := [(.int .i64 0), (.int .i64 0)]) hF hS rfl rfl rfl fun a w b6 hF hS => ?_
      refine q_store (vs := [(.int .i64 1), (.int .i64 1)]) (cs' := [(.int .i64 1), (.int .i64 1)]) 0 0 hF hS sz26 rfl rfl rfl rfl rfl rfl rfl rfl fun a w hF hS => ?_
      refine q_end (n_sq ?_)
      refine q_seq ?_
      refine q_seq ?_
      refine q_region ?_
      refine q_x (v := (.int .i64 p_lo)) hF hS (ex_move rfl) rfl rfl fun a hF => ?_
      refine q_x (v := (.int .i64 p_lo)) hF hS (ex_assign rfl) rfl rfl fun a hF => ?_
      refine q_end (n_sq ?_)
      refine q_block ?_
      obtain ⟨o4, hl4, hr⟩ := bindS hr
      refine q_loop (fun (s : Int × impl_Frac) a w => ∃ x_7, ∃ worst_8, s = (x_7, worst_8) ∧ Fr a 104 [(1, (.int .i64 p_lo)), (2, (.int .i64 p_hi)), (3, (.pointer (some ⟨b1, 0, none⟩))), (6, (.pointer (some ⟨b2, 0, none⟩))), (8, (.pointer (some ⟨b6, 0, none⟩))), (9, (.int .i64 x_7))] ∧ St [] w0 w m [[⟨b6, [(.int .i64 worst_8.Num), (.int .i64 worst_8.Den)], 26⟩], [⟨b2, [(.int .i64 0), (.int .i64 0)], 26⟩], [⟨b1, [(.int .i64 p_a.Num), (.int .i64 p_a.Den)], 26⟩]]) (fun (o : (impl_Frac) ⊕ (impl_Frac × Bool)) e a w => ∃ worst_35, o = .inl worst_35 ∧ e = .exit 0 ∧ Fr a 104 [(6, (.pointer (some ⟨b2, 0, none⟩))), (8, (.pointer (some ⟨b6, 0, none⟩)))] ∧ St [] w0 w m [[⟨b6, [(.int .i64 worst_35.Num), (.int .i64 worst_35.Den)], 26⟩], [⟨b2, [(.int .i64 0), (.int .i64 0)], 26⟩]]) hl4 ⟨_, _, rfl, hF.sub ⟨rfl, rfl, rfl, rfl, rfl, rfl, trivial⟩, hS⟩ ?_ ?_
      · clear hF hS
        rintro s a w st ⟨x_7, worst_8, rfl, hF, hS⟩ hb4
        unfold impl_WorstRatio_l1 at hb4
        refine q_seq ?_
        refine q_seq ?_
        refine q_region ?_
        refine q_x (v := (.int .i64 x_7)) hF hS (ex_move rfl) rfl rfl fun a hF => ?_
        refine q_x (v := (.int .i64 p_hi)) hF hS (ex_move rfl) rfl rfl fun a hF => ?_
        refine q_x (v := (.bool (decide (x_7 < p_hi)))) hF hS (ex_ibin rfl rfl rfl) rfl rfl fun a hF => ?_
        refine q_end (n_sq ?_)
        rcases hc5 : (decide (x_7 < p_hi)) with _ | _
        · have hb4 := cond_f hc5 hb4
          refine q_cond_f hF rfl hc5 ?_
          refine q_exit (x_sq ?_)
          obtain rfl := someI hb4
          exact ⟨nofun, .inl ⟨_, rfl, rfl, hF.sub ⟨rfl, rfl, trivial⟩, hS.mask [true, true, false]⟩⟩
        · have hb4 := cond_t hc5 hb4
          refine q_cond_t hF rfl hc5 ?_
          refine q_skipc (n_sq ?_)
          refine q_seq ?_
          refine q_block ?_
          refine q_seq ?_
          refine q_region ?_
          refine q_x (v := (.agg #[(.int .i64 p_a.Num), (.int .i64 p_a.Den)])) hF hS (ex_loadA (vs := [(.int .i64 p_a.Num), (.int .i64 p_a.Den)]) 2 0 Try.underlying26 rfl sz26 rfl rfl rfl rfl) rfl rfl fun a hF => ?_
          refine q_x (v := (.int .i64 p_lo)) hF hS (ex_move rfl) rfl rfl fun a hF => ?_
          refine q_x (v := (.int .i64 p_hi)) hF hS (ex_move rfl) rfl rfl fun a hF => ?_
          refine q_x (v := (.int .i64 x_7)) hF hS (ex_move rfl) rfl rfl fun a hF => ?_
          obtain ⟨t_9, ht_9, hb4⟩ := bindS hb4
          refine q_call (vs := [(.agg #[(.int .i64 p_a.Num), (.int .i64 p_a.Den)]), (.int .i64 p_lo), (.int .i64 p_hi), (.int .i64 x_7)]) hF hS Try.func126 (by kernel_rfl) rfl rfl rfl (c_impl_clampedMasses p_a p_lo p_hi x_7 t_9 ht_9 _ m hS.vis) ?_
          rintro a w _ ⟨q11, s11, rfl, hR10, h11⟩ hF hS2
          have hS : St _ _ _ _ [q11, [⟨b6, [(.int .i64 worst_8.Num), (.int .i64 worst_8.Den)], 26⟩], [⟨b2, [(.int .i64 0), (.int .i64 0)], 26⟩], [⟨b1, [(.int .i64 p_a.Num), (.int .i64 p_a.Den)], 26⟩]] := hS.joinF hR10
          refine q_x (v := (.tuple #[s11.v, (.bool t_9.2)])) hF hS (ex_move rfl) rfl rfl fun a hF => ?_
          refine q_x (v := s11.v) hF hS (ex_extract rfl rfl) rfl rfl fun a hF => ?_
          refine q_x (v := (.bool t_9.2)) hF hS (ex_extract rfl rfl) rfl rfl fun a hF => ?_
          refine q_x (v := s11.v) hF hS (ex_assign rfl) rfl rfl fun a hF => ?_
          refine q_x (v := (.bool t_9.2)) hF hS (ex_assign rfl) rfl rfl fun a hF => ?_
          refine q_end (n_sq ?_)
          refine q_seq ?_
          refine q_seq ?_
          refine q_region ?_
          refine q_x (v := (.bool t_9.2)) hF hS (ex_move rfl) rfl rfl fun a hF => ?_
          refine q_x (v := (.bool (!t_9.2))) hF hS (ex_not rfl) rfl rfl fun a hF => ?_
          refine q_end (n_sq ?_)
          rcases hc6 : (!t_9.2) with _ | _
          · have hb4 := cond_f hc6 hb4
            refine q_cond_f hF rfl hc6 ?_
            refine q_skipc (n_sq ?_)
            refine q_seq ?_
            refine q_region ?_
            refine q_x (v := (.agg #[(.int .i64 p_a.Num), (.int .i64 p_a.Den)])) hF hS (ex_loadA (vs := [(.int .i64 p_a.Num), (.int .i64 p_a.Den)]) 3 0 Try.underlying26 rfl sz26 rfl rfl rfl rfl) rfl rfl fun a hF => ?_
            refine q_x (v := (.int .i64 p_lo)) hF hS (ex_move rfl) rfl rfl fun a hF => ?_
            refine q_x (v := (.int .i64 p_hi)) hF hS (ex_move rfl) rfl rfl fun a hF => ?_
            refine q_x (v := (.int .i64 x_7)) hF hS (ex_move rfl) rfl rfl fun a hF => ?_
            refine q_x (v := (.int .i64 (w64 (x_7 + 1)))) hF hS (ex_ibin rfl rfl rfl) rfl rfl fun a hF => ?_
            obtain ⟨t_12, ht_12, hb4⟩ := bindS hb4
            refine q_call (vs := [(.agg #[(.int .i64 p_a.Num), (.int .i64 p_a.Den)]), (.int .i64 p_lo), (.int .i64 p_hi), (.int .i64 (w64 (x_7 + 1)))]) hF hS Try.func126 (by kernel_rfl) rfl rfl rfl (c_impl_clampedMasses p_a p_lo p_hi (w64 (x_7 + 1)) t_12 ht_12 _ m hS.vis) ?_
            rintro a w _ ⟨q14, s14, rfl, hR13, h14⟩ hF hS2
            have hS : St _ _ _ _ [q14, q11, [⟨b6, [(.int .i64 worst_8.Num), (.int .i64 worst_8.Den)], 26⟩], [⟨b2, [(.int .i64 0), (.int .i64 0)], 26⟩], [⟨b1, [(.int .i64 p_a.Num), (.int .i64 p_a.Den)], 26⟩]] := hS.joinF hR13
            refine q_x (v := (.tuple #[s14.v, (.bool t_12.2)])) hF hS (ex_move rfl) rfl rfl fun a hF => ?_
            refine q_x (v := s14.v) hF hS (ex_extract rfl rfl) rfl rfl fun a hF => ?_
            refine q_x (v := (.bool t_12.2)) hF hS (ex_extract rfl rfl) rfl rfl fun a hF => ?_
            refine q_x (v := s14.v) hF hS (ex_assign rfl) rfl rfl fun a hF => ?_
            refine q_x (v := (.bool t_12.2)) hF hS (ex_assign rfl) rfl rfl fun a hF => ?_
            refine q_end (n_sq ?_)
            refine q_seq ?_
            refine q_seq ?_
            refine q_region ?_
            refine q_x (v := (.bool t_12.2)) hF hS (ex_move rfl) rfl rfl fun a hF => ?_
            refine q_x (v := (.bool (!t_12.2))) hF hS (ex_not rfl) rfl rfl fun a hF => ?_
            refine q_end (n_sq ?_)
            rcases hc7 : (!t_12.2) with _ | _
            · have hb4 := cond_f hc7 hb4
              refine q_cond_f hF rfl hc7 ?_
              refine q_skipc (n_sq ?_)
              refine q_seq ?_
              refine q_region ?_
              refine q_x (v := s11.v) hF hS (ex_move rfl) rfl rfl fun a hF => ?_
              refine q_x (v := (.int .i64 (goLen t_9.1))) hF hS (ex_len Try.underlying51 rfl h11.len) rfl rfl fun a hF => ?_
              refine q_x (v := (.int .i64 0)) hF hS (ex_move rfl) rfl rfl fun a hF => ?_
              refine q_end (n_sq ?_)
              refine q_block ?_
              obtain ⟨o8, hl8, hb4⟩ := bindS hb4
              refine q_loop (fun (s : Int × impl_Frac) a w => ∃ t_15, ∃ worst_16, s = (t_15, worst_16) ∧ Fr a 104 [(1, (.int .i64 p_lo)), (2, (.int .i64 p_hi)), (3, (.pointer (some ⟨b1, 0, none⟩))), (6, (.pointer (some ⟨b2, 0, none⟩))), (8, (.pointer (some ⟨b6, 0, none⟩))), (9, (.int .i64 x_7)), (10, s11.v), (12, s14.v), (59, (.int .i64 (goLen t_9.1))), (60, (.int .i64 t_15))] ∧ St [] w0 w m [q14, q11, [⟨b6, [(.int .i64 worst_16.Num), (.int .i64 worst_16.Den)], 26⟩], [⟨b2, [(.int .i64 0), (.int .i64 0)], 26⟩], [⟨b1, [(.int .i64 p_a.Num), (.int .i64 p_a.Den)], 26⟩]]) (fun (o : (impl_Frac) ⊕ (Stp (Int × impl_Frac) ((impl_Frac) ⊕ (impl_Frac × Bool)))) e a w => ∃ worst_34, o = .inl worst_34 ∧ e = .exit 2 ∧ Fr a 104 [(1, (.int .i64 p_lo)), (2, (.int .i64 p_hi)), (3, (.pointer (some ⟨b1, 0, none⟩))), (6, (.pointer (some ⟨b2, 0, none⟩))), (8, (.pointer (some ⟨b6, 0, none⟩))), (9, (.int .i64 x_7))] ∧ St [] w0 w m [[⟨b6, [(.int .i64 worst_34.Num), (.int .i64 worst_34.Den)], 26⟩], [⟨b2, [(.int .i64 0), (.int .i64 0)], 26⟩], [⟨b1, [(.int .i64 p_a.Num), (.int .i64 p_a.Den)], 26⟩]]) hl8 ⟨_, _, rfl, hF.sub ⟨rfl, rfl, rfl, rfl, rfl, rfl, rfl, rfl, rfl, rfl, trivial⟩, hS⟩ ?_ ?_
              · clear hF hS
                rintro s a w st ⟨t_15, worst_16, rfl, hF, hS⟩ hb8
                unfold impl_WorstRatio_l2 at hb8
                refine q_seq ?_
                refine q_region ?_
                refine q_x (v := (.bool (decide (t_15 < (goLen t_9.1))))) hF hS (ex_ibin rfl rfl rfl) rfl rfl fun a hF => ?_
                refine q_end (n_sq ?_)
                refine q_seq ?_
                rcases hc9 : (decide (t_15 < (goLen t_9.1))) with _ | _
                · have hb8 := cond_f hc9 hb8
                  refine q_cond_f hF rfl hc9 ?_
                  refine q_exit (x_sq ?_)
                  obtain rfl := someI hb8
                  exact ⟨nofun, .inl ⟨_, rfl, rfl, hF.sub ⟨rfl, rfl, rfl, rfl, rfl, rfl, trivial⟩, hS.mask [false, false, true, true, true]⟩⟩
                · have hb8 := cond_t hc9 hb8
                  refine q_cond_t hF rfl hc9 ?_
                  refine q_skipc (n_sq ?_)
                  refine q_seq ?_
                  refine q_block ?_
                  refine q_seq ?_
                  refine q_region ?_
                  refine q_x (v := (.int .i64 t_15)) hF hS (ex_move rfl) rfl rfl fun a hF => ?_
                  refine q_x (v := (.int .i64 t_15)) hF hS (ex_assign rfl) rfl rfl fun a hF => ?_
                  refine q_end (n_sq ?_)
                  refine q_seq ?_
                  refine e_region [] mixed fun w' hw' => ?_
                  have hS := hS.below hw'
                  refine e_p (v := s11.v) 0 hF rfl (ex_move rfl) rfl rfl (by kernel_rfl) (by kernel_rfl) (by kernel_rfl) fun a hF => ?_
                  refine e_p (v := (.int .i64 t_15)) 1 hF rfl (ex_move rfl) rfl rfl (by kernel_rfl) (by kernel_rfl) (by kernel_rfl) fun a hF => ?_
                  obtain ⟨e_17, he_17, hb8⟩ := bindS hb8
                  obtain ⟨vs18, at18, d18⟩ := h11.at he_17 2 rfl
                  obtain rfl : vs18 = [(.int .i64 e_17.Num), (.int .i64 e_17.Den)] := d18
                  refine e_p (v := (elP s11 (t_15.toNat * 2))) 2 hF rfl (ex_indexAddr Try.underlying51 sz26 rfl rfl (h11.idx he_17)) rfl rfl (by kernel_rfl) (by kernel_rfl) (by kernel_rfl) fun a hF => ?_
                  refine e_x (v := (.agg #[(.int .i64 e_17.Num), (.int .i64 e_17.Den)])) 3 hF hS rfl (ex_loadEA (us := [(.int .i64 e_17.Num), (.int .i64 e_17.Den)]) 0 Try.underlying26 rfl sz26 rfl (at18.at 1 rfl) rfl rfl rfl) rfl rfl (by kernel_rfl) (by kernel_rfl) (by kernel_rfl) (by kernel_rfl) fun a hF => ?_
                  refine e_p (v := s14.v) 4 hF rfl (ex_move rfl) rfl rfl (by kernel_rfl) (by kernel_rfl) (by kernel_rfl) fun a hF => ?_
                  refine e_p (v := (.int .i64 t_15)) 5 hF rfl (ex_move rfl) rfl rfl (by kernel_rfl) (by kernel_rfl) (by kernel_rfl) fun a hF => ?_
                  obtain ⟨e_19, he_19, hb8⟩ := bindS hb8
                  obtain ⟨vs20, at20, d20⟩ := h14.at he_19 2 rfl
                  obtain rfl : vs20 = [(.int .i64 e_19.Num), (.int .i64 e_19.Den)] := d20
                  refine e_p (v := (elP s14 (t_15.toNat * 2))) 6 hF rfl (ex_indexAddr Try.underlying51 sz26 rfl rfl (h14.idx he_19)) rfl rfl (by kernel_rfl) (by kernel_rfl) (by kernel_rfl) fun a hF => ?_
                  refine e_x (v := (.agg #[(.int .i64 e_19.Num), (.int .i64 e_19.Den)])) 7 hF hS rfl (ex_loadEA (us := [(.int .i64 e_19.Num), (.int .i64 e_19.Den)]) 0 Try.underlying26 rfl sz26 rfl (at20.at 0 rfl) rfl rfl rfl) rfl rfl (by kernel_rfl) (by kernel_rfl) (by kernel_rfl) (by kernel_rfl) fun a hF => ?_
                  refine e_p (v := (.agg #[(.int .i64 e_17.Num), (.int .i64 e_17.Den), (.int .i64 e_19.Num), (.int .i64 e_19.Den)])) 8 hF rfl (ex_build (cells := [(.int .i64 e_17.Num), (.int .i64 e_17.Den), (.int .i64 e_19.Num), (.int .i64 e_19.Den)]) rfl (by kernel_rfl)) rfl rfl (by kernel_rfl) (by kernel_rfl) (by kernel_rfl) fun a hF => ?_
                  refine e_p (v := s14.v) 9 hF rfl (ex_move rfl) rfl rfl (by kernel_rfl) (by kernel_rfl) (by kernel_rfl) fun a hF => ?_
                  refine e_p (v := (.int .i64 t_15)) 10 hF rfl (ex_move rfl) rfl rfl (by kernel_rfl) (by kernel_rfl) (by kernel_rfl) fun a hF => ?_
                  obtain ⟨e_21, he_21, hb8⟩ := bindS hb8
                  obtain ⟨vs22, at22, d22⟩ := h14.at he_21 2 rfl
                  obtain rfl : vs22 = [(.int .i64 e_21.Num), (.int .i64 e_21.Den)] := d22
                  refine e_p (v := (elP s14 (t_15.toNat * 2))) 11 hF rfl (ex_indexAddr Try.underlying51 sz26 rfl rfl (h14.idx he_21)) rfl rfl (by kernel_rfl) (by kernel_rfl) (by kernel_rfl) fun a hF => ?_
                  refine e_x (v := (.agg #[(.int .i64 e_21.Num), (.int .i64 e_21.Den)])) 12 hF hS rfl (ex_loadEA (us := [(.int .i64 e_21.Num), (.int .i64 e_21.Den)]) 0 Try.underlying26 rfl sz26 rfl (at22.at 0 rfl) rfl rfl rfl) rfl rfl (by kernel_rfl) (by kernel_rfl) (by kernel_rfl) (by kernel_rfl) fun a hF => ?_
                  refine e_p (v := s11.v) 13 hF rfl (ex_move rfl) rfl rfl (by kernel_rfl) (by kernel_rfl) (by kernel_rfl) fun a hF => ?_
                  refine e_p (v := (.int .i64 t_15)) 14 hF rfl (ex_move rfl) rfl rfl (by kernel_rfl) (by kernel_rfl) (by kernel_rfl) fun a hF => ?_
                  obtain ⟨e_23, he_23, hb8⟩ := bindS hb8
                  obtain ⟨vs24, at24, d24⟩ := h11.at he_23 2 rfl
                  obtain rfl : vs24 = [(.int .i64 e_23.Num), (.int .i64 e_23.Den)] := d24
                  refine e_p (v := (elP s11 (t_15.toNat * 2))) 15 hF rfl (ex_indexAddr Try.underlying51 sz26 rfl rfl (h11.idx he_23)) rfl rfl (by kernel_rfl) (by kernel_rfl) (by kernel_rfl) fun a hF => ?_
                  refine e_x (v := (.agg #[(.int .i64 e_23.Num), (.int .i64 e_23.Den)])) 16 hF hS rfl (ex_loadEA (us := [(.int .i64 e_23.Num), (.int .i64 e_23.Den)]) 0 Try.underlying26 rfl sz26 rfl (at24.at 1 rfl) rfl rfl rfl) rfl rfl (by kernel_rfl) (by kernel_rfl) (by kernel_rfl) (by kernel_rfl) fun a hF => ?_
                  refine e_p (v := (.agg #[(.int .i64 e_21.Num), (.int .i64 e_21.Den), (.int .i64 e_23.Num), (.int .i64 e_23.Den)])) 17 hF rfl (ex_build (cells := [(.int .i64 e_21.Num), (.int .i64 e_21.Den), (.int .i64 e_23.Num), (.int .i64 e_23.Den)]) rfl (by kernel_rfl)) rfl rfl (by kernel_rfl) (by kernel_rfl) (by kernel_rfl) fun a hF => ?_
                  refine e_p (v := (.agg #[(.int .i64 e_17.Num), (.int .i64 e_17.Den), (.int .i64 e_19.Num), (.int .i64 e_19.Den), (.int .i64 e_21.Num), (.int .i64 e_21.Den), (.int .i64 e_23.Num), (.int .i64 e_23.Den)])) 18 hF rfl (ex_build (cells := [(.int .i64 e_17.Num), (.int .i64 e_17.Den), (.int .i64 e_19.Num), (.int .i64 e_19.Den), (.int .i64 e_21.Num), (.int .i64 e_21.Den), (.int .i64 e_23.Num), (.int .i64 e_23.Den)]) rfl (by kernel_rfl)) rfl rfl (by kernel_rfl) (by kernel_rfl) (by kernel_rfl) fun a hF => ?_
                  refine e_p (v := (.int .i64 0)) 19 hF rfl (ex_move rfl) rfl rfl (by kernel_rfl) (by kernel_rfl) (by kernel_rfl) fun a hF => ?_
                  refine e_end (by kernel_rfl) (n_sq ?_) _
                  refine q_block ?_
                  obtain ⟨o10, hl10, hb8⟩ := bindS hb8
                  refine q_loop (fun (s : Int × impl_Frac) a w => ∃ t_25, ∃ worst_26, s = (t_25, worst_26) ∧ Fr a 104 [(1, (.int .i64 p_lo)), (2, (.int .i64 p_hi)), (3, (.pointer (some ⟨b1, 0, none⟩))), (6, (.pointer (some ⟨b2, 0, none⟩))), (8, (.pointer (some ⟨b6, 0, none⟩))), (9, (.int .i64 x_7)), (10, s11.v), (12, s14.v), (59, (.int .i64 (goLen t_9.1))), (60, (.int .i64 t_15)), (81, (.agg #[(.int .i64 e_17.Num), (.int .i64 e_17.Den), (.int .i64 e_19.Num), (.int .i64 e_19.Den), (.int .i64 e_21.Num), (.int .i64 e_21.Den), (.int .i64 e_23.Num), (.int .i64 e_23.Den)])), (82, (.int .i64 t_25))] ∧ St [] w0 w m [q14, q11, [⟨b6, [(.int .i64 worst_26.Num), (.int .i64 worst_26.Den)], 26⟩], [⟨b2, [(.int .i64 0), (.int .i64 0)], 26⟩], [⟨b1, [(.int .i64 p_a.Num), (.int .i64 p_a.Den)], 26⟩]]) (fun (o : (impl_Frac) ⊕ (Stp (Int × impl_Frac) ((impl_Frac) ⊕ (Stp (Int × impl_Frac) ((impl_Frac) ⊕ (impl_Frac × Bool)))))) e a w => ∃ worst_33, o = .inl worst_33 ∧ e = .exit 4 ∧ Fr a 104 [(1, (.int .i64 p_lo)), (2, (.int .i64 p_hi)), (3, (.pointer (some ⟨b1, 0, none⟩))), (6, (.pointer (some ⟨b2, 0, none⟩))), (8, (.pointer (some ⟨b6, 0, none⟩))), (9, (.int .i64 x_7)), (10, s11.v), (12, s14.v), (59, (.int .i64 (goLen t_9.1))), (60, (.int .i64 t_15))] ∧ St [] w0 w m [q11, q14, [⟨b6, [(.int .i64 worst_33.Num), (.int .i64 worst_33.Den)], 26⟩], [⟨b2, [(.int .i64 0), (.int .i64 0)], 26⟩], [⟨b1, [(.int .i64 p_a.Num), (.int .i64 p_a.Den)], 26⟩]]) hl10 ⟨_, _, rfl, hF.sub ⟨rfl, rfl, rfl, rfl, rfl, rfl, rfl, rfl, rfl, rfl, rfl, rfl, trivial⟩, hS⟩ ?_ ?_
                  · clear hF hS
                    rintro s a w st ⟨t_25, worst_26, rfl, hF, hS⟩ hb10
                    unfold impl_WorstRatio_l3 at hb10
                    refine q_seq ?_
                    refine q_region ?_
                    refine q_x (v := (.bool (decide (t_25 < 2)))) hF hS (ex_ibin rfl rfl rfl) rfl rfl fun a hF => ?_
                    refine q_end (n_sq ?_)
                    refine q_seq ?_
                    rcases hc11 : (decide (t_25 < 2)) with _ | _
                    · have hb10 := cond_f hc11 hb10
                      refine q_cond_f hF rfl hc11 ?_
                      refine q_exit (x_sq ?_)
                      obtain rfl := someI hb10
                      exact ⟨nofun, .inl ⟨_, rfl, rfl, hF.sub ⟨rfl, rfl, rfl, rfl, rfl, rfl, rfl, rfl, rfl, rfl, trivial⟩, hS.sel [1, 0, 2, 3, 4] (by decide)⟩⟩
                    · have hb10 := cond_t hc11 hb10
                      refine q_cond_t hF rfl hc11 ?_
                      refine q_skipc (n_sq ?_)
                      refine q_seq ?_
                      refine q_block ?_
                      refine q_seq ?_
                      refine q_region ?_
                      obtain ⟨t_27, ht_27, hb10⟩ := bindS hb10
                      refine q_x (v := (.agg #[(.int .i64 t_27.1.Num), (.int .i64 t_27.1.Den), (.int .i64 t_27.2.Num), (.int .i64 t_27.2.Den)])) hF hS (ex_indexA (l := [(e_17, e_19), (e_21, e_23)]) (fun (e : impl_Frac × impl_Frac) => [(.int .i64 e.1.Num), (.int .i64 e.1.Den), (.int .i64 e.2.Num), (.int .i64 e.2.Den)]) (fun _ => rfl) Try.underlying113 Try.underlying112 rfl sz112 rfl rfl rfl rfl ht_27) rfl rfl fun a hF => ?_
                      refine q_alloc (cs := [(.int .i64 0), (.int .i64 0), (.int .i64 0), (.int .i64 0)]) hF hS rfl rfl rfl fun a w b28 hF hS => ?_
                      refine q_store (vs := [(.int .i64 t_27.1.Num), (.int .i64 t_27.1.Den), (.int .i64 t_27.2.Num), (.int .i64 t_27.2.Den)]) (cs' := [(.int .i64 t_27.1.Num), (.int .i64 t_27.1.Den), (.int .i64 t_27.2.Num), (.int .i64 t_27.2.Den)]) 0 0 hF hS sz112 rfl rfl rfl rfl rfl rfl rfl rfl fun a w hF hS => ?_
                      refine q_end (n_sq ?_)
                      refine q_seq ?_
                      refine q_region ?_
                      refine q_x (v := (.pointer (some ⟨b28, 0, none⟩))) hF hS (ex_indexAddrA (i := 0) Try.underlying112 sz26 rfl rfl rfl) rfl rfl fun a hF => ?_
                      refine q_x (v := (.agg #[(.int .i64 t_27.1.Num), (.int .i64 t_27.1.Den)])) hF hS (ex_loadA (vs := [(.int .i64 t_27.1.Num), (.int .i64 t_27.1.Den)]) 0 0 Try.underlying26 rfl sz26 rfl rfl rfl rfl) rfl rfl fun a hF => ?_
                      refine q_x (v := (.pointer (some ⟨b28, 2, none⟩))) hF hS (ex_indexAddrA (i := 1) Try.underlying112 sz26 rfl rfl rfl) rfl rfl fun a hF => ?_
                      refine q_x (v := (.agg #[(.int .i64 t_27.2.Num), (.int .i64 t_27.2.Den)])) hF hS (ex_loadA (vs := [(.int .i64 t_27.2.Num), (.int .i64 t_27.2.Den)]) 0 0 Try.underlying26 rfl sz26 rfl rfl rfl rfl) rfl rfl fun a hF => ?_
                      obtain ⟨t_29, ht_29, hb10⟩ := bindS hb10
                      refine q_call (vs := [(.agg #[(.int .i64 t_27.1.Num), (.int .i64 t_27.1.Den)]), (.agg #[(.int .i64 t_27.2.Num), (.int .i64 t_27.2.Den)])]) hF hS Try.func75 (by kernel_rfl) rfl rfl rfl (c_impl_DivFrac t_27.1 t_27.2 t_29 ht_29 _ m hS.vis) ?_
                      rintro a w _ rfl hF hS
                      refine q_x (v := (.tuple #[(.agg #[(.int .i64 t_29.1.Num), (.int .i64 t_29.1.Den)]), (.bool t_29.2)])) hF hS (ex_move rfl) rfl rfl fun a hF => ?_
                      refine q_x (v := (.agg #[(.int .i64 t_29.1.Num), (.int .i64 t_29.1.Den)])) hF hS (ex_extract rfl rfl) rfl rfl fun a hF => ?_
                      refine q_x (v := (.bool t_29.2)) hF hS (ex_extract rfl rfl) rfl rfl fun a hF => ?_
                      refine q_alloc (cs := [(.int .i64 0), (.int .i64 0)]) hF hS rfl rfl rfl fun a w b30 hF hS => ?_
                      refine q_store (vs := [(.int .i64 t_29.1.Num), (.int .i64 t_29.1.Den)]) (cs' := [(.int .i64 t_29.1.Num), (.int .i64 t_29.1.Den)]) 0 0 hF hS sz26 rfl rfl rfl rfl rfl rfl rfl rfl fun a w hF hS => ?_
                      refine q_x (v := (.bool t_29.2)) hF hS (ex_assign rfl) rfl rfl fun a hF => ?_
                      refine q_end (n_sq ?_)
                      refine q_seq ?_
                      refine q_seq ?_
                      refine q_region ?_
                      refine q_x (v := (.bool t_29.2)) hF hS (ex_move rfl) rfl rfl fun a hF => ?_
                      refine q_x (v := (.bool (!t_29.2))) hF hS (ex_not rfl) rfl rfl fun a hF => ?_
                      refine q_end (n_sq ?_)
                      rcases hc12 : (!t_29.2) with _ | _
                      · have hb10 := cond_f hc12 hb10
                        refine q_cond_f hF rfl hc12 ?_
                        refine q_skipc (n_sq ?_)
                        refine q_seq ?_
                        refine q_region ?_
                        refine q_x (v := (.agg #[(.int .i64 t_29.1.Num), (.int .i64 t_29.1.Den)])) hF hS (ex_loadA (vs := [(.int .i64 t_29.1.Num), (.int .i64 t_29.1.Den)]) 0 0 Try.underlying26 rfl sz26 rfl rfl rfl rfl) rfl rfl fun a hF => ?_
                        refine q_x (v := (.agg #[(.int .i64 worst_26.Num), (.int .i64 worst_26.Den)])) hF hS (ex_loadA (vs := [(.int .i64 worst_26.Num), (.int .i64 worst_26.Den)]) 4 0 Try.underlying26 rfl sz26 rfl rfl rfl rfl) rfl rfl fun a hF => ?_
                        obtain ⟨t_31, ht_31, hb10⟩ := bindS hb10
                        refine q_call (vs := [(.agg #[(.int .i64 t_29.1.Num), (.int .i64 t_29.1.Den)]), (.agg #[(.int .i64 worst_26.Num), (.int .i64 worst_26.Den)])]) hF hS Try.func102 (by kernel_rfl) rfl rfl rfl (c_impl_cmpFrac t_29.1 worst_26 t_31 ht_31 _ m hS.vis) ?_
                        rintro a w _ rfl hF hS
                        refine q_x (v := (.bool (decide (0 < t_31)))) hF hS (ex_ibin rfl rfl rfl) rfl rfl fun a hF => ?_
                        refine q_end (n_sq ?_)
                        obtain ⟨worst_32, hj13, hb10⟩ := bindS hb10
                        refine q_join (fun a w => Fr a 104 [(1, (.int .i64 p_lo)), (2, (.int .i64 p_hi)), (3, (.pointer (some ⟨b1, 0, none⟩))), (6, (.pointer (some ⟨b2, 0, none⟩))), (8, (.pointer (some ⟨b6, 0, none⟩))), (9, (.int .i64 x_7)), (10, s11.v), (12, s14.v), (59, (.int .i64 (goLen t_9.1))), (60, (.int .i64 t_15)), (81, (.agg #[(.int .i64 e_17.Num), (.int .i64 e_17.Den), (.int .i64 e_19.Num), (.int .i64 e_19.Den), (.int .i64 e_21.Num), (.int .i64 e_21.Den), (.int .i64 e_23.Num), (.int .i64 e_23.Den)])), (82, (.int .i64 t_25))] ∧ St [] w0 w m [q11, q14, [⟨b6, [(.int .i64 worst_32.Num), (.int .i64 worst_32.Den)], 26⟩], [⟨b2, [(.int .i64 0), (.int .i64 0)], 26⟩], [⟨b1, [(.int .i64 p_a.Num), (.int .i64 p_a.Den)], 26⟩]]) ?_ ?_
                        · rcases hc14 : (decide (0 < t_31)) with _ | _
                          · have hj13 := cond_f hc14 hj13
                            refine q_cond_f hF rfl hc14 ?_
                            refine q_skipc (n_jn ?_)
                            obtain rfl := someI hj13
                            exact ⟨hF.sub ⟨rfl, rfl, rfl, rfl, rfl, rfl, rfl, rfl, rfl, rfl, rfl, rfl, trivial⟩, hS.sel [3, 2, 4, 5, 6] (by decide)⟩
                          · have hj13 := cond_t hc14 hj13
                            refine q_cond_t hF rfl hc14 ?_
                            refine q_region ?_
                            refine q_x (v := (.agg #[(.int .i64 t_29.1.Num), (.int .i64 t_29.1.Den)])) hF hS (ex_loadA (vs := [(.int .i64 t_29.1.Num), (.int .i64 t_29.1.Den)]) 0 0 Try.underlying26 rfl sz26 rfl rfl rfl rfl) rfl rfl fun a hF => ?_
                            refine q_store (vs := [(.int .i64 t_29.1.Num), (.int .i64 t_29.1.Den)]) (cs' := [(.int .i64 t_29.1.Num), (.int .i64 t_29.1.Den)]) 4 0 hF hS sz26 rfl rfl rfl rfl rfl rfl rfl rfl fun a w hF hS => ?_
                            refine q_end (n_jn ?_)
                            obtain rfl := someI hj13
                            exact ⟨hF.sub ⟨rfl, rfl, rfl, rfl, rfl, rfl, rfl, rfl, rfl, rfl, rfl, rfl, trivial⟩, hS.sel [3, 2, 4, 5, 6] (by decide)⟩
                        · rintro a w ⟨hF, hS⟩
                          refine n_ib (n_sq ?_)
                          refine q_region ?_
                          refine q_x (v := (.int .i64 (w64 (t_25 + 1)))) hF hS (ex_ibin rfl rfl rfl) rfl rfl fun a hF => ?_
                          refine q_x (v := (.int .i64 (w64 (t_25 + 1)))) hF hS (ex_move rfl) rfl rfl fun a hF => ?_
                          refine q_end ?_
                          obtain rfl := someI hb10
                          exact ⟨rfl, _, _, rfl, hF.sub ⟨rfl, rfl, rfl, rfl, rfl, rfl, rfl, rfl, rfl, rfl, rfl, rfl, trivial⟩, hS.sel [1, 0, 2, 3, 4] (by decide)⟩
                      · have hb10 := cond_t hc12 hb10
                        refine q_cond_t hF rfl hc12 ?_
                        refine q_seq ?_
                        refine q_region ?_
                        refine q_x (v := (.agg #[(.int .i64 0), (.int .i64 0)])) hF hS (ex_build (cells := [(.int .i64 0), (.int .i64 0)]) rfl (by kernel_rfl)) rfl rfl fun a hF => ?_
                        refine q_store (vs := [(.int .i64 0), (.int .i64 0)]) (cs' := [(.int .i64 0), (.int .i64 0)]) 5 0 hF hS sz26 rfl rfl rfl rfl rfl rfl rfl rfl fun a w hF hS => ?_
                        refine q_x (v := (.bool false)) hF hS (ex_assign rfl) rfl rfl fun a hF => ?_
                        refine q_end (n_sq (q_ret (r_sq (r_ib (r_sq ?_)))))
                        obtain rfl := someI hb10
                        refine ⟨nofun, .inr fun ho => ?_⟩
                        subst ho
                        refine r_ib (r_ib (r_sq ?_))
                        obtain rfl := someI hb8
                        refine ⟨nofun, .inr fun ho => ?_⟩
                        subst ho
                        refine r_ib (r_ib (r_sq ?_))
                        obtain rfl := someI hb4
                        refine ⟨nofun, .inr fun ho => ?_⟩
                        subst ho
                        refine r_ib (r_sq ?_)
                        obtain rfl := someI hr
                        exact ret_of hF hS rfl (.cellA (us := [(.int .i64 0), (.int .i64 0)]) 5 0 Try.underlying26 rfl sz26 rfl rfl rfl rfl (.tmp rfl .nil)) rfl
                  · rintro e a w ⟨worst_33, rfl, rfl, hF, hS⟩
                    refine x_ib (n_ib (n_sq ?_))
                    refine q_region ?_
                    refine q_x (v := (.int .i64 (w64 (t_15 + 1)))) hF hS (ex_ibin rfl rfl rfl) rfl rfl fun a hF => ?_
                    refine q_x (v := (.int .i64 (w64 (t_15 + 1)))) hF hS (ex_move rfl) rfl rfl fun a hF => ?_
                    refine q_end ?_
                    obtain rfl := someI hb8
                    exact ⟨rfl, _, _, rfl, hF.sub ⟨rfl, rfl, rfl, rfl, rfl, rfl, rfl, rfl, rfl, rfl, trivial⟩, hS.sel [1, 0, 2, 3, 4] (by decide)⟩
              · rintro e a w ⟨worst_34, rfl, rfl, hF, hS⟩
                refine x_ib (n_ib (n_sq ?_))
                refine q_region ?_
                refine q_x (v := (.int .i64 x_7)) hF hS (ex_move rfl) rfl rfl fun a hF => ?_
                refine q_x (v := (.int .i64 (w64 (x_7 + 1)))) hF hS (ex_ibin rfl rfl rfl) rfl rfl fun a hF => ?_
                refine q_x (v := (.int .i64 (w64 (x_7 + 1)))) hF hS (ex_assign rfl) rfl rfl fun a hF => ?_
                refine q_end ?_
                obtain rfl := someI hb4
                exact ⟨rfl, _, _, rfl, hF.sub ⟨rfl, rfl, rfl, rfl, rfl, rfl, trivial⟩, hS⟩
            · have hb4 := cond_t hc7 hb4
              refine q_cond_t hF rfl hc7 ?_
              refine q_seq ?_
              refine q_region ?_
              refine q_x (v := (.agg #[(.int .i64 0), (.int .i64 0)])) hF hS (ex_build (cells := [(.int .i64 0), (.int .i64 0)]) rfl (by kernel_rfl)) rfl rfl fun a hF => ?_
              refine q_store (vs := [(.int .i64 0), (.int .i64 0)]) (cs' := [(.int .i64 0), (.int .i64 0)]) 3 0 hF hS sz26 rfl rfl rfl rfl rfl rfl rfl rfl fun a w hF hS => ?_
              refine q_x (v := (.bool false)) hF hS (ex_assign rfl) rfl rfl fun a hF => ?_
              refine q_end (n_sq (q_ret (r_sq (r_ib (r_sq ?_)))))
              obtain rfl := someI hb4
              refine ⟨nofun, .inr fun ho => ?_⟩
              subst ho
              refine r_ib (r_sq ?_)
              obtain rfl := someI hr
              exact ret_of hF hS rfl (.cellA (us := [(.int .i64 0), (.int .i64 0)]) 3 0 Try.underlying26 rfl sz26 rfl rfl rfl rfl (.tmp rfl .nil)) rfl
          · have hb4 := cond_t hc6 hb4
            refine q_cond_t hF rfl hc6 ?_
            refine q_seq ?_
            refine q_region ?_
            refine q_x (v := (.agg #[(.int .i64 0), (.int .i64 0)])) hF hS (ex_build (cells := [(.int .i64 0), (.int .i64 0)]) rfl (by kernel_rfl)) rfl rfl fun a hF => ?_
            refine q_store (vs := [(.int .i64 0), (.int .i64 0)]) (cs' := [(.int .i64 0), (.int .i64 0)]) 2 0 hF hS sz26 rfl rfl rfl rfl rfl rfl rfl rfl fun a w hF hS => ?_
            refine q_x (v := (.bool false)) hF hS (ex_assign rfl) rfl rfl fun a hF => ?_
            refine q_end (n_sq (q_ret (r_sq (r_ib (r_sq ?_)))))
            obtain rfl := someI hb4
            refine ⟨nofun, .inr fun ho => ?_⟩
            subst ho
            refine r_ib (r_sq ?_)
            obtain rfl := someI hr
            exact ret_of hF hS rfl (.cellA (us := [(.int .i64 0), (.int .i64 0)]) 2 0 Try.underlying26 rfl sz26 rfl rfl rfl rfl (.tmp rfl .nil)) rfl
      · rintro e a w ⟨worst_35, rfl, rfl, hF, hS⟩
        refine x_ib (n_sq ?_)
        refine q_seq ?_
        refine q_region ?_
        refine q_x (v := (.agg #[(.int .i64 worst_35.Num), (.int .i64 worst_35.Den)])) hF hS (ex_loadA (vs := [(.int .i64 worst_35.Num), (.int .i64 worst_35.Den)]) 0 0 Try.underlying26 rfl sz26 rfl rfl rfl rfl) rfl rfl fun a hF => ?_
        refine q_store (vs := [(.int .i64 worst_35.Num), (.int .i64 worst_35.Den)]) (cs' := [(.int .i64 worst_35.Num), (.int .i64 worst_35.Den)]) 1 0 hF hS sz26 rfl rfl rfl rfl rfl rfl rfl rfl fun a w hF hS => ?_
        refine q_x (v := (.bool true)) hF hS (ex_assign rfl) rfl rfl fun a hF => ?_
        refine q_end (n_sq (q_ret ?_))
        obtain rfl := someI hr
        exact ret_of hF hS rfl (.cellA (us := [(.int .i64 worst_35.Num), (.int .i64 worst_35.Den)]) 1 0 Try.underlying26 rfl sz26 rfl rfl rfl rfl (.tmp rfl .nil)) rfl
    · have hr := cond_t hc3 hr
      refine q_cond_t hF rfl hc3 ?_
      refine q_seq ?_
      refine q_region ?_
      refine q_x (v := (.agg #[(.int .i64 0), (.int .i64 0)])) hF hS (ex_build (cells := [(.int .i64 0), (.int .i64 0)]) rfl (by kernel_rfl)) rfl rfl fun a hF => ?_
      refine q_store (vs := [(.int .i64 0), (.int .i64 0)]) (cs' := [(.int .i64 0), (.int .i64 0)]) 0 0 hF hS sz26 rfl rfl rfl rfl rfl rfl rfl rfl fun a w hF hS => ?_
      refine q_x (v := (.bool false)) hF hS (ex_assign rfl) rfl rfl fun a hF => ?_
      refine q_end (n_sq (q_ret (r_sq ?_)))
      obtain rfl := someI hr
      exact ret_of hF hS rfl (.cellA (us := [(.int .i64 0), (.int .i64 0)]) 0 0 Try.underlying26 rfl sz26 rfl rfl rfl rfl (.tmp rfl .nil)) rfl

theorem c_laws_FnExactWorstRatio (p_aA : laws_Frac) (p_aLo : Int) (p_aHi : Int) (r : Bool) (hr : laws_FnExactWorstRatio p_aA p_aLo p_aHi = some r) (w0 : World) (m : Mem) (hv : Vis m w0) :
    Ret Try.prog 15 [(.agg #[(.int .i64 p_aA.Num), (.int .i64 p_aA.Den)]), (.int .i64 p_aLo), (.int .i64 p_aHi)] w0 (fun v _ => v = (.bool r)) := by
  unfold laws_FnExactWorstRatio at hr
  refine ret_start Try.func15 rfl 36 rfl rfl m hv fun a hF hS => ?_
  refine q_seq ?_
  refine q_region ?_
  refine q_box (cs := [(.int .i64 p_aA.Num), (.int .i64 p_aA.Den)]) hF hS rfl rfl rfl fun a w b1 hF hS => ?_
  refine q_x (v := (.bool false)) hF hS (ex_assign rfl) rfl rfl fun a hF => ?_
  refine q_end (n_sq ?_)
  refine q_seq ?_
  refine q_region ?_
  refine q_x (v := (.agg #[(.int .i64 p_aA.Num), (.int .i64 p_aA.Den)])) hF hS (ex_loadA (vs := [(.int .i64 p_aA.Num), (.int .i64 p_aA.Den)]) 0 0 Try.underlying23 rfl sz23 rfl rfl rfl rfl) rfl rfl fun a hF => ?_
  obtain ⟨t_2, ht_2, hr⟩ := bindS hr
  refine q_call (vs := [(.agg #[(.int .i64 p_aA.Num), (.int .i64 p_aA.Den)])]) hF hS Try.func30 (by kernel_rfl) rfl rfl rfl (c_laws_toFrac p_aA t_2 ht_2 _ m hS.vis) ?_
  rintro a w _ rfl hF hS
  refine q_x (v := (.int .i64 p_aLo)) hF hS (ex_move rfl) rfl rfl fun a hF => ?_
  refine q_x (v := (.int .i64 p_aHi)) hF hS (ex_move rfl) rfl rfl fun a hF => ?_
  obtain ⟨t_3, ht_3, hr⟩ := bindS hr
  refine q_call (vs := [(.agg #[(.int .i64 t_2.Num), (.int .i64 t_2.Den)]), (.int .i64 p_aLo), (.int .i64 p_aHi)]) hF hS Try.func58 (by kernel_rfl) rfl rfl rfl (c_spec_WorstRatio t_2 p_aLo p_aHi t_3 ht_3 _ m hS.vis) ?_
  rintro a w _ rfl hF hS
  refine q_x (v := (.tuple #[(.agg #[(.int .i64 t_3.1.Num), (.int .i64 t_3.1.Den)]), (.bool t_3.2)])) hF hS (ex_move rfl) rfl rfl fun a hF => ?_
  refine q_x (v := (.agg #[(.int .i64 t_3.1.Num), (.int .i64 t_3.1.Den)])) hF hS (ex_extract rfl rfl) rfl rfl fun a hF => ?_
  refine q_x (v := (.bool t_3.2)) hF hS (ex_extract rfl rfl) rfl rfl fun a hF => ?_
  refine q_alloc (cs := [(.int .i64 0), (.int .i64 0)]) hF hS rfl rfl rfl fun a w b4 hF hS => ?_
  refine q_store (vs := [(.int .i64 t_3.1.Num), (.int .i64 t_3.1.Den)]) (cs' := [(.int .i64 t_3.1.Num), (.int .i64 t_3.1.Den)]) 0 0 hF hS sz26 rfl rfl rfl rfl rfl rfl rfl rfl fun a w hF hS => ?_
  refine q_x (v := (.bool t_3.2)) hF hS (ex_assign rfl) rfl rfl fun a hF => ?_
  refine q_end (n_sq ?_)
  refine q_seq ?_
  refine q_region ?_
  refine q_x (v := (.agg #[(.int .i64 p_aA.Num), (.int .i64 p_aA.Den)])) hF hS (ex_loadA (vs := [(.int .i64 p_aA.Num), (.int .i64 p_aA.Den)]) 1 0 Try.underlying23 rfl sz23 rfl rfl rfl rfl) rfl rfl fun a hF => ?_
  obtain ⟨t_5, ht_5, hr⟩ := bindS hr
  refine q_call (vs := [(.agg #[(.int .i64 p_aA.Num), (.int .i64 p_aA.Den)])]) hF hS Try.func30 (by kernel_rfl) rfl rfl rfl (c_laws_toFrac p_aA t_5 ht_5 _ m hS.vis) ?_
  rintro a w _ rfl hF hS
  refine q_x (v := (.int .i64 p_aLo)) hF hS (ex_move rfl) rfl rfl fun a hF => ?_
  refine q_x (v := (.int .i64 p_aHi)) hF hS (ex_move rfl) rfl rfl fun a hF => ?_
  obtain ⟨t_6, ht_6, hr⟩ := bindS hr
  refine q_call (vs := [(.agg #[(.int .i64 t_5.Num), (.int .i64 t_5.Den)]), (.int .i64 p_aLo), (.int .i64 p_aHi)]) hF hS Try.func59 (by kernel_rfl) rfl rfl rfl (c_impl_WorstRatio t_5 p_aLo p_aHi t_6 ht_6 _ m hS.vis) ?_
  rintro a w _ rfl hF hS
  refine q_x (v := (.tuple #[(.agg #[(.int .i64 t_6.1.Num), (.int .i64 t_6.1.Den)]), (.bool t_6.2)])) hF hS (ex_move rfl) rfl rfl fun a hF => ?_
  refine q_x (v := (.agg #[(.int .i64 t_6.1.Num), (.int .i64 t_6.1.Den)])) hF hS (ex_extract rfl rfl) rfl rfl fun a hF => ?_
  refine q_x (v := (.bool t_6.2)) hF hS (ex_extract rfl rfl) rfl rfl fun a hF => ?_
  refine q_alloc (cs := [(.int .i64 0), (.int .i64 0)]) hF hS rfl rfl rfl fun a w b7 hF hS => ?_
  refine q_store (vs := [(.int .i64 t_6.1.Num), (.int .i64 t_6.1.Den)]) (cs' := [(.int .i64 t_6.1.Num), (.int .i64 t_6.1.Den)]) 0 0 hF hS sz26 rfl rfl rfl rfl rfl rfl rfl rfl fun a w hF hS => ?_
  refine q_x (v := (.bool t_6.2)) hF hS (ex_assign rfl) rfl rfl fun a hF => ?_
  refine q_end (n_sq ?_)
  refine q_seq ?_
  refine q_seq ?_
  obtain ⟨t_9, hj1, hr⟩ := bindS hr
  refine q_join (fun a w => Fr a 36 [(35, (.bool t_9))] ∧ St [] w0 w m []) ?_ ?_
  · refine q_region ?_
    refine q_x (v := (.agg #[(.int .i64 t_6.1.Num), (.int .i64 t_6.1.Den)])) hF hS (ex_loadA (vs := [(.int .i64 t_6.1.Num), (.int .i64 t_6.1.Den)]) 0 0 Try.underlying26 rfl sz26 rfl rfl rfl rfl) rfl rfl fun a hF => ?_
    refine q_x (v := (.agg #[(.int .i64 t_3.1.Num), (.int .i64 t_3.1.Den)])) hF hS (ex_loadA (vs := [(.int .i64 t_3.1.Num), (.int .i64 t_3.1.Den)]) 1 0 Try.underlying26 rfl sz26 rfl rfl rfl rfl) rfl rfl fun a hF => ?_
    obtain ⟨t_8, ht_8, hj1⟩ := bindS hj1
    refine q_call (vs := [(.agg #[(.int .i64 t_6.1.Num), (.int .i64 t_6.1.Den)]), (.agg #[(.int .i64 t_3.1.Num), (.int .i64 t_3.1.Den)])]) hF hS Try.func32 (by kernel_rfl) rfl rfl rfl (c_laws_eqFrac t_6.1 t_3.1 t_8 ht_8 _ m hS.vis) ?_
    rintro a w _ rfl hF hS
    refine q_x (v := (.bool (!t_8))) hF hS (ex_not rfl) rfl rfl fun a hF => ?_
    refine q_x (v := (.bool (!t_8))) hF hS (ex_move rfl) rfl rfl fun a hF => ?_
    rcases hc2 : (!t_8) with _ | _
    · have hj1 := cond_f hc2 hj1
      refine q_xg (v := (.bool t_6.2)) hF hS (ex_move rfl) (wanted_t hF rfl rfl rfl hc2) rfl fun a hF => ?_
      refine q_xg (v := (.bool t_3.2)) hF hS (ex_move rfl) (wanted_t hF rfl rfl rfl hc2) rfl fun a hF => ?_
      refine q_xg (v := (.bool (t_6.2 != t_3.2))) hF hS (ex_bne Try.underlying4 rfl rfl) (wanted_t hF rfl rfl rfl hc2) rfl fun a hF => ?_
      refine q_x (v := (.bool (t_6.2 != t_3.2))) hF hS (ex_pick_f rfl rfl hc2) rfl rfl fun a hF => ?_
      refine q_end (n_jn ?_)
      obtain rfl := someI hj1
      exact ⟨hF.sub ⟨rfl, trivial⟩, hS.mask [false, false, false]⟩
    · have hj1 := cond_t hc2 hj1
      refine q_skip hF (wanted_f hF rfl rfl rfl hc2 rfl) rfl fun a hF => ?_
      refine q_skip hF (wanted_f hF rfl rfl rfl hc2 rfl) rfl fun a hF => ?_
      refine q_skip hF (wanted_f hF rfl rfl rfl hc2 rfl) rfl fun a hF => ?_
      refine q_x (v := (.bool true)) hF hS (ex_pick_t rfl rfl hc2) rfl rfl fun a hF => ?_
      refine q_end (n_jn ?_)
      obtain rfl := someI hj1
      exact ⟨hF.sub ⟨rfl, trivial⟩, hS.mask [false, false, false]⟩
  · rintro a w ⟨hF, hS⟩
    refine n_sq ?_
    rcases hc3 : (t_9) with _ | _
    · have hr := cond_f hc3 hr
      refine q_cond_f hF rfl hc3 ?_
      refine q_skipc (n_sq ?_)
      refine q_seq ?_
      refine q_region ?_
      refine q_x (v := (.bool true)) hF hS (ex_assign rfl) rfl rfl fun a hF => ?_
      refine q_end (n_sq (q_ret ?_))
      obtain rfl := someI hr
      exact ret_of hF hS rfl (.tmp rfl .nil) rfl
    · have hr := cond_t hc3 hr
      refine q_cond_t hF rfl hc3 ?_
      refine q_seq ?_
      refine q_region ?_
      refine q_x (v := (.bool false)) hF hS (ex_assign rfl) rfl rfl fun a hF => ?_
      refine q_end (n_sq (q_ret (r_sq ?_)))
      obtain rfl := someI hr
      exact ret_of hF hS rfl (.tmp rfl .nil) rfl

end Go.Proofs.Ytkgmphgbmjbfhaa
