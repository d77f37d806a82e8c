/- The walks of the functions: each returns what its plain function says. -/
import Derived.Test.YtnmimeojimfogaaBWalks3
namespace Go.Proofs.Ytnmimeojimfogaa
open Go.Gx Go.Gx.F Go.RowKit
set_option linter.all false
set_option maxRecDepth 10000


theorem c_spec_SourcesIn (p_g : impl_Geo) (p_s : List impl_Variable) (p_l : List impl_Table) (r : (List (List Int)) × Bool) (hr : spec_SourcesIn p_g p_s p_l = some r) (w0 : World) (m : Mem) (hv : Vis m w0) (s1 : Sl) (h1 : Rd m s1 p_g.Parents) (s2 : Sl) (h2 : Rd m s2 p_s) (s3 : Sl) (h3 : Rd m s3 p_l) :
  Ret Try.prog 19 [(.agg #[s1.v]), s2.v, s3.v] w0 (fun v w => ∃ (m' : Mem) (q0' : Piece) (s0' : Sl), v = (.tuple #[s0'.v, (.bool r.2)]) ∧ MLe [] w0.heap.size m m' ∧ St [] w0 w m' [q0'] ∧ OwnL m' 24 q0' s0' r.1) := by
 unfold spec_SourcesIn at hr
 refine ret_start Try.func19 rfl 48 rfl rfl m hv fun a hF hS => q_seq (q_region (q_box (cs := [s1.v]) hF hS rfl rfl rfl fun a w b4 hF hS => q_x (v := nilS.v) hF hS (ex_assign rfl) rfl rfl fun a hF => q_x (v := (.bool false)) hF hS (ex_assign rfl) rfl rfl fun a hF => q_end (n_sq (q_seq (q_seq (q_region (q_x (v := (.agg #[s1.v])) hF hS (ex_loadA (vs := [s1.v]) 0 0 Try.underlying26 rfl sz26 rfl rfl rfl rfl) rfl rfl fun a hF => q_x (v := s2.v) hF hS (ex_move rfl) rfl rfl fun a hF => q_x (v := s3.v) hF hS (ex_move rfl) rfl rfl fun a hF => ?_)))))))
 obtain ⟨t_5, ht_5, hr⟩ := bindS hr
 refine q_call (vs := [(.agg #[s1.v]), s2.v, s3.v]) hF hS Try.func45 (by kernel_rfl) rfl rfl rfl (c_spec_nPlan p_g p_s p_l t_5 ht_5 _ m hS.vis s1 h1 s2 h2 s3 h3) ?_
 rintro a w _ rfl hF hS
 refine q_x (v := (.bool (!t_5))) hF hS (ex_not rfl) rfl rfl fun a hF => q_end (n_sq ?_)
 rcases bcase (!t_5) with hc1 | hc1
 ·have hr := cond_f hc1 hr
  refine q_cond_f hF rfl hc1 (q_skipc (n_sq (q_seq (q_region (q_x (v := nilS.v) hF hS (ex_assign rfl) rfl rfl fun a hF => q_end (n_sq (q_seq (q_seq (q_region (q_x (v := s3.v) hF hS (ex_move rfl) rfl rfl fun a hF => q_x (v := (.int .i64 (goLen p_l))) hF hS (ex_len Try.underlying37 rfl h3.len) rfl rfl fun a hF => q_x (v := (.int .i64 0)) hF hS (ex_move rfl) rfl rfl fun a hF => q_end (n_sq (q_block ?_))))))))))))
  obtain ⟨out_35, hl2, hr⟩ := bindS hr
  refine q_loop (fun (s : (List (List Int)) × Int) a w => ∃ (m9 : Mem), ∃ (q7 : Piece), ∃ (s7 : Sl), ∃ out_6, ∃ t_8, s = (out_6, t_8) ∧ Fr a 48 [(1, s2.v), (2, s3.v), (3, (.pointer (some ⟨b4, 0, none⟩))), (8, s7.v), (19, s3.v), (20, (.int .i64 (goLen p_l))), (21, (.int .i64 t_8))] ∧ St [] w0 w m9 [q7, [⟨b4, [s1.v], 26⟩]] ∧ MLe [] w0.heap.size m m9 ∧ OwnL m9 24 q7 s7 out_6) (fun (out_35 : (List (List Int))) e a w => ∃ (m37 : Mem), ∃ (q36 : Piece), ∃ (s36 : Sl), e = .exit 0 ∧ Fr a 48 [(8, s36.v)] ∧ St [] w0 w m37 [q36] ∧ MLe [] w0.heap.size m m37 ∧ OwnL m37 24 q36 s36 out_35) hl2 ⟨m, [], nilS, _, _, rfl, hF.sub ⟨rfl, rfl, rfl, rfl, rfl, rfl, rfl, trivial⟩, hS.sel [1, 0] (by decide), (MLe.refl _ _), (OwnL.nil (α := List Int) m 24)⟩ ?_ ?_
  ·clear hF hS
   rintro s a w st ⟨m9, q7, s7, out_6, t_8, rfl, hF, hS, hm9, h7⟩ hb2
   unfold spec_SourcesIn_l1 at hb2
   refine q_seq (q_region (q_x (v := (.bool (decide (t_8 < (goLen p_l))))) hF hS (ex_ibin rfl rfl rfl) rfl rfl fun a hF => q_end (n_sq (q_seq ?_))))
   rcases bcase (decide (t_8 < (goLen p_l))) with hc3 | hc3
   ·have hb2 := cond_f hc3 hb2
    refine q_cond_f hF rfl hc3 (q_exit (x_sq ?_))
    obtain rfl := someI hb2
    exact ⟨nofun, .inl ⟨m9, q7, s7, rfl, hF.sub ⟨rfl, trivial⟩, hS.mask [true, false], hm9, h7⟩⟩
   ·have hb2 := cond_t hc3 hb2
    refine q_cond_t hF rfl hc3 (q_skipc (n_sq (q_seq (q_block (q_seq (q_region ?_))))))
    obtain ⟨e_10, he_10, hb2⟩ := bindS hb2
    obtain ⟨vs11, at11, d11⟩ := (h3.mono hm9.le).at he_10 4 rfl
    obtain ⟨s12, s13, rfl, h12, h13⟩ : ∃ s12 s13 : Sl, vs11 = [(.int .i64 e_10.Level), s12.v, s13.v, (.int .i64 e_10.Sum)] ∧ Rd m9 s12 e_10.Vars ∧ Rd m9 s13 e_10.Where := d11
    refine q_x (v := (elP s3 (t_8.toNat * 4))) hF hS (ex_indexAddr Try.underlying37 sz29 rfl rfl ((h3.mono hm9.le).idx he_10)) rfl rfl fun a hF => q_x (v := (.agg #[(.int .i64 e_10.Level), s12.v, s13.v, (.int .i64 e_10.Sum)])) hF hS (ex_loadEA (us := [(.int .i64 e_10.Level), s12.v, s13.v, (.int .i64 e_10.Sum)]) 0 Try.underlying29 rfl sz29 rfl ((at11).at) rfl rfl rfl) rfl rfl fun a hF => q_alloc (cs := [(.int .i64 0), nilS.v, nilS.v, (.int .i64 0)]) hF hS rfl rfl rfl fun a w b14 hF hS => q_store (vs := [(.int .i64 e_10.Level), s12.v, s13.v, (.int .i64 e_10.Sum)]) (cs' := [(.int .i64 e_10.Level), s12.v, s13.v, (.int .i64 e_10.Sum)]) 0 0 hF hS sz29 rfl rfl rfl rfl rfl rfl rfl rfl fun a w hF hS => q_end (n_sq (q_seq (q_region (q_x (v := nilS.v) hF hS (ex_assign rfl) rfl rfl fun a hF => q_end (n_sq (q_seq (q_seq (q_region (q_x (v := s3.v) hF hS (ex_move rfl) rfl rfl fun a hF => q_x (v := (.int .i64 (goLen p_l))) hF hS (ex_len Try.underlying37 rfl (h3.mono hm9.le).len) rfl rfl fun a hF => q_x (v := (.int .i64 0)) hF hS (ex_move rfl) rfl rfl fun a hF => q_end (n_sq (q_block ?_)))))))))))
    obtain ⟨from_29, hl4, hb2⟩ := bindS hb2
    refine q_loop (fun (s : (List Int) × Int) a w => ∃ (q16 : Piece), ∃ (s16 : Sl), ∃ from_15, ∃ t_17, s = (from_15, t_17) ∧ Fr a 48 [(1, s2.v), (2, s3.v), (3, (.pointer (some ⟨b4, 0, none⟩))), (8, s7.v), (10, (.pointer (some ⟨b14, 0, none⟩))), (11, s16.v), (19, s3.v), (20, (.int .i64 (goLen p_l))), (21, (.int .i64 t_8)), (25, s3.v), (26, (.int .i64 (goLen p_l))), (27, (.int .i64 t_17))] ∧ St [] w0 w m9 [q16, [⟨b14, [(.int .i64 e_10.Level), s12.v, s13.v, (.int .i64 e_10.Sum)], 29⟩], q7, [⟨b4, [s1.v], 26⟩]] ∧ OwnL m9 3 q16 s16 from_15) (fun (from_29 : (List Int)) e a w => ∃ (q30 : Piece), ∃ (s30 : Sl), e = .exit 2 ∧ Fr a 48 [(1, s2.v), (2, s3.v), (3, (.pointer (some ⟨b4, 0, none⟩))), (8, s7.v), (11, s30.v), (19, s3.v), (20, (.int .i64 (goLen p_l))), (21, (.int .i64 t_8))] ∧ St [] w0 w m9 [q7, q30, [⟨b4, [s1.v], 26⟩]] ∧ OwnL m9 3 q30 s30 from_29) hl4 ⟨[], nilS, _, _, rfl, hF.sub ⟨rfl, rfl, rfl, rfl, rfl, rfl, rfl, rfl, rfl, rfl, rfl, rfl, trivial⟩, hS.sel [3, 0, 1, 2] (by decide), (OwnL.nil (α := Int) m9 3)⟩ ?_ ?_
    ·clear hF hS
     rintro s a w st ⟨q16, s16, from_15, t_17, rfl, hF, hS, h16⟩ hb4
     unfold spec_SourcesIn_l2 at hb4
     refine q_seq (q_region (q_x (v := (.bool (decide (t_17 < (goLen p_l))))) hF hS (ex_ibin rfl rfl rfl) rfl rfl fun a hF => q_end (n_sq (q_seq ?_))))
     rcases bcase (decide (t_17 < (goLen p_l))) with hc5 | hc5
     ·have hb4 := cond_f hc5 hb4
      refine q_cond_f hF rfl hc5 (q_exit (x_sq ?_))
      obtain rfl := someI hb4
      exact ⟨nofun, .inl ⟨q16, s16, rfl, hF.sub ⟨rfl, rfl, rfl, rfl, rfl, rfl, rfl, rfl, trivial⟩, hS.sel [2, 0, 3] (by decide), h16⟩⟩
     ·have hb4 := cond_t hc5 hb4
      refine q_cond_t hF rfl hc5 (q_skipc (n_sq (q_seq (q_block (q_seq (q_region (q_x (v := (.int .i64 t_17)) hF hS (ex_move rfl) rfl rfl fun a hF => ?_)))))))
      obtain ⟨e_18, he_18, hb4⟩ := bindS hb4
      obtain ⟨vs19, at19, d19⟩ := (h3.mono hm9.le).at he_18 4 rfl
      obtain ⟨s20, s21, rfl, h20, h21⟩ : ∃ s20 s21 : Sl, vs19 = [(.int .i64 e_18.Level), s20.v, s21.v, (.int .i64 e_18.Sum)] ∧ Rd m9 s20 e_18.Vars ∧ Rd m9 s21 e_18.Where := d19
      refine q_x (v := (elP s3 (t_17.toNat * 4))) hF hS (ex_indexAddr Try.underlying37 sz29 rfl rfl ((h3.mono hm9.le).idx he_18)) rfl rfl fun a hF => q_x (v := (.agg #[(.int .i64 e_18.Level), s20.v, s21.v, (.int .i64 e_18.Sum)])) hF hS (ex_loadEA (us := [(.int .i64 e_18.Level), s20.v, s21.v, (.int .i64 e_18.Sum)]) 0 Try.underlying29 rfl sz29 rfl ((at19).at) rfl rfl rfl) rfl rfl fun a hF => q_alloc (cs := [(.int .i64 0), nilS.v, nilS.v, (.int .i64 0)]) hF hS rfl rfl rfl fun a w b22 hF hS => q_x (v := (.int .i64 t_17)) hF hS (ex_assign rfl) rfl rfl fun a hF => q_store (vs := [(.int .i64 e_18.Level), s20.v, s21.v, (.int .i64 e_18.Sum)]) (cs' := [(.int .i64 e_18.Level), s20.v, s21.v, (.int .i64 e_18.Sum)]) 0 0 hF hS sz29 rfl rfl rfl rfl rfl rfl rfl rfl fun a w hF hS => q_end (n_sq (q_seq (q_region (q_x (v := (.agg #[s1.v])) hF hS (ex_loadA (vs := [s1.v]) 4 0 Try.underlying26 rfl sz26 rfl rfl rfl rfl) rfl rfl fun a hF => q_x (v := s2.v) hF hS (ex_move rfl) rfl rfl fun a hF => q_x (v := (.agg #[(.int .i64 e_10.Level), s12.v, s13.v, (.int .i64 e_10.Sum)])) hF hS (ex_loadA (vs := [(.int .i64 e_10.Level), s12.v, s13.v, (.int .i64 e_10.Sum)]) 2 0 Try.underlying29 rfl sz29 rfl rfl rfl rfl) rfl rfl fun a hF => q_x (v := (.agg #[(.int .i64 e_18.Level), s20.v, s21.v, (.int .i64 e_18.Sum)])) hF hS (ex_loadA (vs := [(.int .i64 e_18.Level), s20.v, s21.v, (.int .i64 e_18.Sum)]) 0 0 Try.underlying29 rfl sz29 rfl rfl rfl rfl) rfl rfl fun a hF => ?_))))
      obtain ⟨t_23, ht_23, hb4⟩ := bindS hb4
      refine q_call (vs := [(.agg #[s1.v]), s2.v, (.agg #[(.int .i64 e_10.Level), s12.v, s13.v, (.int .i64 e_10.Sum)]), (.agg #[(.int .i64 e_18.Level), s20.v, s21.v, (.int .i64 e_18.Sum)])]) hF hS Try.func37 (by kernel_rfl) rfl rfl rfl (c_spec_lFollows p_g p_s e_10 e_18 t_23 ht_23 _ m9 hS.vis s1 (h1.mono hm9.le) s2 (h2.mono hm9.le) s12 h12 s13 h13 s20 h20 s21 h21) ?_
      rintro a w _ rfl hF hS
      refine q_end (n_sq ?_)
      obtain ⟨from_27, hj6, hb4⟩ := bindS hb4
      refine q_join (fun a w => ∃ (q28 : Piece), ∃ (s28 : Sl), Fr a 48 [(1, s2.v), (2, s3.v), (3, (.pointer (some ⟨b4, 0, none⟩))), (8, s7.v), (10, (.pointer (some ⟨b14, 0, none⟩))), (11, s28.v), (19, s3.v), (20, (.int .i64 (goLen p_l))), (21, (.int .i64 t_8)), (25, s3.v), (26, (.int .i64 (goLen p_l))), (27, (.int .i64 t_17))] ∧ St [] w0 w m9 [q7, q28, [⟨b14, [(.int .i64 e_10.Level), s12.v, s13.v, (.int .i64 e_10.Sum)], 29⟩], [⟨b4, [s1.v], 26⟩]] ∧ OwnL m9 3 q28 s28 from_27) ?_ ?_
      ·rcases bcase (t_23) with hc7 | hc7
       ·have hj6 := cond_f hc7 hj6
        refine q_cond_f hF rfl hc7 (q_skipc (n_jn ?_))
        obtain rfl := someI hj6
        exact ⟨q16, s16, hF.sub ⟨rfl, rfl, rfl, rfl, rfl, rfl, rfl, rfl, rfl, rfl, rfl, rfl, trivial⟩, hS.sel [3, 1, 2, 4] (by decide), h16⟩
       ·have hj6 := cond_t hc7 hj6
        refine q_cond_t hF rfl hc7 (q_region (q_x (v := s16.v) hF hS (ex_move rfl) rfl rfl fun a hF => q_x (v := (.int .i64 t_17)) hF hS (ex_move rfl) rfl rfl fun a hF => q_do rfl fun _ hK => wp_buildSlice' (l := ([t_17] : List Int)) (cells := [(.int .i64 t_17)]) hF hS Try.underlying24 inf3 rfl rfl (by kernel_rfl) rfl rfl rfl ⟨rfl, rfl⟩ rfl rfl fun a w q24 s24 hF hS h24 _ => hK _ _ ?_))
        have hS : St _ _ _ _ [q16, q24, [⟨b22, [(.int .i64 e_18.Level), s20.v, s21.v, (.int .i64 e_18.Sum)], 29⟩], [⟨b14, [(.int .i64 e_10.Level), s12.v, s13.v, (.int .i64 e_10.Sum)], 29⟩], q7, [⟨b4, [s1.v], 26⟩]] := hS.sel [2, 0, 1, 3, 4, 5] (by decide)
        obtain ⟨l_25, hl_25, hj6⟩ := bindS hj6
        refine q_do rfl fun _ hK => wp_append hF hS h16 Try.underlying24 inf3 rfl rfl rfl rfl (h24.vw hS (j := 1) rfl) rfl (by decide) hl_25 rfl fun a w q26 s26 hF hS h26 => hK _ _ (q_x (v := s26.v) hF hS (ex_assign rfl) rfl rfl fun a hF => q_end (n_jn ?_))
        obtain rfl := someI hj6
        exact ⟨q26, s26, hF.sub ⟨rfl, rfl, rfl, rfl, rfl, rfl, rfl, rfl, rfl, rfl, rfl, rfl, trivial⟩, hS.sel [4, 0, 3, 5] (by decide), h26⟩
      ·rintro a w ⟨q28, s28, hF, hS, h28⟩
       refine n_ib (n_sq ?_)
       refine q_region (q_x (v := (.int .i64 (w64 (t_17 + 1)))) hF hS (ex_ibin rfl rfl rfl) rfl rfl fun a hF => q_x (v := (.int .i64 (w64 (t_17 + 1)))) hF hS (ex_move rfl) rfl rfl fun a hF => q_end ?_)
       obtain rfl := someI hb4
       exact ⟨rfl, q28, s28, _, _, rfl, hF.sub ⟨rfl, rfl, rfl, rfl, rfl, rfl, rfl, rfl, rfl, rfl, rfl, rfl, trivial⟩, hS.sel [1, 2, 0, 3] (by decide), h28⟩
    ·rintro e a w ⟨q30, s30, rfl, hF, hS, h30⟩
     refine x_ib (n_sq ?_)
     refine q_region (q_x (v := s7.v) hF hS (ex_move rfl) rfl rfl fun a hF => q_x (v := s30.v) hF hS (ex_move rfl) rfl rfl fun a hF => ?_)
     have hS : St _ _ _ _ [q30, q7, [⟨b4, [s1.v], 26⟩]] := hS.sel [1, 0, 2] (by decide)
     obtain ⟨m32, hm32, hS, hz32⟩ := hS.freeze
     have h32 := h30.froz hm32.le hz32
     refine q_do rfl fun _ hK => wp_buildSlice' (l := ([from_29] : List (List Int))) (cells := [s30.v]) hF hS Try.underlying46 inf24 rfl rfl (by kernel_rfl) rfl rfl rfl ⟨⟨s30, rfl, h32⟩, rfl⟩ rfl rfl fun a w q31 s31 hF hS h31 _ => hK _ _ ?_
     have hS : St _ _ _ _ [q7, q31, [⟨b4, [s1.v], 26⟩]] := hS.sel [1, 0, 2] (by decide)
     obtain ⟨l_33, hl_33, hb2⟩ := bindS hb2
     refine q_do rfl fun _ hK => wp_append hF hS (h7.mono hm32.le) Try.underlying46 inf24 rfl rfl rfl rfl (h31.vw hS (j := 1) rfl) rfl (by decide) hl_33 rfl fun a w q34 s34 hF hS h34 => hK _ _ (q_x (v := s34.v) hF hS (ex_assign rfl) rfl rfl fun a hF => q_end (n_ib (n_sq (q_region (q_x (v := (.int .i64 (w64 (t_8 + 1)))) hF hS (ex_ibin rfl rfl rfl) rfl rfl fun a hF => q_x (v := (.int .i64 (w64 (t_8 + 1)))) hF hS (ex_move rfl) rfl rfl fun a hF => q_end ?_)))))
     obtain rfl := someI hb2
     exact ⟨rfl, m32, q34, s34, _, _, rfl, hF.sub ⟨rfl, rfl, rfl, rfl, rfl, rfl, rfl, trivial⟩, hS.mask [true, false, true], (hm9.trans hm32), h34⟩
  ·rintro e a w ⟨m37, q36, s36, rfl, hF, hS, hm37, h36⟩
   refine x_ib (n_sq ?_)
   refine q_seq (q_region (q_x (v := s36.v) hF hS (ex_move rfl) rfl rfl fun a hF => q_x (v := s36.v) hF hS (ex_assign rfl) rfl rfl fun a hF => q_x (v := (.bool true)) hF hS (ex_assign rfl) rfl rfl fun a hF => q_end (n_sq (q_ret ?_))))
   obtain rfl := someI hr
   exact ret_of hF hS rfl (.tmp rfl (.tmp rfl .nil)) ⟨m37, q36, s36, rfl, hm37, hS.sel [0] (by decide), h36⟩
 ·have hr := cond_t hc1 hr
  refine q_cond_t hF rfl hc1 (q_seq (q_region (q_x (v := nilS.v) hF hS (ex_assign rfl) rfl rfl fun a hF => q_x (v := (.bool false)) hF hS (ex_assign rfl) rfl rfl fun a hF => q_end (n_sq (q_ret (r_sq ?_))))))
  obtain rfl := someI hr
  exact ret_of hF hS rfl (.tmp rfl (.tmp rfl .nil)) ⟨m, [], nilS, rfl, (MLe.refl _ _), hS.sel [1] (by decide), (OwnL.nil (α := List Int) m 24)⟩

theorem c_impl_PlanSizes (p_g : impl_Geo) (p_s : List impl_Variable) (p_l : List impl_Table) (r : (List Int) × Bool) (hr : impl_PlanSizes p_g p_s p_l = some r) (w0 : World) (m : Mem) (hv : Vis m w0) (s1 : Sl) (h1 : Rd m s1 p_g.Parents) (s2 : Sl) (h2 : Rd m s2 p_s) (s3 : Sl) (h3 : Rd m s3 p_l) :
  Ret Try.prog 20 [(.agg #[s1.v]), s2.v, s3.v] w0 (fun v w => ∃ (q0' : Piece) (s0' : Sl), v = (.tuple #[s0'.v, (.bool r.2)]) ∧ St [] w0 w m [q0'] ∧ OwnL m 3 q0' s0' r.1) := by
 unfold impl_PlanSizes at hr
 refine ret_start Try.func20 rfl 35 rfl rfl m hv fun a hF hS => q_seq (q_region (q_box (cs := [s1.v]) hF hS rfl rfl rfl fun a w b4 hF hS => q_x (v := nilS.v) hF hS (ex_assign rfl) rfl rfl fun a hF => q_x (v := (.bool false)) hF hS (ex_assign rfl) rfl rfl fun a hF => q_end (n_sq (q_seq (q_seq (q_region (q_x (v := (.agg #[s1.v])) hF hS (ex_loadA (vs := [s1.v]) 0 0 Try.underlying26 rfl sz26 rfl rfl rfl rfl) rfl rfl fun a hF => q_x (v := s2.v) hF hS (ex_move rfl) rfl rfl fun a hF => q_x (v := s3.v) hF hS (ex_move rfl) rfl rfl fun a hF => ?_)))))))
 obtain ⟨t_5, ht_5, hr⟩ := bindS hr
 refine q_call (vs := [(.agg #[s1.v]), s2.v, s3.v]) hF hS Try.func42 (by kernel_rfl) rfl rfl rfl (c_impl_isPlan p_g p_s p_l t_5 ht_5 _ m hS.vis s1 h1 s2 h2 s3 h3) ?_
 rintro a w _ rfl hF hS
 refine q_x (v := (.bool (!t_5))) hF hS (ex_not rfl) rfl rfl fun a hF => q_end (n_sq ?_)
 rcases bcase (!t_5) with hc1 | hc1
 ·have hr := cond_f hc1 hr
  refine q_cond_f hF rfl hc1 (q_skipc (n_sq (q_seq (q_region (q_x (v := s3.v) hF hS (ex_move rfl) rfl rfl fun a hF => q_x (v := (.int .i64 (goLen p_l))) hF hS (ex_len Try.underlying37 rfl h3.len) rfl rfl fun a hF => ?_)))))
  obtain ⟨l_6, hl_6, hr⟩ := bindS hr
  refine q_do rfl fun _ hK => wp_make (z := (0 : Int)) hF hS Try.underlying24 inf3 rfl rfl rfl rfl rfl (by decide) hl_6 rfl fun a w q7 s7 hF hS h7 _ => hK _ _ (q_x (v := s7.v) hF hS (ex_assign rfl) rfl rfl fun a hF => q_end (n_sq (q_seq (q_seq (q_region (q_x (v := s3.v) hF hS (ex_move rfl) rfl rfl fun a hF => q_x (v := (.int .i64 (goLen p_l))) hF hS (ex_len Try.underlying37 rfl h3.len) rfl rfl fun a hF => q_x (v := (.int .i64 0)) hF hS (ex_move rfl) rfl rfl fun a hF => q_end (n_sq (q_block ?_))))))))
  obtain ⟨sizes_20, hl2, hr⟩ := bindS hr
  refine q_loop (fun (s : (List Int) × Int) a w => ∃ (q9 : Piece), ∃ sizes_8, ∃ t_10, s = (sizes_8, t_10) ∧ Fr a 35 [(1, s2.v), (3, (.pointer (some ⟨b4, 0, none⟩))), (8, s7.v), (19, s3.v), (20, (.int .i64 (goLen p_l))), (21, (.int .i64 t_10))] ∧ St [] w0 w m [q9, [⟨b4, [s1.v], 26⟩]] ∧ OwnL m 3 q9 s7 sizes_8) (fun (sizes_20 : (List Int)) e a w => ∃ (q21 : Piece), e = .exit 0 ∧ Fr a 35 [(8, s7.v)] ∧ St [] w0 w m [q21] ∧ OwnL m 3 q21 s7 sizes_20) hl2 ⟨q7, _, _, rfl, hF.sub ⟨rfl, rfl, rfl, rfl, rfl, rfl, trivial⟩, hS, h7⟩ ?_ ?_
  ·clear hF hS
   rintro s a w st ⟨q9, sizes_8, t_10, rfl, hF, hS, h9⟩ hb2
   unfold impl_PlanSizes_l1 at hb2
   refine q_seq (q_region (q_x (v := (.bool (decide (t_10 < (goLen p_l))))) hF hS (ex_ibin rfl rfl rfl) rfl rfl fun a hF => q_end (n_sq (q_seq ?_))))
   rcases bcase (decide (t_10 < (goLen p_l))) with hc3 | hc3
   ·have hb2 := cond_f hc3 hb2
    refine q_cond_f hF rfl hc3 (q_exit (x_sq ?_))
    obtain rfl := someI hb2
    exact ⟨nofun, .inl ⟨q9, rfl, hF.sub ⟨rfl, trivial⟩, hS.mask [true, false], h9⟩⟩
   ·have hb2 := cond_t hc3 hb2
    refine q_cond_t hF rfl hc3 (q_skipc (n_sq (q_seq (q_block (q_seq (q_region (q_x (v := (.int .i64 t_10)) hF hS (ex_move rfl) rfl rfl fun a hF => ?_)))))))
    obtain ⟨e_11, he_11, hb2⟩ := bindS hb2
    obtain ⟨vs12, at12, d12⟩ := h3.at he_11 4 rfl
    obtain ⟨s13, s14, rfl, h13, h14⟩ : ∃ s13 s14 : Sl, vs12 = [(.int .i64 e_11.Level), s13.v, s14.v, (.int .i64 e_11.Sum)] ∧ Rd m s13 e_11.Vars ∧ Rd m s14 e_11.Where := d12
    refine q_x (v := (elP s3 (t_10.toNat * 4))) hF hS (ex_indexAddr Try.underlying37 sz29 rfl rfl (h3.idx he_11)) rfl rfl fun a hF => q_x (v := (.agg #[(.int .i64 e_11.Level), s13.v, s14.v, (.int .i64 e_11.Sum)])) hF hS (ex_loadEA (us := [(.int .i64 e_11.Level), s13.v, s14.v, (.int .i64 e_11.Sum)]) 0 Try.underlying29 rfl sz29 rfl ((at12).at) rfl rfl rfl) rfl rfl fun a hF => q_alloc (cs := [(.int .i64 0), nilS.v, nilS.v, (.int .i64 0)]) hF hS rfl rfl rfl fun a w b15 hF hS => q_x (v := (.int .i64 t_10)) hF hS (ex_assign rfl) rfl rfl fun a hF => q_store (vs := [(.int .i64 e_11.Level), s13.v, s14.v, (.int .i64 e_11.Sum)]) (cs' := [(.int .i64 e_11.Level), s13.v, s14.v, (.int .i64 e_11.Sum)]) 0 0 hF hS sz29 rfl rfl rfl rfl rfl rfl rfl rfl fun a w hF hS => q_end (n_sq (q_region (q_x (v := s7.v) hF hS (ex_move rfl) rfl rfl fun a hF => q_x (v := (.int .i64 t_10)) hF hS (ex_move rfl) rfl rfl fun a hF => q_x (v := (.agg #[s1.v])) hF hS (ex_loadA (vs := [s1.v]) 2 0 Try.underlying26 rfl sz26 rfl rfl rfl rfl) rfl rfl fun a hF => q_x (v := s2.v) hF hS (ex_move rfl) rfl rfl fun a hF => q_x (v := (.agg #[(.int .i64 e_11.Level), s13.v, s14.v, (.int .i64 e_11.Sum)])) hF hS (ex_loadA (vs := [(.int .i64 e_11.Level), s13.v, s14.v, (.int .i64 e_11.Sum)]) 0 0 Try.underlying29 rfl sz29 rfl rfl rfl rfl) rfl rfl fun a hF => ?_)))
    obtain ⟨t_16, ht_16, hb2⟩ := bindS hb2
    refine q_call (vs := [(.agg #[s1.v]), s2.v, (.agg #[(.int .i64 e_11.Level), s13.v, s14.v, (.int .i64 e_11.Sum)])]) hF hS Try.func46 (by kernel_rfl) rfl rfl rfl (c_impl_cellCount p_g p_s e_11 t_16 ht_16 _ m hS.vis s1 h1 s2 h2 s13 h13 s14 h14) ?_
    rintro a w _ rfl hF hS
    obtain ⟨e_17, he_17, hb2⟩ := bindS hb2
    obtain ⟨vs18, at18, d18⟩ := h9.at he_17 1 rfl
    obtain rfl : vs18 = [(.int .i64 e_17)] := d18
    refine q_x (v := (elP s7 (t_10.toNat * 1))) hF hS (ex_indexAddr Try.underlying24 sz3 rfl rfl (h9.idx he_17)) rfl rfl fun a hF => ?_
    have hS : St _ _ _ _ [q9, [⟨b15, [(.int .i64 e_11.Level), s13.v, s14.v, (.int .i64 e_11.Sum)], 29⟩], [⟨b4, [s1.v], 26⟩]] := hS.sel [1, 0, 2] (by decide)
    refine q_do rfl fun _ hK => wp_storeE (e' := t_16) (us := [(.int .i64 t_16)]) (vs := [(.int .i64 e_17)]) 0 hF hS h9 sz3 rfl rfl rfl rfl rfl rfl rfl he_17 at18 rfl rfl rfl fun w q19 hS h19 => hK _ _ (q_end (n_ib (n_sq (q_region (q_x (v := (.int .i64 (w64 (t_10 + 1)))) hF hS (ex_ibin rfl rfl rfl) rfl rfl fun a hF => q_x (v := (.int .i64 (w64 (t_10 + 1)))) hF hS (ex_move rfl) rfl rfl fun a hF => q_end ?_)))))
    obtain rfl := someI hb2
    exact ⟨rfl, q19, _, _, rfl, hF.sub ⟨rfl, rfl, rfl, rfl, rfl, rfl, trivial⟩, hS.mask [true, false, true], h19⟩
  ·rintro e a w ⟨q21, rfl, hF, hS, h21⟩
   refine x_ib (n_sq ?_)
   refine q_seq (q_region (q_x (v := s7.v) hF hS (ex_move rfl) rfl rfl fun a hF => q_x (v := s7.v) hF hS (ex_assign rfl) rfl rfl fun a hF => q_x (v := (.bool true)) hF hS (ex_assign rfl) rfl rfl fun a hF => q_end (n_sq (q_ret ?_))))
   obtain rfl := someI hr
   exact ret_of hF hS rfl (.tmp rfl (.tmp rfl .nil)) ⟨q21, s7, rfl, hS.sel [0] (by decide), h21⟩
 ·have hr := cond_t hc1 hr
  refine q_cond_t hF rfl hc1 (q_seq (q_region (q_x (v := nilS.v) hF hS (ex_assign rfl) rfl rfl fun a hF => q_x (v := (.bool false)) hF hS (ex_assign rfl) rfl rfl fun a hF => q_end (n_sq (q_ret (r_sq ?_))))))
  obtain rfl := someI hr
  exact ret_of hF hS rfl (.tmp rfl (.tmp rfl .nil)) ⟨[], nilS, rfl, hS.sel [1] (by decide), (OwnL.nil (α := Int) m 3)⟩

theorem c_spec_PlanSizes (p_g : impl_Geo) (p_s : List impl_Variable) (p_l : List impl_Table) (r : (List Int) × Bool) (hr : spec_PlanSizes p_g p_s p_l = some r) (w0 : World) (m : Mem) (hv : Vis m w0) (s1 : Sl) (h1 : Rd m s1 p_g.Parents) (s2 : Sl) (h2 : Rd m s2 p_s) (s3 : Sl) (h3 : Rd m s3 p_l) :
  Ret Try.prog 21 [(.agg #[s1.v]), s2.v, s3.v] w0 (fun v w => ∃ (q0' : Piece) (s0' : Sl), v = (.tuple #[s0'.v, (.bool r.2)]) ∧ St [] w0 w m [q0'] ∧ OwnL m 3 q0' s0' r.1) := by
 unfold spec_PlanSizes at hr
 refine ret_start Try.func21 rfl 31 rfl rfl m hv fun a hF hS => q_seq (q_region (q_box (cs := [s1.v]) hF hS rfl rfl rfl fun a w b4 hF hS => q_x (v := nilS.v) hF hS (ex_assign rfl) rfl rfl fun a hF => q_x (v := (.bool false)) hF hS (ex_assign rfl) rfl rfl fun a hF => q_end (n_sq (q_seq (q_seq (q_region (q_x (v := (.agg #[s1.v])) hF hS (ex_loadA (vs := [s1.v]) 0 0 Try.underlying26 rfl sz26 rfl rfl rfl rfl) rfl rfl fun a hF => q_x (v := s2.v) hF hS (ex_move rfl) rfl rfl fun a hF => q_x (v := s3.v) hF hS (ex_move rfl) rfl rfl fun a hF => ?_)))))))
 obtain ⟨t_5, ht_5, hr⟩ := bindS hr
 refine q_call (vs := [(.agg #[s1.v]), s2.v, s3.v]) hF hS Try.func45 (by kernel_rfl) rfl rfl rfl (c_spec_nPlan p_g p_s p_l t_5 ht_5 _ m hS.vis s1 h1 s2 h2 s3 h3) ?_
 rintro a w _ rfl hF hS
 refine q_x (v := (.bool (!t_5))) hF hS (ex_not rfl) rfl rfl fun a hF => q_end (n_sq ?_)
 rcases bcase (!t_5) with hc1 | hc1
 ·have hr := cond_f hc1 hr
  refine q_cond_f hF rfl hc1 (q_skipc (n_sq (q_seq (q_region (q_x (v := nilS.v) hF hS (ex_assign rfl) rfl rfl fun a hF => q_end (n_sq (q_seq (q_seq (q_region (q_x (v := s3.v) hF hS (ex_move rfl) rfl rfl fun a hF => q_x (v := (.int .i64 (goLen p_l))) hF hS (ex_len Try.underlying37 rfl h3.len) rfl rfl fun a hF => q_x (v := (.int .i64 0)) hF hS (ex_move rfl) rfl rfl fun a hF => q_end (n_sq (q_block ?_))))))))))))
  obtain ⟨out_18, hl2, hr⟩ := bindS hr
  refine q_loop (fun (s : (List Int) × Int) a w => ∃ (q7 : Piece), ∃ (s7 : Sl), ∃ out_6, ∃ t_8, s = (out_6, t_8) ∧ Fr a 31 [(1, s2.v), (3, (.pointer (some ⟨b4, 0, none⟩))), (8, s7.v), (16, s3.v), (17, (.int .i64 (goLen p_l))), (18, (.int .i64 t_8))] ∧ St [] w0 w m [q7, [⟨b4, [s1.v], 26⟩]] ∧ OwnL m 3 q7 s7 out_6) (fun (out_18 : (List Int)) e a w => ∃ (q19 : Piece), ∃ (s19 : Sl), e = .exit 0 ∧ Fr a 31 [(8, s19.v)] ∧ St [] w0 w m [q19] ∧ OwnL m 3 q19 s19 out_18) hl2 ⟨[], nilS, _, _, rfl, hF.sub ⟨rfl, rfl, rfl, rfl, rfl, rfl, trivial⟩, hS.sel [1, 0] (by decide), (OwnL.nil (α := Int) m 3)⟩ ?_ ?_
  ·clear hF hS
   rintro s a w st ⟨q7, s7, out_6, t_8, rfl, hF, hS, h7⟩ hb2
   unfold spec_PlanSizes_l1 at hb2
   refine q_seq (q_region (q_x (v := (.bool (decide (t_8 < (goLen p_l))))) hF hS (ex_ibin rfl rfl rfl) rfl rfl fun a hF => q_end (n_sq (q_seq ?_))))
   rcases bcase (decide (t_8 < (goLen p_l))) with hc3 | hc3
   ·have hb2 := cond_f hc3 hb2
    refine q_cond_f hF rfl hc3 (q_exit (x_sq ?_))
    obtain rfl := someI hb2
    exact ⟨nofun, .inl ⟨q7, s7, rfl, hF.sub ⟨rfl, trivial⟩, hS.mask [true, false], h7⟩⟩
   ·have hb2 := cond_t hc3 hb2
    refine q_cond_t hF rfl hc3 (q_skipc (n_sq (q_seq (q_block (q_seq (q_region ?_))))))
    obtain ⟨e_9, he_9, hb2⟩ := bindS hb2
    obtain ⟨vs10, at10, d10⟩ := h3.at he_9 4 rfl
    obtain ⟨s11, s12, rfl, h11, h12⟩ : ∃ s11 s12 : Sl, vs10 = [(.int .i64 e_9.Level), s11.v, s12.v, (.int .i64 e_9.Sum)] ∧ Rd m s11 e_9.Vars ∧ Rd m s12 e_9.Where := d10
    refine q_x (v := (elP s3 (t_8.toNat * 4))) hF hS (ex_indexAddr Try.underlying37 sz29 rfl rfl (h3.idx he_9)) rfl rfl fun a hF => q_x (v := (.agg #[(.int .i64 e_9.Level), s11.v, s12.v, (.int .i64 e_9.Sum)])) hF hS (ex_loadEA (us := [(.int .i64 e_9.Level), s11.v, s12.v, (.int .i64 e_9.Sum)]) 0 Try.underlying29 rfl sz29 rfl ((at10).at) rfl rfl rfl) rfl rfl fun a hF => q_alloc (cs := [(.int .i64 0), nilS.v, nilS.v, (.int .i64 0)]) hF hS rfl rfl rfl fun a w b13 hF hS => q_store (vs := [(.int .i64 e_9.Level), s11.v, s12.v, (.int .i64 e_9.Sum)]) (cs' := [(.int .i64 e_9.Level), s11.v, s12.v, (.int .i64 e_9.Sum)]) 0 0 hF hS sz29 rfl rfl rfl rfl rfl rfl rfl rfl fun a w hF hS => q_end (n_sq (q_region (q_x (v := s7.v) hF hS (ex_move rfl) rfl rfl fun a hF => q_x (v := (.agg #[s1.v])) hF hS (ex_loadA (vs := [s1.v]) 2 0 Try.underlying26 rfl sz26 rfl rfl rfl rfl) rfl rfl fun a hF => q_x (v := s2.v) hF hS (ex_move rfl) rfl rfl fun a hF => q_x (v := (.agg #[(.int .i64 e_9.Level), s11.v, s12.v, (.int .i64 e_9.Sum)])) hF hS (ex_loadA (vs := [(.int .i64 e_9.Level), s11.v, s12.v, (.int .i64 e_9.Sum)]) 0 0 Try.underlying29 rfl sz29 rfl rfl rfl rfl) rfl rfl fun a hF => ?_)))
    obtain ⟨t_14, ht_14, hb2⟩ := bindS hb2
    refine q_call (vs := [(.agg #[s1.v]), s2.v, (.agg #[(.int .i64 e_9.Level), s11.v, s12.v, (.int .i64 e_9.Sum)])]) hF hS Try.func47 (by kernel_rfl) rfl rfl rfl (c_spec_uCount p_g p_s e_9 t_14 ht_14 _ m hS.vis s1 h1 s2 h2 s11 h11 s12 h12) ?_
    rintro a w _ rfl hF hS
    refine q_do rfl fun _ hK => wp_buildSlice' (l := ([t_14] : List Int)) (cells := [(.int .i64 t_14)]) hF hS Try.underlying24 inf3 rfl rfl (by kernel_rfl) rfl rfl rfl ⟨rfl, rfl⟩ rfl rfl fun a w q15 s15 hF hS h15 _ => hK _ _ ?_
    have hS : St _ _ _ _ [q7, q15, [⟨b13, [(.int .i64 e_9.Level), s11.v, s12.v, (.int .i64 e_9.Sum)], 29⟩], [⟨b4, [s1.v], 26⟩]] := hS.sel [2, 0, 1, 3] (by decide)
    obtain ⟨l_16, hl_16, hb2⟩ := bindS hb2
    refine q_do rfl fun _ hK => wp_append hF hS h7 Try.underlying24 inf3 rfl rfl rfl rfl (h15.vw hS (j := 1) rfl) rfl (by decide) hl_16 rfl fun a w q17 s17 hF hS h17 => hK _ _ (q_x (v := s17.v) hF hS (ex_assign rfl) rfl rfl fun a hF => q_end (n_ib (n_sq (q_region (q_x (v := (.int .i64 (w64 (t_8 + 1)))) hF hS (ex_ibin rfl rfl rfl) rfl rfl fun a hF => q_x (v := (.int .i64 (w64 (t_8 + 1)))) hF hS (ex_move rfl) rfl rfl fun a hF => q_end ?_)))))
    obtain rfl := someI hb2
    exact ⟨rfl, q17, s17, _, _, rfl, hF.sub ⟨rfl, rfl, rfl, rfl, rfl, rfl, trivial⟩, hS.mask [true, false, false, true], h17⟩
  ·rintro e a w ⟨q19, s19, rfl, hF, hS, h19⟩
   refine x_ib (n_sq ?_)
   refine q_seq (q_region (q_x (v := s19.v) hF hS (ex_move rfl) rfl rfl fun a hF => q_x (v := s19.v) hF hS (ex_assign rfl) rfl rfl fun a hF => q_x (v := (.bool true)) hF hS (ex_assign rfl) rfl rfl fun a hF => q_end (n_sq (q_ret ?_))))
   obtain rfl := someI hr
   exact ret_of hF hS rfl (.tmp rfl (.tmp rfl .nil)) ⟨q19, s19, rfl, hS.sel [0] (by decide), h19⟩
 ·have hr := cond_t hc1 hr
  refine q_cond_t hF rfl hc1 (q_seq (q_region (q_x (v := nilS.v) hF hS (ex_assign rfl) rfl rfl fun a hF => q_x (v := (.bool false)) hF hS (ex_assign rfl) rfl rfl fun a hF => q_end (n_sq (q_ret (r_sq ?_))))))
  obtain rfl := someI hr
  exact ret_of hF hS rfl (.tmp rfl (.tmp rfl .nil)) ⟨[], nilS, rfl, hS.sel [1] (by decide), (OwnL.nil (α := Int) m 3)⟩

theorem c_laws_sameLists (p_a : List (List Int)) (p_b : List (List Int)) (r : Bool) (hr : laws_sameLists p_a p_b = some r) (w0 : World) (m : Mem) (hv : Vis m w0) (s1 : Sl) (h1 : Rd m s1 p_a) (s2 : Sl) (h2 : Rd m s2 p_b) :
  Ret Try.prog 22 [s1.v, s2.v] w0 (fun v _ => v = (.bool r)) := by
 unfold laws_sameLists at hr
 refine ret_start Try.func22 rfl 27 rfl rfl m hv fun a hF hS => q_seq (q_region (q_x (v := (.bool false)) hF hS (ex_assign rfl) rfl rfl fun a hF => q_end (n_sq (q_seq (q_seq (q_region (q_x (v := s1.v) hF hS (ex_move rfl) rfl rfl fun a hF => q_x (v := (.int .i64 (goLen p_a))) hF hS (ex_len Try.underlying46 rfl h1.len) rfl rfl fun a hF => q_x (v := s2.v) hF hS (ex_move rfl) rfl rfl fun a hF => q_x (v := (.int .i64 (goLen p_b))) hF hS (ex_len Try.underlying46 rfl h2.len) rfl rfl fun a hF => q_x (v := (.bool ((goLen p_a) != (goLen p_b)))) hF hS (ex_ibin rfl rfl rfl) rfl rfl fun a hF => q_end (n_sq ?_))))))))
 rcases bcase ((goLen p_a) != (goLen p_b)) with hc1 | hc1
 ·have hr := cond_f hc1 hr
  refine q_cond_f hF rfl hc1 (q_skipc (n_sq (q_seq (q_seq (q_region (q_x (v := s1.v) hF hS (ex_move rfl) rfl rfl fun a hF => q_x (v := (.int .i64 (goLen p_a))) hF hS (ex_len Try.underlying46 rfl h1.len) rfl rfl fun a hF => q_x (v := (.int .i64 0)) hF hS (ex_move rfl) rfl rfl fun a hF => q_end (n_sq (q_block ?_))))))))
  obtain ⟨o2, hl2, hr⟩ := bindS hr
  refine q_loop (fun (t_3 : Int) a w => Fr a 27 [(0, s1.v), (1, s2.v), (12, (.int .i64 (goLen p_a))), (13, (.int .i64 t_3))] ∧ St [] w0 w m []) (fun (o : (Unit) ⊕ (Bool)) e a w => o = .inl () ∧ e = .exit 0 ∧ Fr a 27 [] ∧ St [] w0 w m []) hl2 ⟨hF.sub ⟨rfl, rfl, rfl, rfl, trivial⟩, hS⟩ ?_ ?_
  ·clear hF hS
   rintro t_3 a w st ⟨hF, hS⟩ hb2
   unfold laws_sameLists_l1 at hb2
   refine q_seq (q_region (q_x (v := (.bool (decide (t_3 < (goLen p_a))))) hF hS (ex_ibin rfl rfl rfl) rfl rfl fun a hF => q_end (n_sq (q_seq ?_))))
   rcases bcase (decide (t_3 < (goLen p_a))) with hc3 | hc3
   ·have hb2 := cond_f hc3 hb2
    refine q_cond_f hF rfl hc3 (q_exit (x_sq ?_))
    obtain rfl := someI hb2
    exact ⟨nofun, .inl ⟨rfl, rfl, hF.sub trivial, hS⟩⟩
   ·have hb2 := cond_t hc3 hb2
    refine q_cond_t hF rfl hc3 (q_skipc (n_sq (q_seq (q_block (q_seq (q_region (q_x (v := (.int .i64 t_3)) hF hS (ex_move rfl) rfl rfl fun a hF => q_x (v := (.int .i64 t_3)) hF hS (ex_assign rfl) rfl rfl fun a hF => q_end (n_sq (q_seq (e_region ⟨[], []⟩ mixed fun w' hw' => ?_))))))))))
    have hS := hS.below hw'
    refine e_p (v := s1.v) 0 hF rfl (ex_move rfl) rfl rfl (by kernel_rfl) (by kernel_rfl) (by kernel_rfl) fun a hF => e_p (v := (.int .i64 t_3)) 1 hF rfl (ex_move rfl) rfl rfl (by kernel_rfl) (by kernel_rfl) (by kernel_rfl) fun a hF => ?_
    obtain ⟨e_4, he_4, hb2⟩ := bindS hb2
    obtain ⟨vs5, at5, d5⟩ := h1.at he_4 1 rfl
    obtain ⟨s6, rfl, h6⟩ : ∃ s6 : Sl, vs5 = [s6.v] ∧ Rd m s6 e_4 := d5
    refine e_p (v := (elP s1 (t_3.toNat * 1))) 2 hF rfl (ex_indexAddr Try.underlying46 sz24 rfl rfl (h1.idx he_4)) rfl rfl (by kernel_rfl) (by kernel_rfl) (by kernel_rfl) fun a hF => e_x (v := s6.v) 3 hF hS rfl (ex_loadE1 0 Try.underlying24 rfl rfl ((at5).at) rfl rfl) rfl rfl (by kernel_rfl) (by kernel_rfl) (by kernel_rfl) (by kernel_rfl) fun a hF => e_p (v := s2.v) 4 hF rfl (ex_move rfl) rfl rfl (by kernel_rfl) (by kernel_rfl) (by kernel_rfl) fun a hF => e_p (v := (.int .i64 t_3)) 5 hF rfl (ex_move rfl) rfl rfl (by kernel_rfl) (by kernel_rfl) (by kernel_rfl) fun a hF => ?_
    obtain ⟨e_7, he_7, hb2⟩ := bindS hb2
    obtain ⟨vs8, at8, d8⟩ := h2.at he_7 1 rfl
    obtain ⟨s9, rfl, h9⟩ : ∃ s9 : Sl, vs8 = [s9.v] ∧ Rd m s9 e_7 := d8
    refine e_p (v := (elP s2 (t_3.toNat * 1))) 6 hF rfl (ex_indexAddr Try.underlying46 sz24 rfl rfl (h2.idx he_7)) rfl rfl (by kernel_rfl) (by kernel_rfl) (by kernel_rfl) fun a hF => e_x (v := s9.v) 7 hF hS rfl (ex_loadE1 0 Try.underlying24 rfl rfl ((at8).at) rfl rfl) rfl rfl (by kernel_rfl) (by kernel_rfl) (by kernel_rfl) (by kernel_rfl) fun a hF => e_one 8 (by kernel_rfl) ?_
    obtain ⟨t_10, ht_10, hb2⟩ := bindS hb2
    refine e_call (vs := [s6.v, s9.v]) hF hS rfl Try.func17 (by kernel_rfl) rfl rfl rfl (c_laws_sameInts e_4 e_7 t_10 ht_10 _ m hS.vis s6 h6 s9 h9) ?_
    rintro a w _ rfl hF hS
    refine e_p (v := (.bool (!t_10))) 9 hF rfl (ex_not rfl) rfl rfl (by kernel_rfl) (by kernel_rfl) (by kernel_rfl) fun a hF => e_end (by kernel_rfl) (n_sq ?_) _
    rcases bcase (!t_10) with hc4 | hc4
    ·have hb2 := cond_f hc4 hb2
     refine q_cond_f hF rfl hc4 (q_skipc (n_ib (n_sq (q_region (q_x (v := (.int .i64 (w64 (t_3 + 1)))) hF hS (ex_ibin rfl rfl rfl) rfl rfl fun a hF => q_x (v := (.int .i64 (w64 (t_3 + 1)))) hF hS (ex_move rfl) rfl rfl fun a hF => q_end ?_)))))
     obtain rfl := someI hb2
     exact ⟨rfl, hF.sub ⟨rfl, rfl, rfl, rfl, trivial⟩, hS⟩
    ·have hb2 := cond_t hc4 hb2
     refine q_cond_t hF rfl hc4 (q_seq (q_region (q_x (v := (.bool false)) hF hS (ex_assign rfl) rfl rfl fun a hF => q_end (n_sq (q_ret (r_ib (r_sq ?_)))))))
     obtain rfl := someI hb2
     refine ⟨nofun, .inr fun ho => ?_⟩
     subst ho
     refine r_ib (r_sq ?_)
     obtain rfl := someI hr
     exact ret_of hF hS rfl (.tmp rfl .nil) rfl
  ·rintro e a w ⟨rfl, rfl, hF, hS⟩
   refine x_ib (n_sq ?_)
   refine q_seq (q_region (q_x (v := (.bool true)) hF hS (ex_assign rfl) rfl rfl fun a hF => q_end (n_sq (q_ret ?_))))
   obtain rfl := someI hr
   exact ret_of hF hS rfl (.tmp rfl .nil) rfl
 ·have hr := cond_t hc1 hr
  refine q_cond_t hF rfl hc1 (q_seq (q_region (q_x (v := (.bool false)) hF hS (ex_assign rfl) rfl rfl fun a hF => q_end (n_sq (q_ret (r_sq ?_))))))
  obtain rfl := someI hr
  exact ret_of hF hS rfl (.tmp rfl .nil) rfl

theorem c_slices_Clone_int_int (p_s : List Int) (r : (List Int)) (hr : slices_Clone_int_int p_s = some r) (w0 : World) (m : Mem) (hv : Vis m w0) (s1 : Sl) (h1 : Rd m s1 p_s) :
  Ret Try.prog 49 [s1.v] w0 (fun v w => ∃ (q0' : Piece) (s0' : Sl), v = s0'.v ∧ St [] w0 w m [q0'] ∧ OwnL m 3 q0' s0' r) := by
 unfold slices_Clone_int_int at hr
 refine ret_start Try.func49 rfl 8 rfl rfl m hv fun a hF hS => q_seq (q_region (q_x (v := nilS.v) hF hS (ex_assign rfl) rfl rfl fun a hF => q_end (n_sq (q_seq (q_seq (q_region (q_x (v := s1.v) hF hS (ex_move rfl) rfl rfl fun a hF => q_x (v := (.bool s1.p.isNone)) hF hS (ex_eqNil Try.underlying24 rfl rfl) rfl rfl fun a hF => q_end (n_sq ?_))))))))
 rcases bcase (s1.p.isNone) with hc1 | hc1
 ·refine q_cond_f hF rfl hc1 (q_skipc (n_sq (q_seq (q_region (q_do rfl fun _ hK => wp_build0 (α := Int) hF hS Try.underlying24 inf3 rfl fun a w q2 s2 hF hS h2 _ => hK _ _ (q_x (v := s1.v) hF hS (ex_move rfl) rfl rfl fun a hF => ?_))))))
  obtain ⟨l_3, hl_3, hr⟩ := bindS hr
  refine q_do rfl fun _ hK => wp_append hF hS h2 Try.underlying24 inf3 rfl rfl rfl rfl (h1.vw hS.vis) rfl (by decide) hl_3 rfl fun a w q4 s4 hF hS h4 => hK _ _ (q_x (v := s4.v) hF hS (ex_assign rfl) rfl rfl fun a hF => q_end (n_sq (q_ret ?_)))
  obtain rfl := someI hr
  exact ret_of hF hS rfl (.tmp rfl .nil) ⟨q4, s4, rfl, hS.sel [0] (by decide), h4⟩
 ·have hnhc1 := h1.nilE hc1
  have hr : (some ([] : List Int)) = some r := by rw [hnhc1] at hr; exact hr
  refine q_cond_t hF rfl hc1 (q_seq (q_region (q_x (v := nilS.v) hF hS (ex_assign rfl) rfl rfl fun a hF => q_end (n_sq (q_ret (r_sq ?_))))))
  obtain rfl := someI hr
  exact ret_of hF hS rfl (.tmp rfl .nil) ⟨[], nilS, rfl, hS.sel [0] (by decide), (OwnL.nil (α := Int) m 3)⟩

instance : Rep NL where
  wd := 1
  rd m cs x := ∃ s : Sl, cs = [s.v] ∧ Rd m s x.l ∧ NF s x.l
  mono hm h := by
    obtain ⟨s, h1, h2, h3⟩ := h
    exact ⟨s, h1, h2.mono hm, h3⟩
  len h := by obtain ⟨s, rfl, _⟩ := h; rfl
  one h := by obtain ⟨s, rfl, _⟩ := h; rfl

theorem NF.app1 {α : Type} {s : Sl} {b : Nat} {x l t : List α} {a : α} (h : goApp b (a :: x) l = some t) : NF s t := fun hl => by
  unfold goApp at h
  cases hc : decide (((a :: x).length + l.length) * b ≤ 140737488355328) with
  | false => rw [hc] at h; cases h
  | true =>
    rw [hc] at h
    obtain rfl := Option.some.inj h
    cases l <;> simp at hl

/-- the closure that holds itself -/
abbrev chV (b1 b2 b3 b4 b5 : Nat) : Value := .func (.func 48) #[] #[.pointer (some ⟨b1, 0, none⟩), .pointer (some ⟨b2, 0, none⟩), .pointer (some ⟨b3, 0, none⟩), .pointer (some ⟨b4, 0, none⟩), .pointer (some ⟨b5, 0, none⟩)]

theorem sz73 : szOf Try.prog 73 = some 1 := by kernel_rfl

theorem cB_impl_LongestChain_1 (rcf : Int → List NL → List impl_Table → impl_Geo → List impl_Variable → Int → Option ((List Int) × (List NL))) (ih : ∀ (p_i : Int) (p_x1 : List NL) (p_x2 : List impl_Table) (p_x3 : impl_Geo) (p_x4 : List impl_Variable) (p_x5 : Int) (r : (List Int) × (List NL)) (hr : rcf p_i p_x1 p_x2 p_x3 p_x4 p_x5 = some r) (w0 : World) (m : Mem) (b_p_x1 : Nat) (b_p_x2 : Nat) (b_p_x3 : Nat) (b_p_x4 : Nat) (b_p_x5 : Nat) (s1 : Sl) (q1 : Piece) (h1 : OwnL m 24 q1 s1 p_x1) (s2 : Sl) (h2 : Rd m s2 p_x2) (s3 : Sl) (h3 : Rd m s3 p_x3.Parents) (s4 : Sl) (h4 : Rd m s4 p_x4) (X : List Nat) (hS : St X w0 w0 m [[⟨b_p_x1, [s1.v], 46⟩], q1, [⟨b_p_x2, [s2.v], 37⟩], [⟨b_p_x3, [s3.v], 26⟩], [⟨b_p_x4, [s4.v], 27⟩], [⟨b_p_x5, [chV b_p_x1 b_p_x2 b_p_x3 b_p_x4 b_p_x5], 73⟩]]),
    RetX Try.prog 48 [(.int .i64 p_i), (.pointer (some ⟨b_p_x1, 0, none⟩)), (.pointer (some ⟨b_p_x2, 0, none⟩)), (.pointer (some ⟨b_p_x3, 0, none⟩)), (.pointer (some ⟨b_p_x4, 0, none⟩)), (.pointer (some ⟨b_p_x5, 0, none⟩))] w0 (fun v w => ∃ (m' : Mem) (q1' : Piece) (s0' : Sl) (s1' : Sl), v = s0'.v ∧ MLe X w0.heap.size m m' ∧ St X w0 w m' [[⟨b_p_x1, [s1'.v], 46⟩], [⟨b_p_x2, [s2.v], 37⟩], [⟨b_p_x3, [s3.v], 26⟩], [⟨b_p_x4, [s4.v], 27⟩], [⟨b_p_x5, [chV b_p_x1 b_p_x2 b_p_x3 b_p_x4 b_p_x5], 73⟩], q1'] ∧ Rd m' s0' r.1 ∧ NF s0' r.1 ∧ OwnL m' 24 q1' s1' r.2)) :
    ∀ (p_i : Int) (p_x1 : List NL) (p_x2 : List impl_Table) (p_x3 : impl_Geo) (p_x4 : List impl_Variable) (p_x5 : Int) (r : (List Int) × (List NL)) (hr : impl_LongestChain_1_B rcf p_i p_x1 p_x2 p_x3 p_x4 p_x5 = some r) (w0 : World) (m : Mem) (b_p_x1 : Nat) (b_p_x2 : Nat) (b_p_x3 : Nat) (b_p_x4 : Nat) (b_p_x5 : Nat) (s1 : Sl) (q1 : Piece) (h1 : OwnL m 24 q1 s1 p_x1) (s2 : Sl) (h2 : Rd m s2 p_x2) (s3 : Sl) (h3 : Rd m s3 p_x3.Parents) (s4 : Sl) (h4 : Rd m s4 p_x4) (X : List Nat) (hS : St X w0 w0 m [[⟨b_p_x1, [s1.v], 46⟩], q1, [⟨b_p_x2, [s2.v], 37⟩], [⟨b_p_x3, [s3.v], 26⟩], [⟨b_p_x4, [s4.v], 27⟩], [⟨b_p_x5, [chV b_p_x1 b_p_x2 b_p_x3 b_p_x4 b_p_x5], 73⟩]]),
    RetX Try.prog 48 [(.int .i64 p_i), (.pointer (some ⟨b_p_x1, 0, none⟩)), (.pointer (some ⟨b_p_x2, 0, none⟩)), (.pointer (some ⟨b_p_x3, 0, none⟩)), (.pointer (some ⟨b_p_x4, 0, none⟩)), (.pointer (some ⟨b_p_x5, 0, none⟩))] w0 (fun v w => ∃ (m' : Mem) (q1' : Piece) (s0' : Sl) (s1' : Sl), v = s0'.v ∧ MLe X w0.heap.size m m' ∧ St X w0 w m' [[⟨b_p_x1, [s1'.v], 46⟩], [⟨b_p_x2, [s2.v], 37⟩], [⟨b_p_x3, [s3.v], 26⟩], [⟨b_p_x4, [s4.v], 27⟩], [⟨b_p_x5, [chV b_p_x1 b_p_x2 b_p_x3 b_p_x4 b_p_x5], 73⟩], q1'] ∧ Rd m' s0' r.1 ∧ NF s0' r.1 ∧ OwnL m' 24 q1' s1' r.2) := by
 intro p_i p_x1 p_x2 p_x3 p_x4 p_x5 r hr w0 m b_p_x1 b_p_x2 b_p_x3 b_p_x4 b_p_x5 s1 q1 h1 s2 h2 s3 h3 s4 h4 X hS

 unfold impl_LongestChain_1_B at hr
 refine ret_startX Try.func48 rfl 64 rfl rfl fun a hF => q_seq (q_region (q_x (v := nilS.v) hF hS (ex_assign rfl) rfl rfl fun a hF => q_end (n_sq (q_seq (q_seq (q_region (q_x (v := s1.v) hF hS (ex_load1 0 0 Try.underlying46 rfl rfl rfl rfl) rfl rfl fun a hF => q_x (v := (.int .i64 p_i)) hF hS (ex_move rfl) rfl rfl fun a hF => ?_)))))))
 obtain ⟨e_5, he_5, hr⟩ := bindS hr
 obtain ⟨vs6, at6, d6⟩ := h1.at he_5 1 rfl
 obtain ⟨s7, rfl, h7, h7n⟩ : ∃ s7 : Sl, vs6 = [s7.v] ∧ Rd m s7 e_5.l ∧ NF s7 e_5.l := d6
 refine q_x (v := (elP s1 (p_i.toNat * 1))) hF hS (ex_indexAddr Try.underlying46 sz24 rfl rfl (h1.idx he_5)) rfl rfl fun a hF => q_x (v := s7.v) hF hS (ex_loadE1 0 Try.underlying24 rfl rfl (at6.at 1 rfl) rfl rfl) rfl rfl fun a hF => q_x (v := (.bool e_5.l.isEmpty)) hF hS (ex_eqNilF Try.underlying24 h7n h7.nilE rfl rfl) rfl rfl fun a hF => q_end (n_sq ?_)
 obtain ⟨p_x1_55, hj1, hr⟩ := bindS hr
 refine q_join (fun a w => ∃ (m57 : Mem), ∃ (q56 : Piece), ∃ (s56 : Sl), Fr a 64 [(0, (.int .i64 p_i)), (1, (.pointer (some ⟨b_p_x1, 0, none⟩)))] ∧ St X w0 w m57 [q56, [⟨b_p_x1, [s56.v], 46⟩], [⟨b_p_x2, [s2.v], 37⟩], [⟨b_p_x3, [s3.v], 26⟩], [⟨b_p_x4, [s4.v], 27⟩], [⟨b_p_x5, [chV b_p_x1 b_p_x2 b_p_x3 b_p_x4 b_p_x5], 73⟩]] ∧ MLe X w0.heap.size m m57 ∧ OwnL m57 24 q56 s56 p_x1_55) ?_ ?_
 ·rcases bcase (e_5.l.isEmpty) with hc2 | hc2
  ·have hj1 := cond_f hc2 hj1
   refine q_cond_f hF rfl hc2 (q_skipc (n_jn ?_))
   obtain rfl := someI hj1
   exact ⟨m, q1, s1, hF.sub ⟨rfl, rfl, trivial⟩, hS.sel [1, 0, 2, 3, 4, 5] (by decide), (MLe.refl _ _), h1⟩
  ·have hj1 := cond_t hc2 hj1
   refine q_cond_t hF rfl hc2 (q_seq (q_region (q_x (v := nilS.v) hF hS (ex_assign rfl) rfl rfl fun a hF => q_end (n_sq (q_seq (q_seq (q_region (q_x (v := s2.v) hF hS (ex_load1 2 0 Try.underlying37 rfl rfl rfl rfl) rfl rfl fun a hF => q_x (v := (.int .i64 (goLen p_x2))) hF hS (ex_len Try.underlying37 rfl h2.len) rfl rfl fun a hF => q_x (v := (.int .i64 0)) hF hS (ex_move rfl) rfl rfl fun a hF => q_end (n_sq (q_block ?_))))))))))
   obtain ⟨o3, hl3, hj1⟩ := bindS hj1
   refine q_loop (fun (s : (List Int) × Int × (List NL)) a w => ∃ (m13 : Mem), ∃ (s9 : Sl), ∃ (q12 : Piece), ∃ (s12 : Sl), ∃ best_8, ∃ t_10, ∃ p_x1_11, s = (best_8, t_10, p_x1_11) ∧ Fr a 64 [(0, (.int .i64 p_i)), (1, (.pointer (some ⟨b_p_x1, 0, none⟩))), (2, (.pointer (some ⟨b_p_x2, 0, none⟩))), (3, (.pointer (some ⟨b_p_x3, 0, none⟩))), (4, (.pointer (some ⟨b_p_x4, 0, none⟩))), (5, (.pointer (some ⟨b_p_x5, 0, none⟩))), (8, s9.v), (17, s2.v), (18, (.int .i64 (goLen p_x2))), (19, (.int .i64 t_10))] ∧ St X w0 w m13 [q12, [⟨b_p_x1, [s12.v], 46⟩], [⟨b_p_x2, [s2.v], 37⟩], [⟨b_p_x3, [s3.v], 26⟩], [⟨b_p_x4, [s4.v], 27⟩], [⟨b_p_x5, [chV b_p_x1 b_p_x2 b_p_x3 b_p_x4 b_p_x5], 73⟩]] ∧ MLe X w0.heap.size m m13 ∧ Rd m13 s9 best_8 ∧ OwnL m13 24 q12 s12 p_x1_11) (fun (o : (List Int) × (List NL)) e a w => ∃ (m45 : Mem), ∃ (s42 : Sl), ∃ (q44 : Piece), ∃ (s44 : Sl), ∃ best_41, ∃ p_x1_43, o = (best_41, p_x1_43) ∧ e = .exit 0 ∧ Fr a 64 [(0, (.int .i64 p_i)), (1, (.pointer (some ⟨b_p_x1, 0, none⟩))), (8, s42.v)] ∧ St X w0 w m45 [q44, [⟨b_p_x1, [s44.v], 46⟩], [⟨b_p_x2, [s2.v], 37⟩], [⟨b_p_x3, [s3.v], 26⟩], [⟨b_p_x4, [s4.v], 27⟩], [⟨b_p_x5, [chV b_p_x1 b_p_x2 b_p_x3 b_p_x4 b_p_x5], 73⟩]] ∧ MLe X w0.heap.size m m45 ∧ Rd m45 s42 best_41 ∧ OwnL m45 24 q44 s44 p_x1_43) hl3 ⟨m, nilS, q1, s1, _, _, _, rfl, hF.sub ⟨rfl, rfl, rfl, rfl, rfl, rfl, rfl, rfl, rfl, rfl, trivial⟩, hS.sel [1, 0, 2, 3, 4, 5] (by decide), (MLe.refl _ _), (Rd.nil0 (α := Int) m), h1⟩ ?_ ?_
   ·clear hF hS
    rintro s a w st ⟨m13, s9, q12, s12, best_8, t_10, p_x1_11, rfl, hF, hS, hm13, h9, h12⟩ hb3
    unfold impl_LongestChain_1_l1 at hb3
    refine q_seq (q_region (q_x (v := (.bool (decide (t_10 < (goLen p_x2))))) hF hS (ex_ibin rfl rfl rfl) rfl rfl fun a hF => q_end (n_sq (q_seq ?_))))
    rcases bcase (decide (t_10 < (goLen p_x2))) with hc4 | hc4
    ·have hb3 := cond_f hc4 hb3
     refine q_cond_f hF rfl hc4 (q_exit (x_sq ?_))
     obtain rfl := someI hb3
     exact ⟨nofun, .inl ⟨m13, s9, q12, s12, _, _, rfl, rfl, hF.sub ⟨rfl, rfl, rfl, trivial⟩, hS, hm13, h9, h12⟩⟩
    ·have hb3 := cond_t hc4 hb3
     refine q_cond_t hF rfl hc4 (q_skipc (n_sq (q_seq ?_)))
     obtain ⟨j5, hj5, hb3⟩ := bindS hb3
     refine q_join (fun a w => ∃ (m40 : Mem), ∃ (s37 : Sl), ∃ (q39 : Piece), ∃ (s39 : Sl), ∃ best_36, ∃ p_x1_38, j5 = (best_36, p_x1_38) ∧ Fr a 64 [(0, (.int .i64 p_i)), (1, (.pointer (some ⟨b_p_x1, 0, none⟩))), (2, (.pointer (some ⟨b_p_x2, 0, none⟩))), (3, (.pointer (some ⟨b_p_x3, 0, none⟩))), (4, (.pointer (some ⟨b_p_x4, 0, none⟩))), (5, (.pointer (some ⟨b_p_x5, 0, none⟩))), (8, s37.v), (17, s2.v), (18, (.int .i64 (goLen p_x2))), (19, (.int .i64 t_10))] ∧ St X w0 w m40 [q39, [⟨b_p_x1, [s39.v], 46⟩], [⟨b_p_x2, [s2.v], 37⟩], [⟨b_p_x3, [s3.v], 26⟩], [⟨b_p_x4, [s4.v], 27⟩], [⟨b_p_x5, [chV b_p_x1 b_p_x2 b_p_x3 b_p_x4 b_p_x5], 73⟩]] ∧ MLe X w0.heap.size m13 m40 ∧ Rd m40 s37 best_36 ∧ OwnL m40 24 q39 s39 p_x1_38) ?_ ?_
     ·refine q_block (q_seq (q_region (q_x (v := (.int .i64 t_10)) hF hS (ex_move rfl) rfl rfl fun a hF => ?_)))
      obtain ⟨e_14, he_14, hj5⟩ := bindS hj5
      obtain ⟨vs15, at15, d15⟩ := (h2.mono hm13.le).at he_14 4 rfl
      obtain ⟨s16, s17, rfl, h16, h17⟩ : ∃ s16 s17 : Sl, vs15 = [(.int .i64 e_14.Level), s16.v, s17.v, (.int .i64 e_14.Sum)] ∧ Rd m13 s16 e_14.Vars ∧ Rd m13 s17 e_14.Where := d15
      refine q_x (v := (elP s2 (t_10.toNat * 4))) hF hS (ex_indexAddr Try.underlying37 sz29 rfl rfl ((h2.mono hm13.le).idx he_14)) rfl rfl fun a hF => q_x (v := (.agg #[(.int .i64 e_14.Level), s16.v, s17.v, (.int .i64 e_14.Sum)])) hF hS (ex_loadEA (us := [(.int .i64 e_14.Level), s16.v, s17.v, (.int .i64 e_14.Sum)]) 0 Try.underlying29 rfl sz29 rfl ((at15).at) rfl rfl rfl) rfl rfl fun a hF => q_alloc (cs := [(.int .i64 0), nilS.v, nilS.v, (.int .i64 0)]) hF hS rfl rfl rfl fun a w b18 hF hS => q_x (v := (.int .i64 t_10)) hF hS (ex_assign rfl) rfl rfl fun a hF => q_store (vs := [(.int .i64 e_14.Level), s16.v, s17.v, (.int .i64 e_14.Sum)]) (cs' := [(.int .i64 e_14.Level), s16.v, s17.v, (.int .i64 e_14.Sum)]) 0 0 hF hS sz29 rfl rfl rfl rfl rfl rfl rfl rfl fun a w hF hS => q_end (n_sq (q_seq (q_seq ?_)))
      obtain ⟨t_29, hj6, hj5⟩ := bindS hj5
      refine q_join (fun a w => Fr a 64 [(0, (.int .i64 p_i)), (1, (.pointer (some ⟨b_p_x1, 0, none⟩))), (2, (.pointer (some ⟨b_p_x2, 0, none⟩))), (3, (.pointer (some ⟨b_p_x3, 0, none⟩))), (4, (.pointer (some ⟨b_p_x4, 0, none⟩))), (5, (.pointer (some ⟨b_p_x5, 0, none⟩))), (8, s9.v), (9, (.int .i64 t_10)), (17, s2.v), (18, (.int .i64 (goLen p_x2))), (19, (.int .i64 t_10)), (42, (.bool t_29))] ∧ St X w0 w m13 [q12, [⟨b_p_x1, [s12.v], 46⟩], [⟨b_p_x2, [s2.v], 37⟩], [⟨b_p_x3, [s3.v], 26⟩], [⟨b_p_x4, [s4.v], 27⟩], [⟨b_p_x5, [chV b_p_x1 b_p_x2 b_p_x3 b_p_x4 b_p_x5], 73⟩]]) ?_ ?_
      ·refine e_region ⟨[], []⟩ mixed fun w' hw' => ?_
       have hS := hS.below hw'
       refine e_x (v := (.agg #[s3.v])) 0 hF hS rfl (ex_loadA (vs := [s3.v]) 4 0 Try.underlying26 rfl sz26 rfl rfl rfl rfl) rfl rfl (by kernel_rfl) (by kernel_rfl) (by kernel_rfl) (by kernel_rfl) fun a hF => e_x (v := s4.v) 1 hF hS rfl (ex_load1 5 0 Try.underlying27 rfl rfl rfl rfl) rfl rfl (by kernel_rfl) (by kernel_rfl) (by kernel_rfl) (by kernel_rfl) fun a hF => e_x (v := (.agg #[(.int .i64 e_14.Level), s16.v, s17.v, (.int .i64 e_14.Sum)])) 2 hF hS rfl (ex_loadA (vs := [(.int .i64 e_14.Level), s16.v, s17.v, (.int .i64 e_14.Sum)]) 0 0 Try.underlying29 rfl sz29 rfl rfl rfl rfl) rfl rfl (by kernel_rfl) (by kernel_rfl) (by kernel_rfl) (by kernel_rfl) fun a hF => e_x (v := s2.v) 3 hF hS rfl (ex_load1 3 0 Try.underlying37 rfl rfl rfl rfl) rfl rfl (by kernel_rfl) (by kernel_rfl) (by kernel_rfl) (by kernel_rfl) fun a hF => e_p (v := (.int .i64 p_i)) 4 hF rfl (ex_move rfl) rfl rfl (by kernel_rfl) (by kernel_rfl) (by kernel_rfl) fun a hF => ?_
       obtain ⟨e_19, he_19, hj6⟩ := bindS hj6
       obtain ⟨vs20, at20, d20⟩ := (h2.mono hm13.le).at he_19 4 rfl
       obtain ⟨s21, s22, rfl, h21, h22⟩ : ∃ s21 s22 : Sl, vs20 = [(.int .i64 e_19.Level), s21.v, s22.v, (.int .i64 e_19.Sum)] ∧ Rd m13 s21 e_19.Vars ∧ Rd m13 s22 e_19.Where := d20
       refine e_p (v := (elP s2 (p_i.toNat * 4))) 5 hF rfl (ex_indexAddr Try.underlying37 sz29 rfl rfl ((h2.mono hm13.le).idx he_19)) rfl rfl (by kernel_rfl) (by kernel_rfl) (by kernel_rfl) fun a hF => e_x (v := (.agg #[(.int .i64 e_19.Level), s21.v, s22.v, (.int .i64 e_19.Sum)])) 6 hF hS rfl (ex_loadEA (us := [(.int .i64 e_19.Level), s21.v, s22.v, (.int .i64 e_19.Sum)]) 0 Try.underlying29 rfl sz29 rfl ((at20).at) rfl rfl rfl) rfl rfl (by kernel_rfl) (by kernel_rfl) (by kernel_rfl) (by kernel_rfl) fun a hF => e_one 7 (by kernel_rfl) ?_
       obtain ⟨t_23, ht_23, hj6⟩ := bindS hj6
       refine e_call (vs := [(.agg #[s3.v]), s4.v, (.agg #[(.int .i64 e_14.Level), s16.v, s17.v, (.int .i64 e_14.Sum)]), (.agg #[(.int .i64 e_19.Level), s21.v, s22.v, (.int .i64 e_19.Sum)])]) hF hS rfl Try.func34 (by kernel_rfl) rfl rfl rfl (c_impl_followsFrom p_x3 p_x4 e_14 e_19 t_23 ht_23 _ m13 hS.vis s3 (h3.mono hm13.le) s4 (h4.mono hm13.le) s16 h16 s17 h17 s21 h21 s22 h22) ?_
       rintro a w _ rfl hF hS
       refine e_p (v := (.bool (!t_23))) 8 hF rfl (ex_not rfl) rfl rfl (by kernel_rfl) (by kernel_rfl) (by kernel_rfl) fun a hF => e_p (v := (.bool (!t_23))) 9 hF rfl (ex_move rfl) rfl rfl (by kernel_rfl) (by kernel_rfl) (by kernel_rfl) fun a hF => ?_
       rcases bcase (!t_23) with hc7 | hc7
       ·have hj6 := cond_f hc7 hj6
        refine e_xg (v := (.agg #[s3.v])) 10 hF hS rfl (ex_loadA (vs := [s3.v]) 4 0 Try.underlying26 rfl sz26 rfl rfl rfl rfl) (wanted_t hF rfl rfl rfl hc7) rfl (by kernel_rfl) (by kernel_rfl) (by kernel_rfl) (by kernel_rfl) fun a hF => e_xg (v := s4.v) 11 hF hS rfl (ex_load1 5 0 Try.underlying27 rfl rfl rfl rfl) (wanted_t hF rfl rfl rfl hc7) rfl (by kernel_rfl) (by kernel_rfl) (by kernel_rfl) (by kernel_rfl) fun a hF => e_xg (v := s2.v) 12 hF hS rfl (ex_load1 3 0 Try.underlying37 rfl rfl rfl rfl) (wanted_t hF rfl rfl rfl hc7) rfl (by kernel_rfl) (by kernel_rfl) (by kernel_rfl) (by kernel_rfl) fun a hF => e_pg (v := (.int .i64 p_i)) 13 hF rfl (ex_move rfl) (wanted_t hF rfl rfl rfl hc7) rfl (by kernel_rfl) (by kernel_rfl) (by kernel_rfl) fun a hF => ?_
        obtain ⟨e_24, he_24, hj6⟩ := bindS hj6
        obtain ⟨vs25, at25, d25⟩ := (h2.mono hm13.le).at he_24 4 rfl
        obtain ⟨s26, s27, rfl, h26, h27⟩ : ∃ s26 s27 : Sl, vs25 = [(.int .i64 e_24.Level), s26.v, s27.v, (.int .i64 e_24.Sum)] ∧ Rd m13 s26 e_24.Vars ∧ Rd m13 s27 e_24.Where := d25
        refine e_pg (v := (elP s2 (p_i.toNat * 4))) 14 hF rfl (ex_indexAddr Try.underlying37 sz29 rfl rfl ((h2.mono hm13.le).idx he_24)) (wanted_t hF rfl rfl rfl hc7) rfl (by kernel_rfl) (by kernel_rfl) (by kernel_rfl) fun a hF => e_xg (v := (.agg #[(.int .i64 e_24.Level), s26.v, s27.v, (.int .i64 e_24.Sum)])) 15 hF hS rfl (ex_loadEA (us := [(.int .i64 e_24.Level), s26.v, s27.v, (.int .i64 e_24.Sum)]) 0 Try.underlying29 rfl sz29 rfl ((at25).at) rfl rfl rfl) (wanted_t hF rfl rfl rfl hc7) rfl (by kernel_rfl) (by kernel_rfl) (by kernel_rfl) (by kernel_rfl) fun a hF => e_xg (v := (.agg #[(.int .i64 e_14.Level), s16.v, s17.v, (.int .i64 e_14.Sum)])) 16 hF hS rfl (ex_loadA (vs := [(.int .i64 e_14.Level), s16.v, s17.v, (.int .i64 e_14.Sum)]) 0 0 Try.underlying29 rfl sz29 rfl rfl rfl rfl) (wanted_t hF rfl rfl rfl hc7) rfl (by kernel_rfl) (by kernel_rfl) (by kernel_rfl) (by kernel_rfl) fun a hF => e_one 17 (by kernel_rfl) ?_
        obtain ⟨t_28, ht_28, hj6⟩ := bindS hj6
        refine e_callg (vs := [(.agg #[s3.v]), s4.v, (.agg #[(.int .i64 e_24.Level), s26.v, s27.v, (.int .i64 e_24.Sum)]), (.agg #[(.int .i64 e_14.Level), s16.v, s17.v, (.int .i64 e_14.Sum)])]) hF hS rfl (wanted_t hF rfl rfl rfl hc7) Try.func34 (by kernel_rfl) rfl rfl rfl (c_impl_followsFrom p_x3 p_x4 e_24 e_14 t_28 ht_28 _ m13 hS.vis s3 (h3.mono hm13.le) s4 (h4.mono hm13.le) s26 h26 s27 h27 s16 h16 s17 h17) ?_
        rintro a w _ rfl hF hS
        refine e_p (v := (.bool t_28)) 18 hF rfl (ex_pick_f rfl rfl hc7) rfl rfl (by kernel_rfl) (by kernel_rfl) (by kernel_rfl) fun a hF => e_end (by kernel_rfl) (n_jn ?_) _
        obtain rfl := someI hj6
        exact ⟨hF.sub ⟨rfl, rfl, rfl, rfl, rfl, rfl, rfl, rfl, rfl, rfl, rfl, rfl, trivial⟩, hS.mask [false, true, true, true, true, true, true]⟩
       ·have hj6 := cond_t hc7 hj6
        refine e_skipP 10 hF rfl (wanted_f hF rfl rfl rfl hc7 rfl) rfl (by kernel_rfl) (by kernel_rfl) (by kernel_rfl) fun a hF => e_skipP 11 hF rfl (wanted_f hF rfl rfl rfl hc7 rfl) rfl (by kernel_rfl) (by kernel_rfl) (by kernel_rfl) fun a hF => e_skipP 12 hF rfl (wanted_f hF rfl rfl rfl hc7 rfl) rfl (by kernel_rfl) (by kernel_rfl) (by kernel_rfl) fun a hF => e_skipP 13 hF rfl (wanted_f hF rfl rfl rfl hc7 rfl) rfl (by kernel_rfl) (by kernel_rfl) (by kernel_rfl) fun a hF => e_skipP 14 hF rfl (wanted_f hF rfl rfl rfl hc7 rfl) rfl (by kernel_rfl) (by kernel_rfl) (by kernel_rfl) fun a hF => e_skipP 15 hF rfl (wanted_f hF rfl rfl rfl hc7 rfl) rfl (by kernel_rfl) (by kernel_rfl) (by kernel_rfl) fun a hF => e_skipP 16 hF rfl (wanted_f hF rfl rfl rfl hc7 rfl) rfl (by kernel_rfl) (by kernel_rfl) (by kernel_rfl) fun a hF => e_skipP 17 hF rfl (wanted_f hF rfl rfl rfl hc7 rfl) rfl (by kernel_rfl) (by kernel_rfl) (by kernel_rfl) fun a hF => e_p (v := (.bool true)) 18 hF rfl (ex_pick_t rfl rfl hc7) rfl rfl (by kernel_rfl) (by kernel_rfl) (by kernel_rfl) fun a hF => e_end (by kernel_rfl) (n_jn ?_) _
        obtain rfl := someI hj6
        exact ⟨hF.sub ⟨rfl, rfl, rfl, rfl, rfl, rfl, rfl, rfl, rfl, rfl, rfl, rfl, trivial⟩, hS.mask [false, true, true, true, true, true, true]⟩
      ·rintro a w ⟨hF, hS⟩
       refine n_sq ?_
       rcases bcase (t_29) with hc8 | hc8
       ·have hj5 := cond_f hc8 hj5
        refine q_cond_f hF rfl hc8 (q_skipc (n_sq (q_seq (q_region (q_x (v := chV b_p_x1 b_p_x2 b_p_x3 b_p_x4 b_p_x5) hF hS (ex_load1 5 0 Try.underlying73 rfl rfl rfl rfl) rfl rfl fun a hF => q_x (v := (.int .i64 t_10)) hF hS (ex_move rfl) rfl rfl fun a hF => ?_)))))
        have hS : St _ _ _ _ [[⟨b_p_x1, [s12.v], 46⟩], q12, [⟨b_p_x2, [s2.v], 37⟩], [⟨b_p_x3, [s3.v], 26⟩], [⟨b_p_x4, [s4.v], 27⟩], [⟨b_p_x5, [chV b_p_x1 b_p_x2 b_p_x3 b_p_x4 b_p_x5], 73⟩]] := hS.sel [1, 0, 2, 3, 4, 5] (by decide)
        have hS30 : St _ _ _ _ ([[⟨b_p_x1, [s12.v], 46⟩], q12, [⟨b_p_x2, [s2.v], 37⟩], [⟨b_p_x3, [s3.v], 26⟩], [⟨b_p_x4, [s4.v], 27⟩], [⟨b_p_x5, [chV b_p_x1 b_p_x2 b_p_x3 b_p_x4 b_p_x5], 73⟩]] ++ []) := hS
        have hE30 := hS30.enter
        obtain ⟨t_31, ht_31, hj5⟩ := bindS hj5
        refine q_do rfl fun _ hK => wp_callV (vs := [(.int .i64 t_10)]) (cap := [(.pointer (some ⟨b_p_x1, 0, none⟩)), (.pointer (some ⟨b_p_x2, 0, none⟩)), (.pointer (some ⟨b_p_x3, 0, none⟩)), (.pointer (some ⟨b_p_x4, 0, none⟩)), (.pointer (some ⟨b_p_x5, 0, none⟩))]) hF rfl Try.func48 (by kernel_rfl) rfl rfl rfl (ih t_10 p_x1_11 p_x2 p_x3 p_x4 p_x5 t_31 ht_31 _ m13 b_p_x1 b_p_x2 b_p_x3 b_p_x4 b_p_x5 s12 q12 h12 s2 (h2.mono hm13.le) s3 (h3.mono hm13.le) s4 (h4.mono hm13.le) _ hE30) fun a w _ hR hF => hK _ _ ?_
        obtain ⟨m30', q33, s32, s33, rfl, hm30, hR30, h32, h32n, h33⟩ := hR
        have hS : St _ _ _ _ [[⟨b_p_x1, [s33.v], 46⟩], [⟨b_p_x2, [s2.v], 37⟩], [⟨b_p_x3, [s3.v], 26⟩], [⟨b_p_x4, [s4.v], 27⟩], [⟨b_p_x5, [chV b_p_x1 b_p_x2 b_p_x3 b_p_x4 b_p_x5], 73⟩], q33] := hS30.leave hR30 hm30
        have hm30 := MLe.weakX hS30 hm30
        refine q_x (v := s32.v) hF hS (ex_assign rfl) rfl rfl fun a hF => q_end (n_sq (q_seq (q_region (q_x (v := s32.v) hF hS (ex_move rfl) rfl rfl fun a hF => q_x (v := (.int .i64 (goLen t_31.1))) hF hS (ex_len Try.underlying24 rfl h32.len) rfl rfl fun a hF => q_x (v := s9.v) hF hS (ex_move rfl) rfl rfl fun a hF => q_x (v := (.int .i64 (goLen best_8))) hF hS (ex_len Try.underlying24 rfl (h9.mono hm30.le).len) rfl rfl fun a hF => q_x (v := (.bool (decide ((goLen best_8) < (goLen t_31.1))))) hF hS (ex_ibin rfl rfl rfl) rfl rfl fun a hF => q_end (n_sq ?_)))))
        obtain ⟨best_34, hj9, hj5⟩ := bindS hj5
        refine q_join (fun a w => ∃ (s35 : Sl), Fr a 64 [(0, (.int .i64 p_i)), (1, (.pointer (some ⟨b_p_x1, 0, none⟩))), (2, (.pointer (some ⟨b_p_x2, 0, none⟩))), (3, (.pointer (some ⟨b_p_x3, 0, none⟩))), (4, (.pointer (some ⟨b_p_x4, 0, none⟩))), (5, (.pointer (some ⟨b_p_x5, 0, none⟩))), (8, s35.v), (17, s2.v), (18, (.int .i64 (goLen p_x2))), (19, (.int .i64 t_10))] ∧ St X w0 w m30' [q33, [⟨b_p_x1, [s33.v], 46⟩], [⟨b_p_x2, [s2.v], 37⟩], [⟨b_p_x3, [s3.v], 26⟩], [⟨b_p_x4, [s4.v], 27⟩], [⟨b_p_x5, [chV b_p_x1 b_p_x2 b_p_x3 b_p_x4 b_p_x5], 73⟩]] ∧ Rd m30' s35 best_34) ?_ ?_
        ·rcases bcase (decide ((goLen best_8) < (goLen t_31.1))) with hc10 | hc10
         ·have hj9 := cond_f hc10 hj9
          refine q_cond_f hF rfl hc10 (q_skipc (n_jn ?_))
          obtain rfl := someI hj9
          exact ⟨s9, hF.sub ⟨rfl, rfl, rfl, rfl, rfl, rfl, rfl, rfl, rfl, rfl, trivial⟩, hS.sel [5, 0, 1, 2, 3, 4] (by decide), (h9.mono hm30.le)⟩
         ·have hj9 := cond_t hc10 hj9
          refine q_cond_t hF rfl hc10 (q_region (q_x (v := s32.v) hF hS (ex_move rfl) rfl rfl fun a hF => q_x (v := s32.v) hF hS (ex_assign rfl) rfl rfl fun a hF => q_end (n_jn ?_)))
          obtain rfl := someI hj9
          exact ⟨s32, hF.sub ⟨rfl, rfl, rfl, rfl, rfl, rfl, rfl, rfl, rfl, rfl, trivial⟩, hS.sel [5, 0, 1, 2, 3, 4] (by decide), h32⟩
        ·rintro a w ⟨s35, hF, hS, h35⟩
         refine n_ib (n_jn ?_)
         obtain rfl := someI hj5
         exact ⟨m30', s35, q33, s33, _, _, rfl, hF.sub ⟨rfl, rfl, rfl, rfl, rfl, rfl, rfl, rfl, rfl, rfl, trivial⟩, hS, hm30, h35, h33⟩
       ·have hj5 := cond_t hc8 hj5
        refine q_cond_t hF rfl hc8 (q_exit (x_sq (x_ib (n_jn ?_))))
        obtain rfl := someI hj5
        exact ⟨m13, s9, q12, s12, _, _, rfl, hF.sub ⟨rfl, rfl, rfl, rfl, rfl, rfl, rfl, rfl, rfl, rfl, trivial⟩, hS, (MLe.refl _ _), h9, h12⟩
     ·rintro a w ⟨m40, s37, q39, s39, best_36, p_x1_38, rfl, hF, hS, hm40, h37, h39⟩
      refine n_sq ?_
      refine q_region (q_x (v := (.int .i64 (w64 (t_10 + 1)))) hF hS (ex_ibin rfl rfl rfl) rfl rfl fun a hF => q_x (v := (.int .i64 (w64 (t_10 + 1)))) hF hS (ex_move rfl) rfl rfl fun a hF => q_end ?_)
      obtain rfl := someI hb3
      exact ⟨rfl, m40, s37, q39, s39, _, _, _, rfl, hF.sub ⟨rfl, rfl, rfl, rfl, rfl, rfl, rfl, rfl, rfl, rfl, trivial⟩, hS, (hm13.trans hm40), h37, h39⟩
   ·rintro e a w ⟨m45, s42, q44, s44, best_41, p_x1_43, rfl, rfl, hF, hS, hm45, h42, h44⟩
    refine x_ib (n_sq ?_)
    refine e_region ⟨[5, 7], [b_p_x1]⟩ mixed fun w' hw' => ?_
    have hS := hS.below hw'
    refine e_xb (v := s44.v) 0 1 hF hS (.head _) rfl rfl (ex_load1 0 0 Try.underlying46 rfl rfl rfl rfl) rfl rfl (by kernel_rfl) (by kernel_rfl) (by kernel_rfl) fun a hF => e_p (v := (.int .i64 p_i)) 1 hF rfl (ex_move rfl) rfl rfl (by kernel_rfl) (by kernel_rfl) (by kernel_rfl) fun a hF => e_p (v := (.int .i64 p_i)) 2 hF rfl (ex_move rfl) rfl rfl (by kernel_rfl) (by kernel_rfl) (by kernel_rfl) fun a hF => e_p (v := s42.v) 4 hF rfl (ex_move rfl) rfl rfl (by kernel_rfl) (by kernel_rfl) (by kernel_rfl) fun a hF => e_one 3 (by kernel_rfl) (e_op rfl rfl fun _ hK => wp_buildSlice' (l := ([p_i] : List Int)) (cells := [(.int .i64 p_i)]) hF hS Try.underlying24 inf3 rfl rfl (by kernel_rfl) rfl rfl rfl ⟨rfl, rfl⟩ rfl rfl fun a w q47 s47 hF hS h47 hb => hK _ _ hb (e_one 5 (by kernel_rfl) ?_))
    obtain ⟨l_48, hl_48, hj1⟩ := bindS hj1
    have hSo := hS
    refine e_opl rfl rfl rfl fun _ hK => wp_append hF hS h47 Try.underlying24 inf3 rfl rfl rfl rfl (h42.vw hS.vis) rfl (by decide) hl_48 rfl fun a w q49 s49 hF hS h49 => hK _ _ (⟨kpC hSo hS 2 2 rfl rfl kpN, ?_⟩)
    obtain ⟨e_50, he_50, hj1⟩ := bindS hj1
    obtain ⟨vs51, at51, d51⟩ := h44.at he_50 1 rfl
    obtain ⟨s52, rfl, h52, h52n⟩ : ∃ s52 : Sl, vs51 = [s52.v] ∧ Rd m45 s52 e_50.l ∧ NF s52 e_50.l := d51
    refine e_p (v := (elP s44 (p_i.toNat * 1))) 6 hF rfl (ex_indexAddr Try.underlying46 sz24 rfl rfl (h44.idx he_50)) rfl rfl (by kernel_rfl) (by kernel_rfl) (by kernel_rfl) fun a hF => e_one 7 (by kernel_rfl) ?_
    obtain ⟨m53, hm53, hS, hz53⟩ := hS.freeze
    have h53 := h49.froz hm53.le hz53
    have hSo := hS
    refine e_opl rfl rfl rfl fun _ hK => wp_storeE (e' := NL.mk l_48) (us := [s49.v]) (vs := [s52.v]) 0 hF hS (h44.mono hm53.le) sz24 rfl rfl rfl rfl rfl rfl rfl he_50 at51 rfl rfl ⟨s49, rfl, h53, NF.app1 hl_48⟩ fun w q54 hS h54 => hK _ _ (⟨kpC hSo hS 1 1 rfl rfl kpN, ?_⟩)
    refine e_end (by kernel_rfl) (n_jn ?_) _
    obtain rfl := someI hj1
    exact ⟨m53, q54, s44, hF.sub ⟨rfl, rfl, trivial⟩, hS, (hm45.trans hm53), h54⟩
 ·rintro a w ⟨m57, q56, s56, hF, hS, hm57, h56⟩
  refine n_sq ?_
  refine q_seq (q_region (q_x (v := s56.v) hF hS (ex_load1 1 0 Try.underlying46 rfl rfl rfl rfl) rfl rfl fun a hF => q_x (v := (.int .i64 p_i)) hF hS (ex_move rfl) rfl rfl fun a hF => ?_))
  obtain ⟨e_58, he_58, hr⟩ := bindS hr
  obtain ⟨vs59, at59, d59⟩ := h56.at he_58 1 rfl
  obtain ⟨s60, rfl, h60, h60n⟩ : ∃ s60 : Sl, vs59 = [s60.v] ∧ Rd m57 s60 e_58.l ∧ NF s60 e_58.l := d59
  refine q_x (v := (elP s56 (p_i.toNat * 1))) hF hS (ex_indexAddr Try.underlying46 sz24 rfl rfl (h56.idx he_58)) rfl rfl fun a hF => q_x (v := s60.v) hF hS (ex_loadE1 0 Try.underlying24 rfl rfl (at59.at 0 rfl) rfl rfl) rfl rfl fun a hF => q_x (v := s60.v) hF hS (ex_assign rfl) rfl rfl fun a hF => q_end (n_sq (q_ret ?_))
  obtain rfl := someI hr
  exact ret_ofX hF hS rfl (.tmp rfl .nil) ⟨m57, q56, s60, s56, rfl, hm57, hS.sel [1, 2, 3, 4, 5, 0] (by decide), h60, h60n, h56⟩

theorem ck_impl_LongestChain_1 : ∀ (k : Nat), ∀ (p_i : Int) (p_x1 : List NL) (p_x2 : List impl_Table) (p_x3 : impl_Geo) (p_x4 : List impl_Variable) (p_x5 : Int) (r : (List Int) × (List NL)) (hr : impl_LongestChain_1_k k p_i p_x1 p_x2 p_x3 p_x4 p_x5 = some r) (w0 : World) (m : Mem) (b_p_x1 : Nat) (b_p_x2 : Nat) (b_p_x3 : Nat) (b_p_x4 : Nat) (b_p_x5 : Nat) (s1 : Sl) (q1 : Piece) (h1 : OwnL m 24 q1 s1 p_x1) (s2 : Sl) (h2 : Rd m s2 p_x2) (s3 : Sl) (h3 : Rd m s3 p_x3.Parents) (s4 : Sl) (h4 : Rd m s4 p_x4) (X : List Nat) (hS : St X w0 w0 m [[⟨b_p_x1, [s1.v], 46⟩], q1, [⟨b_p_x2, [s2.v], 37⟩], [⟨b_p_x3, [s3.v], 26⟩], [⟨b_p_x4, [s4.v], 27⟩], [⟨b_p_x5, [chV b_p_x1 b_p_x2 b_p_x3 b_p_x4 b_p_x5], 73⟩]]),
    RetX Try.prog 48 [(.int .i64 p_i), (.pointer (some ⟨b_p_x1, 0, none⟩)), (.pointer (some ⟨b_p_x2, 0, none⟩)), (.pointer (some ⟨b_p_x3, 0, none⟩)), (.pointer (some ⟨b_p_x4, 0, none⟩)), (.pointer (some ⟨b_p_x5, 0, none⟩))] w0 (fun v w => ∃ (m' : Mem) (q1' : Piece) (s0' : Sl) (s1' : Sl), v = s0'.v ∧ MLe X w0.heap.size m m' ∧ St X w0 w m' [[⟨b_p_x1, [s1'.v], 46⟩], [⟨b_p_x2, [s2.v], 37⟩], [⟨b_p_x3, [s3.v], 26⟩], [⟨b_p_x4, [s4.v], 27⟩], [⟨b_p_x5, [chV b_p_x1 b_p_x2 b_p_x3 b_p_x4 b_p_x5], 73⟩], q1'] ∧ Rd m' s0' r.1 ∧ NF s0' r.1 ∧ OwnL m' 24 q1' s1' r.2)
  | 0 => fun _ _ _ _ _ _ _ hr => by cases hr
  | k + 1 => cB_impl_LongestChain_1 _ (ck_impl_LongestChain_1 k)

theorem c_impl_LongestChain_1 : ∀ (p_i : Int) (p_x1 : List NL) (p_x2 : List impl_Table) (p_x3 : impl_Geo) (p_x4 : List impl_Variable) (p_x5 : Int) (r : (List Int) × (List NL)) (hr : impl_LongestChain_1 p_i p_x1 p_x2 p_x3 p_x4 p_x5 = some r) (w0 : World) (m : Mem) (b_p_x1 : Nat) (b_p_x2 : Nat) (b_p_x3 : Nat) (b_p_x4 : Nat) (b_p_x5 : Nat) (s1 : Sl) (q1 : Piece) (h1 : OwnL m 24 q1 s1 p_x1) (s2 : Sl) (h2 : Rd m s2 p_x2) (s3 : Sl) (h3 : Rd m s3 p_x3.Parents) (s4 : Sl) (h4 : Rd m s4 p_x4) (X : List Nat) (hS : St X w0 w0 m [[⟨b_p_x1, [s1.v], 46⟩], q1, [⟨b_p_x2, [s2.v], 37⟩], [⟨b_p_x3, [s3.v], 26⟩], [⟨b_p_x4, [s4.v], 27⟩], [⟨b_p_x5, [chV b_p_x1 b_p_x2 b_p_x3 b_p_x4 b_p_x5], 73⟩]]),
    RetX Try.prog 48 [(.int .i64 p_i), (.pointer (some ⟨b_p_x1, 0, none⟩)), (.pointer (some ⟨b_p_x2, 0, none⟩)), (.pointer (some ⟨b_p_x3, 0, none⟩)), (.pointer (some ⟨b_p_x4, 0, none⟩)), (.pointer (some ⟨b_p_x5, 0, none⟩))] w0 (fun v w => ∃ (m' : Mem) (q1' : Piece) (s0' : Sl) (s1' : Sl), v = s0'.v ∧ MLe X w0.heap.size m m' ∧ St X w0 w m' [[⟨b_p_x1, [s1'.v], 46⟩], [⟨b_p_x2, [s2.v], 37⟩], [⟨b_p_x3, [s3.v], 26⟩], [⟨b_p_x4, [s4.v], 27⟩], [⟨b_p_x5, [chV b_p_x1 b_p_x2 b_p_x3 b_p_x4 b_p_x5], 73⟩], q1'] ∧ Rd m' s0' r.1 ∧ NF s0' r.1 ∧ OwnL m' 24 q1' s1' r.2) := by
  intro p_i p_x1 p_x2 p_x3 p_x4 p_x5 r hr
  exact ck_impl_LongestChain_1 40 p_i p_x1 p_x2 p_x3 p_x4 p_x5 r hr

theorem c_impl_LongestChain (p_g : impl_Geo) (p_s : List impl_Variable) (p_l : List impl_Table) (r : (List Int) × Bool) (hr : impl_LongestChain p_g p_s p_l = some r) (w0 : World) (m : Mem) (hv : Vis m w0) (s1 : Sl) (h1 : Rd m s1 p_g.Parents) (s2 : Sl) (h2 : Rd m s2 p_s) (s3 : Sl) (h3 : Rd m s3 p_l) :
  Ret Try.prog 23 [(.agg #[s1.v]), s2.v, s3.v] w0 (fun v w => ∃ (m' : Mem) (q0' : Piece) (s0' : Sl), v = (.tuple #[s0'.v, (.bool r.2)]) ∧ MLe [] w0.heap.size m m' ∧ St [] w0 w m' [q0'] ∧ OwnL m' 3 q0' s0' r.1) := by
 unfold impl_LongestChain at hr
 refine ret_start Try.func23 rfl 39 rfl rfl m hv fun a hF hS => q_seq (q_region (q_box (cs := [s1.v]) hF hS rfl rfl rfl fun a w b4 hF hS => q_box (cs := [s2.v]) hF hS rfl rfl rfl fun a w b5 hF hS => q_box (cs := [s3.v]) hF hS rfl rfl rfl fun a w b6 hF hS => q_x (v := nilS.v) hF hS (ex_assign rfl) rfl rfl fun a hF => q_x (v := (.bool false)) hF hS (ex_assign rfl) rfl rfl fun a hF => q_end (n_sq (q_seq (q_seq (q_region (q_x (v := (.agg #[s1.v])) hF hS (ex_loadA (vs := [s1.v]) 2 0 Try.underlying26 rfl sz26 rfl rfl rfl rfl) rfl rfl fun a hF => q_x (v := s2.v) hF hS (ex_load1 1 0 Try.underlying27 rfl rfl rfl rfl) rfl rfl fun a hF => q_x (v := s3.v) hF hS (ex_load1 0 0 Try.underlying37 rfl rfl rfl rfl) rfl rfl fun a hF => ?_)))))))
 obtain ⟨t_7, ht_7, hr⟩ := bindS hr
 refine q_call (vs := [(.agg #[s1.v]), s2.v, s3.v]) hF hS Try.func42 (by kernel_rfl) rfl rfl rfl (c_impl_isPlan p_g p_s p_l t_7 ht_7 _ m hS.vis s1 h1 s2 h2 s3 h3) ?_
 rintro a w _ rfl hF hS
 refine q_x (v := (.bool (!t_7))) hF hS (ex_not rfl) rfl rfl fun a hF => q_end (n_sq ?_)
 rcases bcase (!t_7) with hc1 | hc1
 ·have hr := cond_f hc1 hr
  refine q_cond_f hF rfl hc1 (q_skipc (n_sq (q_seq (q_region (q_x (v := s3.v) hF hS (ex_load1 0 0 Try.underlying37 rfl rfl rfl rfl) rfl rfl fun a hF => q_x (v := (.int .i64 (goLen p_l))) hF hS (ex_len Try.underlying37 rfl h3.len) rfl rfl fun a hF => ?_)))))
  obtain ⟨l_8, hl_8, hr⟩ := bindS hr
  refine q_do rfl fun _ hK => wp_make (z := NL.mk []) hF hS Try.underlying46 inf24 rfl rfl rfl rfl ⟨nilS, rfl, (Rd.nil0 (α := Int) m), NF.nil⟩ (by decide) hl_8 rfl fun a w q9 s9 hF hS h9 _ => hK _ _ (q_alloc (cs := [nilS.v]) hF hS rfl rfl rfl fun a w b10 hF hS => q_store (vs := [s9.v]) (cs' := [s9.v]) 0 0 hF hS sz46 rfl rfl rfl rfl rfl rfl rfl rfl fun a w hF hS => q_end (n_sq (q_seq (q_region (q_alloc (cs := [.nilFunc]) hF hS rfl rfl rfl fun a w b11 hF hS => q_end (n_sq (q_seq (q_region (q_x (v := (.func (.func 48) #[] #[(.pointer (some ⟨b10, 0, none⟩)), (.pointer (some ⟨b6, 0, none⟩)), (.pointer (some ⟨b4, 0, none⟩)), (.pointer (some ⟨b5, 0, none⟩)), (.pointer (some ⟨b11, 0, none⟩))])) hF hS (ex_makeFunc rfl) rfl rfl fun a hF => q_store (vs := [chV b10 b6 b4 b5 b11]) (cs' := [chV b10 b6 b4 b5 b11]) 0 0 hF hS sz73 rfl rfl rfl rfl rfl rfl rfl rfl fun a w hF hS => q_end (n_sq (q_seq (q_region (q_x (v := nilS.v) hF hS (ex_assign rfl) rfl rfl fun a hF => q_end (n_sq (q_seq (q_seq (q_region (q_x (v := s3.v) hF hS (ex_load1 3 0 Try.underlying37 rfl rfl rfl rfl) rfl rfl fun a hF => q_x (v := (.int .i64 (goLen p_l))) hF hS (ex_len Try.underlying37 rfl h3.len) rfl rfl fun a hF => q_x (v := (.int .i64 0)) hF hS (ex_move rfl) rfl rfl fun a hF => q_end (n_sq (q_block ?_))))))))))))))))))))
  obtain ⟨best_24, hl2, hr⟩ := bindS hr
  refine q_loop (fun (s : (List Int) × Int × (List NL)) a w => ∃ (m17 : Mem), ∃ (s13 : Sl), ∃ (q16 : Piece), ∃ (s16 : Sl), ∃ best_12, ∃ t_14, ∃ memo_15, s = (best_12, t_14, memo_15) ∧ Fr a 39 [(3, (.pointer (some ⟨b4, 0, none⟩))), (4, (.pointer (some ⟨b5, 0, none⟩))), (5, (.pointer (some ⟨b6, 0, none⟩))), (8, (.pointer (some ⟨b10, 0, none⟩))), (9, (.pointer (some ⟨b11, 0, none⟩))), (10, s13.v), (23, (.int .i64 (goLen p_l))), (24, (.int .i64 t_14))] ∧ St [] w0 w m17 [q16, [⟨b11, [chV b10 b6 b4 b5 b11], 73⟩], [⟨b10, [s16.v], 46⟩], [⟨b6, [s3.v], 37⟩], [⟨b5, [s2.v], 27⟩], [⟨b4, [s1.v], 26⟩]] ∧ MLe [] w0.heap.size m m17 ∧ Rd m17 s13 best_12 ∧ OwnL m17 24 q16 s16 memo_15) (fun (best_24 : (List Int)) e a w => ∃ (m26 : Mem), ∃ (s25 : Sl), e = .exit 0 ∧ Fr a 39 [(10, s25.v)] ∧ St [] w0 w m26 [] ∧ MLe [] w0.heap.size m m26 ∧ Rd m26 s25 best_24) hl2 ⟨m, nilS, q9, s9, _, _, _, rfl, hF.sub ⟨rfl, rfl, rfl, rfl, rfl, rfl, rfl, rfl, trivial⟩, hS.sel [2, 0, 1, 3, 4, 5] (by decide), (MLe.refl _ _), (Rd.nil0 (α := Int) m), h9⟩ ?_ ?_
  ·clear hF hS
   rintro s a w st ⟨m17, s13, q16, s16, best_12, t_14, memo_15, rfl, hF, hS, hm17, h13, h16⟩ hb2
   unfold impl_LongestChain_l1 at hb2
   refine q_seq (q_region (q_x (v := (.bool (decide (t_14 < (goLen p_l))))) hF hS (ex_ibin rfl rfl rfl) rfl rfl fun a hF => q_end (n_sq (q_seq ?_))))
   rcases bcase (decide (t_14 < (goLen p_l))) with hc3 | hc3
   ·have hb2 := cond_f hc3 hb2
    refine q_cond_f hF rfl hc3 (q_exit (x_sq ?_))
    obtain rfl := someI hb2
    exact ⟨nofun, .inl ⟨m17, s13, rfl, hF.sub ⟨rfl, trivial⟩, hS.mask [false, false, false, false, false, false], hm17, h13⟩⟩
   ·have hb2 := cond_t hc3 hb2
    refine q_cond_t hF rfl hc3 (q_skipc (n_sq (q_seq (q_block (q_seq (q_region (q_x (v := (.int .i64 t_14)) hF hS (ex_move rfl) rfl rfl fun a hF => q_x (v := (.int .i64 t_14)) hF hS (ex_assign rfl) rfl rfl fun a hF => q_end (n_sq (q_seq (q_region (q_x (v := chV b10 b6 b4 b5 b11) hF hS (ex_load1 1 0 Try.underlying73 rfl rfl rfl rfl) rfl rfl fun a hF => q_x (v := (.int .i64 t_14)) hF hS (ex_move rfl) rfl rfl fun a hF => ?_)))))))))))
    have hS : St _ _ _ _ [[⟨b10, [s16.v], 46⟩], q16, [⟨b6, [s3.v], 37⟩], [⟨b4, [s1.v], 26⟩], [⟨b5, [s2.v], 27⟩], [⟨b11, [chV b10 b6 b4 b5 b11], 73⟩]] := hS.sel [2, 0, 3, 5, 4, 1] (by decide)
    have hS18 : St _ _ _ _ ([[⟨b10, [s16.v], 46⟩], q16, [⟨b6, [s3.v], 37⟩], [⟨b4, [s1.v], 26⟩], [⟨b5, [s2.v], 27⟩], [⟨b11, [chV b10 b6 b4 b5 b11], 73⟩]] ++ []) := hS
    have hE18 := hS18.enter
    obtain ⟨t_19, ht_19, hb2⟩ := bindS hb2
    refine q_do rfl fun _ hK => wp_callV (vs := [(.int .i64 t_14)]) (cap := [(.pointer (some ⟨b10, 0, none⟩)), (.pointer (some ⟨b6, 0, none⟩)), (.pointer (some ⟨b4, 0, none⟩)), (.pointer (some ⟨b5, 0, none⟩)), (.pointer (some ⟨b11, 0, none⟩))]) hF rfl Try.func48 (by kernel_rfl) rfl rfl rfl (c_impl_LongestChain_1 t_14 memo_15 p_l p_g p_s 5 t_19 ht_19 _ m17 b10 b6 b4 b5 b11 s16 q16 h16 s3 (h3.mono hm17.le) s1 (h1.mono hm17.le) s2 (h2.mono hm17.le) _ hE18) fun a w _ hR hF => hK _ _ ?_
    obtain ⟨m18', q21, s20, s21, rfl, hm18, hR18, h20, h20n, h21⟩ := hR
    have hS : St _ _ _ _ [[⟨b10, [s21.v], 46⟩], [⟨b6, [s3.v], 37⟩], [⟨b4, [s1.v], 26⟩], [⟨b5, [s2.v], 27⟩], [⟨b11, [chV b10 b6 b4 b5 b11], 73⟩], q21] := hS18.leave hR18 hm18
    have hm18 := MLe.weakX hS18 hm18
    refine q_x (v := s20.v) hF hS (ex_assign rfl) rfl rfl fun a hF => q_end (n_sq (q_seq (q_region (q_x (v := s20.v) hF hS (ex_move rfl) rfl rfl fun a hF => q_x (v := (.int .i64 (goLen t_19.1))) hF hS (ex_len Try.underlying24 rfl h20.len) rfl rfl fun a hF => q_x (v := s13.v) hF hS (ex_move rfl) rfl rfl fun a hF => q_x (v := (.int .i64 (goLen best_12))) hF hS (ex_len Try.underlying24 rfl (h13.mono hm18.le).len) rfl rfl fun a hF => q_x (v := (.bool (decide ((goLen best_12) < (goLen t_19.1))))) hF hS (ex_ibin rfl rfl rfl) rfl rfl fun a hF => q_end (n_sq ?_)))))
    obtain ⟨best_22, hj4, hb2⟩ := bindS hb2
    refine q_join (fun a w => ∃ (s23 : Sl), Fr a 39 [(3, (.pointer (some ⟨b4, 0, none⟩))), (4, (.pointer (some ⟨b5, 0, none⟩))), (5, (.pointer (some ⟨b6, 0, none⟩))), (8, (.pointer (some ⟨b10, 0, none⟩))), (9, (.pointer (some ⟨b11, 0, none⟩))), (10, s23.v), (23, (.int .i64 (goLen p_l))), (24, (.int .i64 t_14))] ∧ St [] w0 w m18' [q21, [⟨b10, [s21.v], 46⟩], [⟨b6, [s3.v], 37⟩], [⟨b4, [s1.v], 26⟩], [⟨b5, [s2.v], 27⟩], [⟨b11, [chV b10 b6 b4 b5 b11], 73⟩]] ∧ Rd m18' s23 best_22) ?_ ?_
    ·rcases bcase (decide ((goLen best_12) < (goLen t_19.1))) with hc5 | hc5
     ·have hj4 := cond_f hc5 hj4
      refine q_cond_f hF rfl hc5 (q_skipc (n_jn ?_))
      obtain rfl := someI hj4
      exact ⟨s13, hF.sub ⟨rfl, rfl, rfl, rfl, rfl, rfl, rfl, rfl, trivial⟩, hS.sel [5, 0, 1, 2, 3, 4] (by decide), (h13.mono hm18.le)⟩
     ·have hj4 := cond_t hc5 hj4
      refine q_cond_t hF rfl hc5 (q_region (q_x (v := s20.v) hF hS (ex_move rfl) rfl rfl fun a hF => q_x (v := s20.v) hF hS (ex_assign rfl) rfl rfl fun a hF => q_end (n_jn ?_)))
      obtain rfl := someI hj4
      exact ⟨s20, hF.sub ⟨rfl, rfl, rfl, rfl, rfl, rfl, rfl, rfl, trivial⟩, hS.sel [5, 0, 1, 2, 3, 4] (by decide), h20⟩
    ·rintro a w ⟨s23, hF, hS, h23⟩
     refine n_ib (n_sq ?_)
     refine q_region (q_x (v := (.int .i64 (w64 (t_14 + 1)))) hF hS (ex_ibin rfl rfl rfl) rfl rfl fun a hF => q_x (v := (.int .i64 (w64 (t_14 + 1)))) hF hS (ex_move rfl) rfl rfl fun a hF => q_end ?_)
     obtain rfl := someI hb2
     exact ⟨rfl, m18', s23, q21, s21, _, _, _, rfl, hF.sub ⟨rfl, rfl, rfl, rfl, rfl, rfl, rfl, rfl, trivial⟩, hS.sel [0, 5, 1, 2, 4, 3] (by decide), (hm17.trans hm18), h23, h21⟩
  ·rintro e a w ⟨m26, s25, rfl, hF, hS, hm26, h25⟩
   refine x_ib (n_sq ?_)
   refine q_seq (q_region (q_x (v := s25.v) hF hS (ex_move rfl) rfl rfl fun a hF => ?_))
   obtain ⟨t_27, ht_27, hr⟩ := bindS hr
   refine q_call (vs := [s25.v]) hF hS Try.func49 (by kernel_rfl) rfl rfl rfl (c_slices_Clone_int_int best_24 t_27 ht_27 _ m26 hS.vis s25 h25) ?_
   rintro a w _ ⟨q29, s29, rfl, hR28, h29⟩ hF hS2
   have hS : St _ _ _ _ [q29] := hS.joinF hR28
   refine q_x (v := s29.v) hF hS (ex_assign rfl) rfl rfl fun a hF => q_x (v := (.bool true)) hF hS (ex_assign rfl) rfl rfl fun a hF => q_end (n_sq (q_ret ?_))
   obtain rfl := someI hr
   exact ret_of hF hS rfl (.tmp rfl (.tmp rfl .nil)) ⟨m26, q29, s29, rfl, hm26, hS.sel [0] (by decide), h29⟩
 ·have hr := cond_t hc1 hr
  refine q_cond_t hF rfl hc1 (q_seq (q_region (q_x (v := nilS.v) hF hS (ex_assign rfl) rfl rfl fun a hF => q_x (v := (.bool false)) hF hS (ex_assign rfl) rfl rfl fun a hF => q_end (n_sq (q_ret (r_sq ?_))))))
  obtain rfl := someI hr
  exact ret_of hF hS rfl (.tmp rfl (.tmp rfl .nil)) ⟨m, [], nilS, rfl, (MLe.refl _ _), hS.sel [3] (by decide), (OwnL.nil (α := Int) m 3)⟩

theorem c_spec_l1Most (p_a : Int) (p_b : Int) (r : Int) (hr : spec_l1Most p_a p_b = some r) (w0 : World) (m : Mem) (hv : Vis m w0) :
  Ret Try.prog 51 [(.int .i64 p_a), (.int .i64 p_b)] w0 (fun v _ => v = (.int .i64 r)) := by
 unfold spec_l1Most at hr
 refine ret_start Try.func51 rfl 10 rfl rfl m hv fun a hF hS => q_seq (q_region (q_x (v := (.int .i64 0)) hF hS (ex_assign rfl) rfl rfl fun a hF => q_end (n_sq (q_seq (q_seq (q_region (q_x (v := (.int .i64 p_a)) hF hS (ex_move rfl) rfl rfl fun a hF => q_x (v := (.int .i64 p_b)) hF hS (ex_move rfl) rfl rfl fun a hF => q_x (v := (.bool (decide (p_b < p_a)))) hF hS (ex_ibin rfl rfl rfl) rfl rfl fun a hF => q_end (n_sq ?_))))))))
 rcases bcase (decide (p_b < p_a)) with hc1 | hc1
 ·have hr := cond_f hc1 hr
  refine q_cond_f hF rfl hc1 (q_skipc (n_sq (q_seq (q_region (q_x (v := (.int .i64 p_b)) hF hS (ex_move rfl) rfl rfl fun a hF => q_x (v := (.int .i64 p_b)) hF hS (ex_assign rfl) rfl rfl fun a hF => q_end (n_sq (q_ret ?_)))))))
  obtain rfl := someI hr
  exact ret_of hF hS rfl (.tmp rfl .nil) rfl
 ·have hr := cond_t hc1 hr
  refine q_cond_t hF rfl hc1 (q_seq (q_region (q_x (v := (.int .i64 p_a)) hF hS (ex_move rfl) rfl rfl fun a hF => q_x (v := (.int .i64 p_a)) hF hS (ex_assign rfl) rfl rfl fun a hF => q_end (n_sq (q_ret (r_sq ?_))))))
  obtain rfl := someI hr
  exact ret_of hF hS rfl (.tmp rfl .nil) rfl

theorem c_spec_lLess (p_g : impl_Geo) (p_s : List impl_Variable) (p_t : impl_Table) (p_u : impl_Table) (r : Bool) (hr : spec_lLess p_g p_s p_t p_u = some r) (w0 : World) (m : Mem) (hv : Vis m w0) (s1 : Sl) (h1 : Rd m s1 p_g.Parents) (s2 : Sl) (h2 : Rd m s2 p_s) (s3 : Sl) (h3 : Rd m s3 p_t.Vars) (s4 : Sl) (h4 : Rd m s4 p_t.Where) (s5 : Sl) (h5 : Rd m s5 p_u.Vars) (s6 : Sl) (h6 : Rd m s6 p_u.Where) :
  Ret Try.prog 52 [(.agg #[s1.v]), s2.v, (.agg #[(.int .i64 p_t.Level), s3.v, s4.v, (.int .i64 p_t.Sum)]), (.agg #[(.int .i64 p_u.Level), s5.v, s6.v, (.int .i64 p_u.Sum)])] w0 (fun v _ => v = (.bool r)) := by
 unfold spec_lLess at hr
 refine ret_start Try.func52 rfl 22 rfl rfl m hv fun a hF hS => q_seq (q_region (q_box (cs := [s1.v]) hF hS rfl rfl rfl fun a w b7 hF hS => q_box (cs := [(.int .i64 p_t.Level), s3.v, s4.v, (.int .i64 p_t.Sum)]) hF hS rfl rfl rfl fun a w b8 hF hS => q_box (cs := [(.int .i64 p_u.Level), s5.v, s6.v, (.int .i64 p_u.Sum)]) hF hS rfl rfl rfl fun a w b9 hF hS => q_x (v := (.bool false)) hF hS (ex_assign rfl) rfl rfl fun a hF => q_end (n_sq (q_seq ?_))))
 obtain ⟨t_12, hj1, hr⟩ := bindS hr
 refine q_join (fun a w => Fr a 22 [(8, (.bool t_12))] ∧ St [] w0 w m []) ?_ ?_
 ·refine q_region (q_x (v := (.agg #[s1.v])) hF hS (ex_loadA (vs := [s1.v]) 2 0 Try.underlying26 rfl sz26 rfl rfl rfl rfl) rfl rfl fun a hF => q_x (v := s2.v) hF hS (ex_move rfl) rfl rfl fun a hF => q_x (v := (.agg #[(.int .i64 p_t.Level), s3.v, s4.v, (.int .i64 p_t.Sum)])) hF hS (ex_loadA (vs := [(.int .i64 p_t.Level), s3.v, s4.v, (.int .i64 p_t.Sum)]) 1 0 Try.underlying29 rfl sz29 rfl rfl rfl rfl) rfl rfl fun a hF => q_x (v := (.agg #[(.int .i64 p_u.Level), s5.v, s6.v, (.int .i64 p_u.Sum)])) hF hS (ex_loadA (vs := [(.int .i64 p_u.Level), s5.v, s6.v, (.int .i64 p_u.Sum)]) 0 0 Try.underlying29 rfl sz29 rfl rfl rfl rfl) rfl rfl fun a hF => ?_)
  obtain ⟨t_10, ht_10, hj1⟩ := bindS hj1
  refine q_call (vs := [(.agg #[s1.v]), s2.v, (.agg #[(.int .i64 p_t.Level), s3.v, s4.v, (.int .i64 p_t.Sum)]), (.agg #[(.int .i64 p_u.Level), s5.v, s6.v, (.int .i64 p_u.Sum)])]) hF hS Try.func37 (by kernel_rfl) rfl rfl rfl (c_spec_lFollows p_g p_s p_t p_u t_10 ht_10 _ m hS.vis s1 h1 s2 h2 s3 h3 s4 h4 s5 h5 s6 h6) ?_
  rintro a w _ rfl hF hS
  refine q_x (v := (.bool t_10)) hF hS (ex_move rfl) rfl rfl fun a hF => ?_
  rcases bcase (t_10) with hc2 | hc2
  ·have hj1 := cond_f hc2 hj1
   refine q_skip hF (wanted_f hF rfl rfl rfl hc2 rfl) rfl fun a hF => q_skip hF (wanted_f hF rfl rfl rfl hc2 rfl) rfl fun a hF => q_skip hF (wanted_f hF rfl rfl rfl hc2 rfl) rfl fun a hF => q_skip hF (wanted_f hF rfl rfl rfl hc2 rfl) rfl fun a hF => q_skip hF (wanted_f hF rfl rfl rfl hc2 rfl) rfl fun a hF => q_skip hF (wanted_f hF rfl rfl rfl hc2 rfl) rfl fun a hF => q_x (v := (.bool false)) hF hS (ex_pick_f rfl rfl hc2) rfl rfl fun a hF => q_x (v := (.bool false)) hF hS (ex_assign rfl) rfl rfl fun a hF => q_end (n_jn ?_)
   obtain rfl := someI hj1
   exact ⟨hF.sub ⟨rfl, trivial⟩, hS.mask [false, false, false]⟩
  ·have hj1 := cond_t hc2 hj1
   refine q_xg (v := (.agg #[s1.v])) hF hS (ex_loadA (vs := [s1.v]) 2 0 Try.underlying26 rfl sz26 rfl rfl rfl rfl) (wanted_t hF rfl rfl rfl hc2) rfl fun a hF => q_xg (v := s2.v) hF hS (ex_move rfl) (wanted_t hF rfl rfl rfl hc2) rfl fun a hF => q_xg (v := (.agg #[(.int .i64 p_u.Level), s5.v, s6.v, (.int .i64 p_u.Sum)])) hF hS (ex_loadA (vs := [(.int .i64 p_u.Level), s5.v, s6.v, (.int .i64 p_u.Sum)]) 0 0 Try.underlying29 rfl sz29 rfl rfl rfl rfl) (wanted_t hF rfl rfl rfl hc2) rfl fun a hF => q_xg (v := (.agg #[(.int .i64 p_t.Level), s3.v, s4.v, (.int .i64 p_t.Sum)])) hF hS (ex_loadA (vs := [(.int .i64 p_t.Level), s3.v, s4.v, (.int .i64 p_t.Sum)]) 1 0 Try.underlying29 rfl sz29 rfl rfl rfl rfl) (wanted_t hF rfl rfl rfl hc2) rfl fun a hF => ?_
   obtain ⟨t_11, ht_11, hj1⟩ := bindS hj1
   refine q_callg (vs := [(.agg #[s1.v]), s2.v, (.agg #[(.int .i64 p_u.Level), s5.v, s6.v, (.int .i64 p_u.Sum)]), (.agg #[(.int .i64 p_t.Level), s3.v, s4.v, (.int .i64 p_t.Sum)])]) hF hS (wanted_t hF rfl rfl rfl hc2) Try.func37 (by kernel_rfl) rfl rfl rfl (c_spec_lFollows p_g p_s p_u p_t t_11 ht_11 _ m hS.vis s1 h1 s2 h2 s5 h5 s6 h6 s3 h3 s4 h4) ?_
   rintro a w _ rfl hF hS
   refine q_xg (v := (.bool (!t_11))) hF hS (ex_not rfl) (wanted_t hF rfl rfl rfl hc2) rfl fun a hF => q_x (v := (.bool (!t_11))) hF hS (ex_pick_t rfl rfl hc2) rfl rfl fun a hF => q_x (v := (.bool (!t_11))) hF hS (ex_assign rfl) rfl rfl fun a hF => q_end (n_jn ?_)
   obtain rfl := someI hj1
   exact ⟨hF.sub ⟨rfl, trivial⟩, hS.mask [false, false, false]⟩
 ·rintro a w ⟨hF, hS⟩
  refine n_sq (q_ret ?_)
  obtain rfl := someI hr
  exact ret_of hF hS rfl (.tmp rfl .nil) rfl

theorem c_spec_lHeights (p_g : impl_Geo) (p_s : List impl_Variable) (p_l : List impl_Table) (r : (List Int)) (hr : spec_lHeights p_g p_s p_l = some r) (w0 : World) (m : Mem) (hv : Vis m w0) (s1 : Sl) (h1 : Rd m s1 p_g.Parents) (s2 : Sl) (h2 : Rd m s2 p_s) (s3 : Sl) (h3 : Rd m s3 p_l) :
  Ret Try.prog 50 [(.agg #[s1.v]), s2.v, s3.v] w0 (fun v w => ∃ (q0' : Piece) (s0' : Sl), v = s0'.v ∧ St [] w0 w m [q0'] ∧ OwnL m 3 q0' s0' r) := by
 unfold spec_lHeights at hr
 refine ret_start Try.func50 rfl 63 rfl rfl m hv fun a hF hS => q_seq (q_region (q_box (cs := [s1.v]) hF hS rfl rfl rfl fun a w b4 hF hS => q_x (v := nilS.v) hF hS (ex_assign rfl) rfl rfl fun a hF => q_end (n_sq (q_seq (q_region (q_x (v := s3.v) hF hS (ex_move rfl) rfl rfl fun a hF => q_x (v := (.int .i64 (goLen p_l))) hF hS (ex_len Try.underlying37 rfl h3.len) rfl rfl fun a hF => ?_))))))
 obtain ⟨l_5, hl_5, hr⟩ := bindS hr
 refine q_do rfl fun _ hK => wp_make (z := (0 : Int)) hF hS Try.underlying24 inf3 rfl rfl rfl rfl rfl (by decide) hl_5 rfl fun a w q6 s6 hF hS h6 _ => hK _ _ (q_x (v := s6.v) hF hS (ex_assign rfl) rfl rfl fun a hF => q_end (n_sq (q_seq (q_seq (q_region (q_x (v := s3.v) hF hS (ex_move rfl) rfl rfl fun a hF => q_x (v := (.int .i64 (goLen p_l))) hF hS (ex_len Try.underlying37 rfl h3.len) rfl rfl fun a hF => q_x (v := (.int .i64 0)) hF hS (ex_move rfl) rfl rfl fun a hF => q_end (n_sq (q_block ?_))))))))
 obtain ⟨out_47, hl1, hr⟩ := bindS hr
 refine q_loop (fun (s : (List Int) × Int) a w => ∃ (q8 : Piece), ∃ out_7, ∃ t_9, s = (out_7, t_9) ∧ Fr a 63 [(1, s2.v), (2, s3.v), (3, (.pointer (some ⟨b4, 0, none⟩))), (7, s6.v), (16, (.int .i64 (goLen p_l))), (17, (.int .i64 t_9))] ∧ St [] w0 w m [q8, [⟨b4, [s1.v], 26⟩]] ∧ OwnL m 3 q8 s6 out_7) (fun (out_47 : (List Int)) e a w => ∃ (q48 : Piece), e = .exit 0 ∧ Fr a 63 [(7, s6.v)] ∧ St [] w0 w m [q48] ∧ OwnL m 3 q48 s6 out_47) hl1 ⟨q6, _, _, rfl, hF.sub ⟨rfl, rfl, rfl, rfl, rfl, rfl, trivial⟩, hS, h6⟩ ?_ ?_
 ·clear hF hS
  rintro s a w st ⟨q8, out_7, t_9, rfl, hF, hS, h8⟩ hb1
  unfold spec_lHeights_l1 at hb1
  refine q_seq (q_region (q_x (v := (.bool (decide (t_9 < (goLen p_l))))) hF hS (ex_ibin rfl rfl rfl) rfl rfl fun a hF => q_end (n_sq (q_seq ?_))))
  rcases bcase (decide (t_9 < (goLen p_l))) with hc2 | hc2
  ·have hb1 := cond_f hc2 hb1
   refine q_cond_f hF rfl hc2 (q_exit (x_sq ?_))
   obtain rfl := someI hb1
   exact ⟨nofun, .inl ⟨q8, rfl, hF.sub ⟨rfl, trivial⟩, hS.mask [true, false], h8⟩⟩
  ·have hb1 := cond_t hc2 hb1
   refine q_cond_t hF rfl hc2 (q_skipc (n_sq (q_seq (q_block (q_seq (q_region (q_x (v := s3.v) hF hS (ex_move rfl) rfl rfl fun a hF => q_x (v := (.int .i64 (goLen p_l))) hF hS (ex_len Try.underlying37 rfl h3.len) rfl rfl fun a hF => q_x (v := (.int .i64 0)) hF hS (ex_move rfl) rfl rfl fun a hF => q_end (n_sq (q_block ?_)))))))))
   obtain ⟨out_45, hl3, hb1⟩ := bindS hb1
   refine q_loop (fun (s : (List Int) × Int) a w => ∃ (q11 : Piece), ∃ out_10, ∃ t_12, s = (out_10, t_12) ∧ Fr a 63 [(1, s2.v), (2, s3.v), (3, (.pointer (some ⟨b4, 0, none⟩))), (7, s6.v), (16, (.int .i64 (goLen p_l))), (17, (.int .i64 t_9)), (19, s3.v), (20, (.int .i64 (goLen p_l))), (21, (.int .i64 t_12))] ∧ St [] w0 w m [q11, [⟨b4, [s1.v], 26⟩]] ∧ OwnL m 3 q11 s6 out_10) (fun (out_45 : (List Int)) e a w => ∃ (q46 : Piece), e = .exit 2 ∧ Fr a 63 [(1, s2.v), (2, s3.v), (3, (.pointer (some ⟨b4, 0, none⟩))), (7, s6.v), (16, (.int .i64 (goLen p_l))), (17, (.int .i64 t_9))] ∧ St [] w0 w m [q46, [⟨b4, [s1.v], 26⟩]] ∧ OwnL m 3 q46 s6 out_45) hl3 ⟨q8, _, _, rfl, hF.sub ⟨rfl, rfl, rfl, rfl, rfl, rfl, rfl, rfl, rfl, trivial⟩, hS, h8⟩ ?_ ?_
   ·clear hF hS
    rintro s a w st ⟨q11, out_10, t_12, rfl, hF, hS, h11⟩ hb3
    unfold spec_lHeights_l2 at hb3
    refine q_seq (q_region (q_x (v := (.bool (decide (t_12 < (goLen p_l))))) hF hS (ex_ibin rfl rfl rfl) rfl rfl fun a hF => q_end (n_sq (q_seq ?_))))
    rcases bcase (decide (t_12 < (goLen p_l))) with hc4 | hc4
    ·have hb3 := cond_f hc4 hb3
     refine q_cond_f hF rfl hc4 (q_exit (x_sq ?_))
     obtain rfl := someI hb3
     exact ⟨nofun, .inl ⟨q11, rfl, hF.sub ⟨rfl, rfl, rfl, rfl, rfl, rfl, trivial⟩, hS, h11⟩⟩
    ·have hb3 := cond_t hc4 hb3
     refine q_cond_t hF rfl hc4 (q_skipc (n_sq (q_seq (q_block (q_seq (q_region (q_x (v := (.int .i64 t_12)) hF hS (ex_move rfl) rfl rfl fun a hF => ?_)))))))
     obtain ⟨e_13, he_13, hb3⟩ := bindS hb3
     obtain ⟨vs14, at14, d14⟩ := h3.at he_13 4 rfl
     obtain ⟨s15, s16, rfl, h15, h16⟩ : ∃ s15 s16 : Sl, vs14 = [(.int .i64 e_13.Level), s15.v, s16.v, (.int .i64 e_13.Sum)] ∧ Rd m s15 e_13.Vars ∧ Rd m s16 e_13.Where := d14
     refine q_x (v := (elP s3 (t_12.toNat * 4))) hF hS (ex_indexAddr Try.underlying37 sz29 rfl rfl (h3.idx he_13)) rfl rfl fun a hF => q_x (v := (.agg #[(.int .i64 e_13.Level), s15.v, s16.v, (.int .i64 e_13.Sum)])) hF hS (ex_loadEA (us := [(.int .i64 e_13.Level), s15.v, s16.v, (.int .i64 e_13.Sum)]) 0 Try.underlying29 rfl sz29 rfl ((at14).at) rfl rfl rfl) rfl rfl fun a hF => q_alloc (cs := [(.int .i64 0), nilS.v, nilS.v, (.int .i64 0)]) hF hS rfl rfl rfl fun a w b17 hF hS => q_x (v := (.int .i64 t_12)) hF hS (ex_assign rfl) rfl rfl fun a hF => q_store (vs := [(.int .i64 e_13.Level), s15.v, s16.v, (.int .i64 e_13.Sum)]) (cs' := [(.int .i64 e_13.Level), s15.v, s16.v, (.int .i64 e_13.Sum)]) 0 0 hF hS sz29 rfl rfl rfl rfl rfl rfl rfl rfl fun a w hF hS => q_end (n_sq (q_seq (q_region (q_x (v := s6.v) hF hS (ex_move rfl) rfl rfl fun a hF => q_x (v := (.int .i64 t_12)) hF hS (ex_move rfl) rfl rfl fun a hF => q_x (v := s6.v) hF hS (ex_move rfl) rfl rfl fun a hF => q_x (v := (.int .i64 t_12)) hF hS (ex_move rfl) rfl rfl fun a hF => ?_))))
     obtain ⟨e_18, he_18, hb3⟩ := bindS hb3
     obtain ⟨vs19, at19, d19⟩ := h11.at he_18 1 rfl
     obtain rfl : vs19 = [(.int .i64 e_18)] := d19
     refine q_x (v := (elP s6 (t_12.toNat * 1))) hF hS (ex_indexAddr Try.underlying24 sz3 rfl rfl (h11.idx he_18)) rfl rfl fun a hF => q_x (v := (.int .i64 e_18)) hF hS (ex_loadE1 0 Try.underlying3 rfl rfl (at19.at 1 rfl) rfl rfl) rfl rfl fun a hF => ?_
     obtain ⟨t_20, ht_20, hb3⟩ := bindS hb3
     refine q_call (vs := [(.int .i64 e_18), (.int .i64 1)]) hF hS Try.func51 (by kernel_rfl) rfl rfl rfl (c_spec_l1Most e_18 1 t_20 ht_20 _ m hS.vis) ?_
     rintro a w _ rfl hF hS
     obtain ⟨e_21, he_21, hb3⟩ := bindS hb3
     obtain ⟨vs22, at22, d22⟩ := h11.at he_21 1 rfl
     obtain rfl : vs22 = [(.int .i64 e_21)] := d22
     refine q_x (v := (elP s6 (t_12.toNat * 1))) hF hS (ex_indexAddr Try.underlying24 sz3 rfl rfl (h11.idx he_21)) rfl rfl fun a hF => ?_
     have hS : St _ _ _ _ [q11, [⟨b17, [(.int .i64 e_13.Level), s15.v, s16.v, (.int .i64 e_13.Sum)], 29⟩], [⟨b4, [s1.v], 26⟩]] := hS.sel [1, 0, 2] (by decide)
     refine q_do rfl fun _ hK => wp_storeE (e' := t_20) (us := [(.int .i64 t_20)]) (vs := [(.int .i64 e_21)]) 0 hF hS h11 sz3 rfl rfl rfl rfl rfl rfl rfl he_21 at22 rfl rfl rfl fun w q23 hS h23 => hK _ _ (q_end (n_sq (q_seq (q_region (q_x (v := s3.v) hF hS (ex_move rfl) rfl rfl fun a hF => q_x (v := (.int .i64 (goLen p_l))) hF hS (ex_len Try.underlying37 rfl h3.len) rfl rfl fun a hF => q_x (v := (.int .i64 0)) hF hS (ex_move rfl) rfl rfl fun a hF => q_end (n_sq (q_block ?_)))))))
     obtain ⟨out_43, hl5, hb3⟩ := bindS hb3
     refine q_loop (fun (s : (List Int) × Int) a w => ∃ (q25 : Piece), ∃ out_24, ∃ t_26, s = (out_24, t_26) ∧ Fr a 63 [(1, s2.v), (2, s3.v), (3, (.pointer (some ⟨b4, 0, none⟩))), (7, s6.v), (8, (.int .i64 t_12)), (9, (.pointer (some ⟨b17, 0, none⟩))), (16, (.int .i64 (goLen p_l))), (17, (.int .i64 t_9)), (19, s3.v), (20, (.int .i64 (goLen p_l))), (21, (.int .i64 t_12)), (34, s3.v), (35, (.int .i64 (goLen p_l))), (36, (.int .i64 t_26))] ∧ St [] w0 w m [q25, [⟨b17, [(.int .i64 e_13.Level), s15.v, s16.v, (.int .i64 e_13.Sum)], 29⟩], [⟨b4, [s1.v], 26⟩]] ∧ OwnL m 3 q25 s6 out_24) (fun (out_43 : (List Int)) e a w => ∃ (q44 : Piece), e = .exit 4 ∧ Fr a 63 [(1, s2.v), (2, s3.v), (3, (.pointer (some ⟨b4, 0, none⟩))), (7, s6.v), (16, (.int .i64 (goLen p_l))), (17, (.int .i64 t_9)), (19, s3.v), (20, (.int .i64 (goLen p_l))), (21, (.int .i64 t_12))] ∧ St [] w0 w m [q44, [⟨b4, [s1.v], 26⟩]] ∧ OwnL m 3 q44 s6 out_43) hl5 ⟨q23, _, _, rfl, hF.sub ⟨rfl, rfl, rfl, rfl, rfl, rfl, rfl, rfl, rfl, rfl, rfl, rfl, rfl, rfl, trivial⟩, hS, h23⟩ ?_ ?_
     ·clear hF hS
      rintro s a w st ⟨q25, out_24, t_26, rfl, hF, hS, h25⟩ hb5
      unfold spec_lHeights_l3 at hb5
      refine q_seq (q_region (q_x (v := (.bool (decide (t_26 < (goLen p_l))))) hF hS (ex_ibin rfl rfl rfl) rfl rfl fun a hF => q_end (n_sq (q_seq ?_))))
      rcases bcase (decide (t_26 < (goLen p_l))) with hc6 | hc6
      ·have hb5 := cond_f hc6 hb5
       refine q_cond_f hF rfl hc6 (q_exit (x_sq ?_))
       obtain rfl := someI hb5
       exact ⟨nofun, .inl ⟨q25, rfl, hF.sub ⟨rfl, rfl, rfl, rfl, rfl, rfl, rfl, rfl, rfl, trivial⟩, hS.mask [true, false, true], h25⟩⟩
      ·have hb5 := cond_t hc6 hb5
       refine q_cond_t hF rfl hc6 (q_skipc (n_sq (q_seq (q_block (q_seq (q_region (q_x (v := (.int .i64 t_26)) hF hS (ex_move rfl) rfl rfl fun a hF => ?_)))))))
       obtain ⟨e_27, he_27, hb5⟩ := bindS hb5
       obtain ⟨vs28, at28, d28⟩ := h3.at he_27 4 rfl
       obtain ⟨s29, s30, rfl, h29, h30⟩ : ∃ s29 s30 : Sl, vs28 = [(.int .i64 e_27.Level), s29.v, s30.v, (.int .i64 e_27.Sum)] ∧ Rd m s29 e_27.Vars ∧ Rd m s30 e_27.Where := d28
       refine q_x (v := (elP s3 (t_26.toNat * 4))) hF hS (ex_indexAddr Try.underlying37 sz29 rfl rfl (h3.idx he_27)) rfl rfl fun a hF => q_x (v := (.agg #[(.int .i64 e_27.Level), s29.v, s30.v, (.int .i64 e_27.Sum)])) hF hS (ex_loadEA (us := [(.int .i64 e_27.Level), s29.v, s30.v, (.int .i64 e_27.Sum)]) 0 Try.underlying29 rfl sz29 rfl ((at28).at) rfl rfl rfl) rfl rfl fun a hF => q_alloc (cs := [(.int .i64 0), nilS.v, nilS.v, (.int .i64 0)]) hF hS rfl rfl rfl fun a w b31 hF hS => q_x (v := (.int .i64 t_26)) hF hS (ex_assign rfl) rfl rfl fun a hF => q_store (vs := [(.int .i64 e_27.Level), s29.v, s30.v, (.int .i64 e_27.Sum)]) (cs' := [(.int .i64 e_27.Level), s29.v, s30.v, (.int .i64 e_27.Sum)]) 0 0 hF hS sz29 rfl rfl rfl rfl rfl rfl rfl rfl fun a w hF hS => q_end (n_sq (q_seq (q_region (q_x (v := (.agg #[s1.v])) hF hS (ex_loadA (vs := [s1.v]) 3 0 Try.underlying26 rfl sz26 rfl rfl rfl rfl) rfl rfl fun a hF => q_x (v := s2.v) hF hS (ex_move rfl) rfl rfl fun a hF => q_x (v := (.agg #[(.int .i64 e_27.Level), s29.v, s30.v, (.int .i64 e_27.Sum)])) hF hS (ex_loadA (vs := [(.int .i64 e_27.Level), s29.v, s30.v, (.int .i64 e_27.Sum)]) 0 0 Try.underlying29 rfl sz29 rfl rfl rfl rfl) rfl rfl fun a hF => q_x (v := (.agg #[(.int .i64 e_13.Level), s15.v, s16.v, (.int .i64 e_13.Sum)])) hF hS (ex_loadA (vs := [(.int .i64 e_13.Level), s15.v, s16.v, (.int .i64 e_13.Sum)]) 2 0 Try.underlying29 rfl sz29 rfl rfl rfl rfl) rfl rfl fun a hF => ?_))))
       obtain ⟨t_32, ht_32, hb5⟩ := bindS hb5
       refine q_call (vs := [(.agg #[s1.v]), s2.v, (.agg #[(.int .i64 e_27.Level), s29.v, s30.v, (.int .i64 e_27.Sum)]), (.agg #[(.int .i64 e_13.Level), s15.v, s16.v, (.int .i64 e_13.Sum)])]) hF hS Try.func52 (by kernel_rfl) rfl rfl rfl (c_spec_lLess p_g p_s e_27 e_13 t_32 ht_32 _ m hS.vis s1 h1 s2 h2 s29 h29 s30 h30 s15 h15 s16 h16) ?_
       rintro a w _ rfl hF hS
       refine q_end (n_sq ?_)
       obtain ⟨out_41, hj7, hb5⟩ := bindS hb5
       refine q_join (fun a w => ∃ (q42 : Piece), Fr a 63 [(1, s2.v), (2, s3.v), (3, (.pointer (some ⟨b4, 0, none⟩))), (7, s6.v), (8, (.int .i64 t_12)), (9, (.pointer (some ⟨b17, 0, none⟩))), (16, (.int .i64 (goLen p_l))), (17, (.int .i64 t_9)), (19, s3.v), (20, (.int .i64 (goLen p_l))), (21, (.int .i64 t_12)), (34, s3.v), (35, (.int .i64 (goLen p_l))), (36, (.int .i64 t_26))] ∧ St [] w0 w m [q42, [⟨b17, [(.int .i64 e_13.Level), s15.v, s16.v, (.int .i64 e_13.Sum)], 29⟩], [⟨b4, [s1.v], 26⟩]] ∧ OwnL m 3 q42 s6 out_41) ?_ ?_
       ·rcases bcase (t_32) with hc8 | hc8
        ·have hj7 := cond_f hc8 hj7
         refine q_cond_f hF rfl hc8 (q_skipc (n_jn ?_))
         obtain rfl := someI hj7
         exact ⟨q25, hF.sub ⟨rfl, rfl, rfl, rfl, rfl, rfl, rfl, rfl, rfl, rfl, rfl, rfl, rfl, rfl, trivial⟩, hS.mask [false, true, true, true], h25⟩
        ·have hj7 := cond_t hc8 hj7
         refine q_cond_t hF rfl hc8 (e_region ⟨[13], []⟩ mixed fun w' hw' => ?_)
         have hS := hS.below hw'
         refine e_p (v := s6.v) 0 hF rfl (ex_move rfl) rfl rfl (by kernel_rfl) (by kernel_rfl) (by kernel_rfl) fun a hF => e_p (v := (.int .i64 t_12)) 1 hF rfl (ex_move rfl) rfl rfl (by kernel_rfl) (by kernel_rfl) (by kernel_rfl) fun a hF => e_p (v := s6.v) 2 hF rfl (ex_move rfl) rfl rfl (by kernel_rfl) (by kernel_rfl) (by kernel_rfl) fun a hF => e_p (v := (.int .i64 t_12)) 3 hF rfl (ex_move rfl) rfl rfl (by kernel_rfl) (by kernel_rfl) (by kernel_rfl) fun a hF => ?_
         obtain ⟨e_33, he_33, hj7⟩ := bindS hj7
         obtain ⟨vs34, at34, d34⟩ := h25.at he_33 1 rfl
         obtain rfl : vs34 = [(.int .i64 e_33)] := d34
         refine e_p (v := (elP s6 (t_12.toNat * 1))) 4 hF rfl (ex_indexAddr Try.underlying24 sz3 rfl rfl (h25.idx he_33)) rfl rfl (by kernel_rfl) (by kernel_rfl) (by kernel_rfl) fun a hF => e_x (v := (.int .i64 e_33)) 5 hF hS rfl (ex_loadE1 0 Try.underlying3 rfl rfl (at34.at 1 rfl) rfl rfl) rfl rfl (by kernel_rfl) (by kernel_rfl) (by kernel_rfl) (by kernel_rfl) fun a hF => e_p (v := s6.v) 6 hF rfl (ex_move rfl) rfl rfl (by kernel_rfl) (by kernel_rfl) (by kernel_rfl) fun a hF => e_p (v := (.int .i64 t_26)) 7 hF rfl (ex_move rfl) rfl rfl (by kernel_rfl) (by kernel_rfl) (by kernel_rfl) fun a hF => ?_
         obtain ⟨e_35, he_35, hj7⟩ := bindS hj7
         obtain ⟨vs36, at36, d36⟩ := h25.at he_35 1 rfl
         obtain rfl : vs36 = [(.int .i64 e_35)] := d36
         refine e_p (v := (elP s6 (t_26.toNat * 1))) 8 hF rfl (ex_indexAddr Try.underlying24 sz3 rfl rfl (h25.idx he_35)) rfl rfl (by kernel_rfl) (by kernel_rfl) (by kernel_rfl) fun a hF => e_x (v := (.int .i64 e_35)) 9 hF hS rfl (ex_loadE1 0 Try.underlying3 rfl rfl (at36.at 1 rfl) rfl rfl) rfl rfl (by kernel_rfl) (by kernel_rfl) (by kernel_rfl) (by kernel_rfl) fun a hF => e_p (v := (.int .i64 (w64 (e_35 + 1)))) 10 hF rfl (ex_ibin rfl rfl rfl) rfl rfl (by kernel_rfl) (by kernel_rfl) (by kernel_rfl) fun a hF => e_one 11 (by kernel_rfl) ?_
         obtain ⟨t_37, ht_37, hj7⟩ := bindS hj7
         refine e_call (vs := [(.int .i64 e_33), (.int .i64 (w64 (e_35 + 1)))]) hF hS rfl Try.func51 (by kernel_rfl) rfl rfl rfl (c_spec_l1Most e_33 (w64 (e_35 + 1)) t_37 ht_37 _ m hS.vis) ?_
         rintro a w _ rfl hF hS
         obtain ⟨e_38, he_38, hj7⟩ := bindS hj7
         obtain ⟨vs39, at39, d39⟩ := h25.at he_38 1 rfl
         obtain rfl : vs39 = [(.int .i64 e_38)] := d39
         refine e_p (v := (elP s6 (t_12.toNat * 1))) 12 hF rfl (ex_indexAddr Try.underlying24 sz3 rfl rfl (h25.idx he_38)) rfl rfl (by kernel_rfl) (by kernel_rfl) (by kernel_rfl) fun a hF => e_one 13 (by kernel_rfl) ?_
         have hS : St _ _ _ _ [q25, [⟨b31, [(.int .i64 e_27.Level), s29.v, s30.v, (.int .i64 e_27.Sum)], 29⟩], [⟨b17, [(.int .i64 e_13.Level), s15.v, s16.v, (.int .i64 e_13.Sum)], 29⟩], [⟨b4, [s1.v], 26⟩]] := hS.sel [1, 0, 2, 3] (by decide)
         refine e_opl rfl rfl rfl fun _ hK => wp_storeE (e' := t_37) (us := [(.int .i64 t_37)]) (vs := [(.int .i64 e_38)]) 0 hF hS h25 sz3 rfl rfl rfl rfl rfl rfl rfl he_38 at39 rfl rfl rfl fun w q40 hS h40 => hK _ _ (⟨kpN, ?_⟩)
         refine e_end (by kernel_rfl) (n_jn ?_) _
         obtain rfl := someI hj7
         exact ⟨q40, hF.sub ⟨rfl, rfl, rfl, rfl, rfl, rfl, rfl, rfl, rfl, rfl, rfl, rfl, rfl, rfl, trivial⟩, hS.mask [true, false, true, true], h40⟩
       ·rintro a w ⟨q42, hF, hS, h42⟩
        refine n_ib (n_sq ?_)
        refine q_region (q_x (v := (.int .i64 (w64 (t_26 + 1)))) hF hS (ex_ibin rfl rfl rfl) rfl rfl fun a hF => q_x (v := (.int .i64 (w64 (t_26 + 1)))) hF hS (ex_move rfl) rfl rfl fun a hF => q_end ?_)
        obtain rfl := someI hb5
        exact ⟨rfl, q42, _, _, rfl, hF.sub ⟨rfl, rfl, rfl, rfl, rfl, rfl, rfl, rfl, rfl, rfl, rfl, rfl, rfl, rfl, trivial⟩, hS, h42⟩
     ·rintro e a w ⟨q44, rfl, hF, hS, h44⟩
      refine x_ib (n_ib (n_sq ?_))
      refine q_region (q_x (v := (.int .i64 (w64 (t_12 + 1)))) hF hS (ex_ibin rfl rfl rfl) rfl rfl fun a hF => q_x (v := (.int .i64 (w64 (t_12 + 1)))) hF hS (ex_move rfl) rfl rfl fun a hF => q_end ?_)
      obtain rfl := someI hb3
      exact ⟨rfl, q44, _, _, rfl, hF.sub ⟨rfl, rfl, rfl, rfl, rfl, rfl, rfl, rfl, rfl, trivial⟩, hS, h44⟩
   ·rintro e a w ⟨q46, rfl, hF, hS, h46⟩
    refine x_ib (n_ib (n_sq ?_))
    refine q_region (q_x (v := (.int .i64 (w64 (t_9 + 1)))) hF hS (ex_ibin rfl rfl rfl) rfl rfl fun a hF => q_x (v := (.int .i64 (w64 (t_9 + 1)))) hF hS (ex_move rfl) rfl rfl fun a hF => q_end ?_)
    obtain rfl := someI hb1
    exact ⟨rfl, q46, _, _, rfl, hF.sub ⟨rfl, rfl, rfl, rfl, rfl, rfl, trivial⟩, hS, h46⟩
 ·rintro e a w ⟨q48, rfl, hF, hS, h48⟩
  refine x_ib (n_sq ?_)
  refine q_seq (q_region (q_x (v := s6.v) hF hS (ex_move rfl) rfl rfl fun a hF => q_x (v := s6.v) hF hS (ex_assign rfl) rfl rfl fun a hF => q_end (n_sq (q_ret ?_))))
  obtain rfl := someI hr
  exact ret_of hF hS rfl (.tmp rfl .nil) ⟨q48, s6, rfl, hS.sel [0] (by decide), h48⟩

theorem c_spec_LongestChain (p_g : impl_Geo) (p_s : List impl_Variable) (p_l : List impl_Table) (r : (List Int) × Bool) (hr : spec_LongestChain p_g p_s p_l = some r) (w0 : World) (m : Mem) (hv : Vis m w0) (s1 : Sl) (h1 : Rd m s1 p_g.Parents) (s2 : Sl) (h2 : Rd m s2 p_s) (s3 : Sl) (h3 : Rd m s3 p_l) :
  Ret Try.prog 24 [(.agg #[s1.v]), s2.v, s3.v] w0 (fun v w => ∃ (q0' : Piece) (s0' : Sl), v = (.tuple #[s0'.v, (.bool r.2)]) ∧ St [] w0 w m [q0'] ∧ OwnL m 3 q0' s0' r.1) := by
 unfold spec_LongestChain at hr
 refine ret_start Try.func24 rfl 77 rfl rfl m hv fun a hF hS => q_seq (q_region (q_box (cs := [s1.v]) hF hS rfl rfl rfl fun a w b4 hF hS => q_x (v := nilS.v) hF hS (ex_assign rfl) rfl rfl fun a hF => q_x (v := (.bool false)) hF hS (ex_assign rfl) rfl rfl fun a hF => q_end (n_sq (q_seq (q_seq (q_region (q_x (v := (.agg #[s1.v])) hF hS (ex_loadA (vs := [s1.v]) 0 0 Try.underlying26 rfl sz26 rfl rfl rfl rfl) rfl rfl fun a hF => q_x (v := s2.v) hF hS (ex_move rfl) rfl rfl fun a hF => q_x (v := s3.v) hF hS (ex_move rfl) rfl rfl fun a hF => ?_)))))))
 obtain ⟨t_5, ht_5, hr⟩ := bindS hr
 refine q_call (vs := [(.agg #[s1.v]), s2.v, s3.v]) hF hS Try.func45 (by kernel_rfl) rfl rfl rfl (c_spec_nPlan p_g p_s p_l t_5 ht_5 _ m hS.vis s1 h1 s2 h2 s3 h3) ?_
 rintro a w _ rfl hF hS
 refine q_x (v := (.bool (!t_5))) hF hS (ex_not rfl) rfl rfl fun a hF => q_end (n_sq ?_)
 rcases bcase (!t_5) with hc1 | hc1
 ·have hr := cond_f hc1 hr
  refine q_cond_f hF rfl hc1 (q_skipc (n_sq (q_seq (q_region (q_x (v := (.agg #[s1.v])) hF hS (ex_loadA (vs := [s1.v]) 0 0 Try.underlying26 rfl sz26 rfl rfl rfl rfl) rfl rfl fun a hF => q_x (v := s2.v) hF hS (ex_move rfl) rfl rfl fun a hF => q_x (v := s3.v) hF hS (ex_move rfl) rfl rfl fun a hF => ?_)))))
  obtain ⟨t_6, ht_6, hr⟩ := bindS hr
  refine q_call (vs := [(.agg #[s1.v]), s2.v, s3.v]) hF hS Try.func50 (by kernel_rfl) rfl rfl rfl (c_spec_lHeights p_g p_s p_l t_6 ht_6 _ m hS.vis s1 h1 s2 h2 s3 h3) ?_
  rintro a w _ ⟨q8, s8, rfl, hR7, h8⟩ hF hS2
  have hS : St _ _ _ _ [q8, [⟨b4, [s1.v], 26⟩]] := hS.joinF hR7
  refine q_x (v := s8.v) hF hS (ex_assign rfl) rfl rfl fun a hF => q_end (n_sq (q_seq (q_region (q_x (v := (.int .i64 0)) hF hS (ex_assign rfl) rfl rfl fun a hF => q_end (n_sq (q_seq (q_seq (q_region (q_x (v := s8.v) hF hS (ex_move rfl) rfl rfl fun a hF => q_x (v := (.int .i64 (goLen t_6))) hF hS (ex_len Try.underlying24 rfl h8.len) rfl rfl fun a hF => q_x (v := (.int .i64 0)) hF hS (ex_move rfl) rfl rfl fun a hF => q_end (n_sq (q_block ?_)))))))))))
  obtain ⟨want_14, hl2, hr⟩ := bindS hr
  refine q_loop (fun (s : Int × Int) a w => ∃ want_9, ∃ t_10, s = (want_9, t_10) ∧ Fr a 77 [(1, s2.v), (2, s3.v), (3, (.pointer (some ⟨b4, 0, none⟩))), (8, s8.v), (9, (.int .i64 want_9)), (24, s8.v), (25, (.int .i64 (goLen t_6))), (26, (.int .i64 t_10))] ∧ St [] w0 w m [q8, [⟨b4, [s1.v], 26⟩]]) (fun (want_14 : Int) e a w => e = .exit 0 ∧ Fr a 77 [(1, s2.v), (2, s3.v), (3, (.pointer (some ⟨b4, 0, none⟩))), (8, s8.v), (9, (.int .i64 want_14))] ∧ St [] w0 w m [q8, [⟨b4, [s1.v], 26⟩]]) hl2 ⟨_, _, rfl, hF.sub ⟨rfl, rfl, rfl, rfl, rfl, rfl, rfl, rfl, trivial⟩, hS⟩ ?_ ?_
  ·clear hF hS
   rintro s a w st ⟨want_9, t_10, rfl, hF, hS⟩ hb2
   unfold spec_LongestChain_l1 at hb2
   refine q_seq (q_region (q_x (v := (.bool (decide (t_10 < (goLen t_6))))) hF hS (ex_ibin rfl rfl rfl) rfl rfl fun a hF => q_end (n_sq (q_seq ?_))))
   rcases bcase (decide (t_10 < (goLen t_6))) with hc3 | hc3
   ·have hb2 := cond_f hc3 hb2
    refine q_cond_f hF rfl hc3 (q_exit (x_sq ?_))
    obtain rfl := someI hb2
    exact ⟨nofun, .inl ⟨rfl, hF.sub ⟨rfl, rfl, rfl, rfl, rfl, trivial⟩, hS⟩⟩
   ·have hb2 := cond_t hc3 hb2
    refine q_cond_t hF rfl hc3 (q_skipc (n_sq (q_seq (q_block (q_seq (q_region ?_))))))
    obtain ⟨e_11, he_11, hb2⟩ := bindS hb2
    obtain ⟨vs12, at12, d12⟩ := h8.at he_11 1 rfl
    obtain rfl : vs12 = [(.int .i64 e_11)] := d12
    refine q_x (v := (elP s8 (t_10.toNat * 1))) hF hS (ex_indexAddr Try.underlying24 sz3 rfl rfl (h8.idx he_11)) rfl rfl fun a hF => q_x (v := (.int .i64 e_11)) hF hS (ex_loadE1 0 Try.underlying3 rfl rfl (at12.at 0 rfl) rfl rfl) rfl rfl fun a hF => q_x (v := (.int .i64 e_11)) hF hS (ex_assign rfl) rfl rfl fun a hF => q_end (n_sq (q_region (q_x (v := (.int .i64 want_9)) hF hS (ex_move rfl) rfl rfl fun a hF => q_x (v := (.int .i64 e_11)) hF hS (ex_move rfl) rfl rfl fun a hF => ?_)))
    obtain ⟨t_13, ht_13, hb2⟩ := bindS hb2
    refine q_call (vs := [(.int .i64 want_9), (.int .i64 e_11)]) hF hS Try.func51 (by kernel_rfl) rfl rfl rfl (c_spec_l1Most want_9 e_11 t_13 ht_13 _ m hS.vis) ?_
    rintro a w _ rfl hF hS
    refine q_x (v := (.int .i64 t_13)) hF hS (ex_assign rfl) rfl rfl fun a hF => q_end (n_ib (n_sq (q_region (q_x (v := (.int .i64 (w64 (t_10 + 1)))) hF hS (ex_ibin rfl rfl rfl) rfl rfl fun a hF => q_x (v := (.int .i64 (w64 (t_10 + 1)))) hF hS (ex_move rfl) rfl rfl fun a hF => q_end ?_))))
    obtain rfl := someI hb2
    exact ⟨rfl, _, _, rfl, hF.sub ⟨rfl, rfl, rfl, rfl, rfl, rfl, rfl, rfl, trivial⟩, hS⟩
  ·rintro e a w ⟨rfl, hF, hS⟩
   refine x_ib (n_sq ?_)
   refine q_seq (q_region (q_x (v := nilS.v) hF hS (ex_assign rfl) rfl rfl fun a hF => q_end (n_sq (q_seq (q_block ?_)))))
   obtain ⟨out_38, hl4, hr⟩ := bindS hr
   refine q_loop (fun (s : Int × (List Int)) a w => ∃ (q17 : Piece), ∃ (s17 : Sl), ∃ want_15, ∃ out_16, s = (want_15, out_16) ∧ Fr a 77 [(1, s2.v), (2, s3.v), (3, (.pointer (some ⟨b4, 0, none⟩))), (8, s8.v), (9, (.int .i64 want_15)), (12, s17.v)] ∧ St [] w0 w m [q17, q8, [⟨b4, [s1.v], 26⟩]] ∧ OwnL m 3 q17 s17 out_16) (fun (out_38 : (List Int)) e a w => ∃ (q39 : Piece), ∃ (s39 : Sl), e = .exit 2 ∧ Fr a 77 [(12, s39.v)] ∧ St [] w0 w m [q39] ∧ OwnL m 3 q39 s39 out_38) hl4 ⟨[], nilS, _, _, rfl, hF.sub ⟨rfl, rfl, rfl, rfl, rfl, rfl, trivial⟩, hS.sel [2, 0, 1] (by decide), (OwnL.nil (α := Int) m 3)⟩ ?_ ?_
   ·clear hF hS
    rintro s a w st ⟨q17, s17, want_15, out_16, rfl, hF, hS, h17⟩ hb4
    unfold spec_LongestChain_l2 at hb4
    refine q_seq (q_seq (q_region (q_x (v := (.int .i64 want_15)) hF hS (ex_move rfl) rfl rfl fun a hF => q_x (v := (.bool (decide (0 < want_15)))) hF hS (ex_ibin rfl rfl rfl) rfl rfl fun a hF => q_end (n_sq ?_))))
    rcases bcase (decide (0 < want_15)) with hc5 | hc5
    ·have hb4 := cond_f hc5 hb4
     refine q_cond_f hF rfl hc5 (q_exit (x_sq ?_))
     obtain rfl := someI hb4
     exact ⟨nofun, .inl ⟨q17, s17, rfl, hF.sub ⟨rfl, trivial⟩, hS.mask [true, false, false], h17⟩⟩
    ·have hb4 := cond_t hc5 hb4
     refine q_cond_t hF rfl hc5 (q_skipc (n_sq (q_seq (q_block (q_seq (q_region (q_x (v := s8.v) hF hS (ex_move rfl) rfl rfl fun a hF => q_x (v := (.int .i64 (goLen t_6))) hF hS (ex_len Try.underlying24 rfl h8.len) rfl rfl fun a hF => q_x (v := (.int .i64 0)) hF hS (ex_move rfl) rfl rfl fun a hF => q_end (n_sq (q_block ?_)))))))))
     obtain ⟨out_36, hl6, hb4⟩ := bindS hb4
     refine q_loop (fun (t_18 : Int) a w => Fr a 77 [(1, s2.v), (2, s3.v), (3, (.pointer (some ⟨b4, 0, none⟩))), (8, s8.v), (9, (.int .i64 want_15)), (12, s17.v), (38, s8.v), (39, (.int .i64 (goLen t_6))), (40, (.int .i64 t_18))] ∧ St [] w0 w m [q17, q8, [⟨b4, [s1.v], 26⟩]]) (fun (out_36 : (List Int)) e a w => ∃ (q37 : Piece), ∃ (s37 : Sl), e = .exit 4 ∧ Fr a 77 [(1, s2.v), (2, s3.v), (3, (.pointer (some ⟨b4, 0, none⟩))), (8, s8.v), (9, (.int .i64 want_15)), (12, s37.v)] ∧ St [] w0 w m [q8, q37, [⟨b4, [s1.v], 26⟩]] ∧ OwnL m 3 q37 s37 out_36) hl6 ⟨hF.sub ⟨rfl, rfl, rfl, rfl, rfl, rfl, rfl, rfl, rfl, trivial⟩, hS⟩ ?_ ?_
     ·clear hF hS
      rintro t_18 a w st ⟨hF, hS⟩ hb6
      unfold spec_LongestChain_l3 at hb6
      refine q_seq (q_region (q_x (v := (.bool (decide (t_18 < (goLen t_6))))) hF hS (ex_ibin rfl rfl rfl) rfl rfl fun a hF => q_end (n_sq (q_seq ?_))))
      rcases bcase (decide (t_18 < (goLen t_6))) with hc7 | hc7
      ·have hb6 := cond_f hc7 hb6
       refine q_cond_f hF rfl hc7 (q_exit (x_sq ?_))
       obtain rfl := someI hb6
       exact ⟨nofun, .inl ⟨q17, s17, rfl, hF.sub ⟨rfl, rfl, rfl, rfl, rfl, rfl, trivial⟩, hS.sel [1, 0, 2] (by decide), h17⟩⟩
      ·have hb6 := cond_t hc7 hb6
       refine q_cond_t hF rfl hc7 (q_skipc (n_sq (q_seq (q_block (q_seq (q_region (q_x (v := (.int .i64 t_18)) hF hS (ex_move rfl) rfl rfl fun a hF => ?_)))))))
       obtain ⟨e_19, he_19, hb6⟩ := bindS hb6
       obtain ⟨vs20, at20, d20⟩ := h8.at he_19 1 rfl
       obtain rfl : vs20 = [(.int .i64 e_19)] := d20
       refine q_x (v := (elP s8 (t_18.toNat * 1))) hF hS (ex_indexAddr Try.underlying24 sz3 rfl rfl (h8.idx he_19)) rfl rfl fun a hF => q_x (v := (.int .i64 e_19)) hF hS (ex_loadE1 0 Try.underlying3 rfl rfl (at20.at 1 rfl) rfl rfl) rfl rfl fun a hF => q_x (v := (.int .i64 t_18)) hF hS (ex_assign rfl) rfl rfl fun a hF => q_x (v := (.int .i64 e_19)) hF hS (ex_assign rfl) rfl rfl fun a hF => q_end (n_sq (q_seq ?_))
       obtain ⟨t_32, hj8, hb6⟩ := bindS hb6
       refine q_join (fun a w => Fr a 77 [(1, s2.v), (2, s3.v), (3, (.pointer (some ⟨b4, 0, none⟩))), (8, s8.v), (9, (.int .i64 want_15)), (12, s17.v), (13, (.int .i64 t_18)), (38, s8.v), (39, (.int .i64 (goLen t_6))), (40, (.int .i64 t_18)), (70, (.bool t_32))] ∧ St [] w0 w m [q8, q17, [⟨b4, [s1.v], 26⟩]]) ?_ ?_
       ·refine e_region ⟨[], []⟩ mixed fun w' hw' => ?_
        have hS := hS.below hw'
        refine e_p (v := (.int .i64 e_19)) 0 hF rfl (ex_move rfl) rfl rfl (by kernel_rfl) (by kernel_rfl) (by kernel_rfl) fun a hF => e_p (v := (.int .i64 want_15)) 1 hF rfl (ex_move rfl) rfl rfl (by kernel_rfl) (by kernel_rfl) (by kernel_rfl) fun a hF => e_p (v := (.bool (e_19 == want_15))) 2 hF rfl (ex_ibin rfl rfl rfl) rfl rfl (by kernel_rfl) (by kernel_rfl) (by kernel_rfl) fun a hF => e_p (v := (.bool (e_19 == want_15))) 3 hF rfl (ex_move rfl) rfl rfl (by kernel_rfl) (by kernel_rfl) (by kernel_rfl) fun a hF => ?_
        rcases bcase (e_19 == want_15) with hc9 | hc9
        ·have hj8 := cond_f hc9 hj8
         refine e_skipP 4 hF rfl (wanted_f hF rfl rfl rfl hc9 rfl) rfl (by kernel_rfl) (by kernel_rfl) (by kernel_rfl) fun a hF => e_skipP 5 hF rfl (wanted_f hF rfl rfl rfl hc9 rfl) rfl (by kernel_rfl) (by kernel_rfl) (by kernel_rfl) fun a hF => e_skipP 6 hF rfl (wanted_f hF rfl rfl rfl hc9 rfl) rfl (by kernel_rfl) (by kernel_rfl) (by kernel_rfl) fun a hF => e_skipP 7 hF rfl (wanted_f hF rfl rfl rfl hc9 rfl) rfl (by kernel_rfl) (by kernel_rfl) (by kernel_rfl) fun a hF => e_skipP 8 hF rfl (wanted_u hF rfl rfl rfl) rfl (by kernel_rfl) (by kernel_rfl) (by kernel_rfl) fun a hF => e_skipP 9 hF rfl (wanted_u hF rfl rfl rfl) rfl (by kernel_rfl) (by kernel_rfl) (by kernel_rfl) fun a hF => e_skipP 10 hF rfl (wanted_u hF rfl rfl rfl) rfl (by kernel_rfl) (by kernel_rfl) (by kernel_rfl) fun a hF => e_skipP 11 hF rfl (wanted_u hF rfl rfl rfl) rfl (by kernel_rfl) (by kernel_rfl) (by kernel_rfl) fun a hF => e_skipP 12 hF rfl (wanted_u hF rfl rfl rfl) rfl (by kernel_rfl) (by kernel_rfl) (by kernel_rfl) fun a hF => e_skipP 13 hF rfl (wanted_u hF rfl rfl rfl) rfl (by kernel_rfl) (by kernel_rfl) (by kernel_rfl) fun a hF => e_skipP 14 hF rfl (wanted_u hF rfl rfl rfl) rfl (by kernel_rfl) (by kernel_rfl) (by kernel_rfl) fun a hF => e_skipP 15 hF rfl (wanted_u hF rfl rfl rfl) rfl (by kernel_rfl) (by kernel_rfl) (by kernel_rfl) fun a hF => e_skipP 16 hF rfl (wanted_u hF rfl rfl rfl) rfl (by kernel_rfl) (by kernel_rfl) (by kernel_rfl) fun a hF => e_skipP 17 hF rfl (wanted_u hF rfl rfl rfl) rfl (by kernel_rfl) (by kernel_rfl) (by kernel_rfl) fun a hF => e_skipP 18 hF rfl (wanted_u hF rfl rfl rfl) rfl (by kernel_rfl) (by kernel_rfl) (by kernel_rfl) fun a hF => e_skipP 19 hF rfl (wanted_u hF rfl rfl rfl) rfl (by kernel_rfl) (by kernel_rfl) (by kernel_rfl) fun a hF => e_skipP 20 hF rfl (wanted_u hF rfl rfl rfl) rfl (by kernel_rfl) (by kernel_rfl) (by kernel_rfl) fun a hF => e_skipP 21 hF rfl (wanted_u hF rfl rfl rfl) rfl (by kernel_rfl) (by kernel_rfl) (by kernel_rfl) fun a hF => e_skipP 22 hF rfl (wanted_u hF rfl rfl rfl) rfl (by kernel_rfl) (by kernel_rfl) (by kernel_rfl) fun a hF => e_skipP 23 hF rfl (wanted_u hF rfl rfl rfl) rfl (by kernel_rfl) (by kernel_rfl) (by kernel_rfl) fun a hF => e_skipP 24 hF rfl (wanted_f hF rfl rfl rfl hc9 rfl) rfl (by kernel_rfl) (by kernel_rfl) (by kernel_rfl) fun a hF => e_p (v := (.bool false)) 25 hF rfl (ex_pick_f rfl rfl hc9) rfl rfl (by kernel_rfl) (by kernel_rfl) (by kernel_rfl) fun a hF => e_end (by kernel_rfl) (n_jn ?_) _
         obtain rfl := someI hj8
         exact ⟨hF.sub ⟨rfl, rfl, rfl, rfl, rfl, rfl, rfl, rfl, rfl, rfl, rfl, trivial⟩, hS.sel [1, 0, 2] (by decide)⟩
        ·have hj8 := cond_t hc9 hj8
         refine e_pg (v := s17.v) 4 hF rfl (ex_move rfl) (wanted_t hF rfl rfl rfl hc9) rfl (by kernel_rfl) (by kernel_rfl) (by kernel_rfl) fun a hF => e_pg (v := (.int .i64 (goLen out_16))) 5 hF rfl (ex_len Try.underlying24 rfl h17.len) (wanted_t hF rfl rfl rfl hc9) rfl (by kernel_rfl) (by kernel_rfl) (by kernel_rfl) fun a hF => e_pg (v := (.bool ((goLen out_16) == 0))) 6 hF rfl (ex_ibin rfl rfl rfl) (wanted_t hF rfl rfl rfl hc9) rfl (by kernel_rfl) (by kernel_rfl) (by kernel_rfl) fun a hF => e_pg (v := (.bool ((goLen out_16) == 0))) 7 hF rfl (ex_move rfl) (wanted_t hF rfl rfl rfl hc9) rfl (by kernel_rfl) (by kernel_rfl) (by kernel_rfl) fun a hF => ?_
         rcases bcase ((goLen out_16) == 0) with hc10 | hc10
         ·have hj8 := cond_f hc10 hj8
          refine e_xg (v := (.agg #[s1.v])) 8 hF hS rfl (ex_loadA (vs := [s1.v]) 2 0 Try.underlying26 rfl sz26 rfl rfl rfl rfl) (wanted_t hF rfl rfl rfl hc10) rfl (by kernel_rfl) (by kernel_rfl) (by kernel_rfl) (by kernel_rfl) fun a hF => e_pg (v := s2.v) 9 hF rfl (ex_move rfl) (wanted_t hF rfl rfl rfl hc10) rfl (by kernel_rfl) (by kernel_rfl) (by kernel_rfl) fun a hF => e_pg (v := s3.v) 10 hF rfl (ex_move rfl) (wanted_t hF rfl rfl rfl hc10) rfl (by kernel_rfl) (by kernel_rfl) (by kernel_rfl) fun a hF => e_pg (v := (.int .i64 t_18)) 11 hF rfl (ex_move rfl) (wanted_t hF rfl rfl rfl hc10) rfl (by kernel_rfl) (by kernel_rfl) (by kernel_rfl) fun a hF => ?_
          obtain ⟨e_21, he_21, hj8⟩ := bindS hj8
          obtain ⟨vs22, at22, d22⟩ := h3.at he_21 4 rfl
          obtain ⟨s23, s24, rfl, h23, h24⟩ : ∃ s23 s24 : Sl, vs22 = [(.int .i64 e_21.Level), s23.v, s24.v, (.int .i64 e_21.Sum)] ∧ Rd m s23 e_21.Vars ∧ Rd m s24 e_21.Where := d22
          refine e_pg (v := (elP s3 (t_18.toNat * 4))) 12 hF rfl (ex_indexAddr Try.underlying37 sz29 rfl rfl (h3.idx he_21)) (wanted_t hF rfl rfl rfl hc10) rfl (by kernel_rfl) (by kernel_rfl) (by kernel_rfl) fun a hF => e_xg (v := (.agg #[(.int .i64 e_21.Level), s23.v, s24.v, (.int .i64 e_21.Sum)])) 13 hF hS rfl (ex_loadEA (us := [(.int .i64 e_21.Level), s23.v, s24.v, (.int .i64 e_21.Sum)]) 0 Try.underlying29 rfl sz29 rfl ((at22).at) rfl rfl rfl) (wanted_t hF rfl rfl rfl hc10) rfl (by kernel_rfl) (by kernel_rfl) (by kernel_rfl) (by kernel_rfl) fun a hF => e_pg (v := s3.v) 14 hF rfl (ex_move rfl) (wanted_t hF rfl rfl rfl hc10) rfl (by kernel_rfl) (by kernel_rfl) (by kernel_rfl) fun a hF => e_pg (v := s17.v) 15 hF rfl (ex_move rfl) (wanted_t hF rfl rfl rfl hc10) rfl (by kernel_rfl) (by kernel_rfl) (by kernel_rfl) fun a hF => e_pg (v := s17.v) 16 hF rfl (ex_move rfl) (wanted_t hF rfl rfl rfl hc10) rfl (by kernel_rfl) (by kernel_rfl) (by kernel_rfl) fun a hF => e_pg (v := (.int .i64 (goLen out_16))) 17 hF rfl (ex_len Try.underlying24 rfl h17.len) (wanted_t hF rfl rfl rfl hc10) rfl (by kernel_rfl) (by kernel_rfl) (by kernel_rfl) fun a hF => e_pg (v := (.int .i64 (w64 ((goLen out_16) - 1)))) 18 hF rfl (ex_ibin rfl rfl rfl) (wanted_t hF rfl rfl rfl hc10) rfl (by kernel_rfl) (by kernel_rfl) (by kernel_rfl) fun a hF => ?_
          obtain ⟨e_25, he_25, hj8⟩ := bindS hj8
          obtain ⟨vs26, at26, d26⟩ := h17.at he_25 1 rfl
          obtain rfl : vs26 = [(.int .i64 e_25)] := d26
          refine e_pg (v := (elP s17 ((w64 ((goLen out_16) - 1)).toNat * 1))) 19 hF rfl (ex_indexAddr Try.underlying24 sz3 rfl rfl (h17.idx he_25)) (wanted_t hF rfl rfl rfl hc10) rfl (by kernel_rfl) (by kernel_rfl) (by kernel_rfl) fun a hF => e_xg (v := (.int .i64 e_25)) 20 hF hS rfl (ex_loadE1 0 Try.underlying3 rfl rfl (at26.at 0 rfl) rfl rfl) (wanted_t hF rfl rfl rfl hc10) rfl (by kernel_rfl) (by kernel_rfl) (by kernel_rfl) (by kernel_rfl) fun a hF => ?_
          obtain ⟨e_27, he_27, hj8⟩ := bindS hj8
          obtain ⟨vs28, at28, d28⟩ := h3.at he_27 4 rfl
          obtain ⟨s29, s30, rfl, h29, h30⟩ : ∃ s29 s30 : Sl, vs28 = [(.int .i64 e_27.Level), s29.v, s30.v, (.int .i64 e_27.Sum)] ∧ Rd m s29 e_27.Vars ∧ Rd m s30 e_27.Where := d28
          refine e_pg (v := (elP s3 (e_25.toNat * 4))) 21 hF rfl (ex_indexAddr Try.underlying37 sz29 rfl rfl (h3.idx he_27)) (wanted_t hF rfl rfl rfl hc10) rfl (by kernel_rfl) (by kernel_rfl) (by kernel_rfl) fun a hF => e_xg (v := (.agg #[(.int .i64 e_27.Level), s29.v, s30.v, (.int .i64 e_27.Sum)])) 22 hF hS rfl (ex_loadEA (us := [(.int .i64 e_27.Level), s29.v, s30.v, (.int .i64 e_27.Sum)]) 0 Try.underlying29 rfl sz29 rfl ((at28).at) rfl rfl rfl) (wanted_t hF rfl rfl rfl hc10) rfl (by kernel_rfl) (by kernel_rfl) (by kernel_rfl) (by kernel_rfl) fun a hF => e_one 23 (by kernel_rfl) ?_
          obtain ⟨t_31, ht_31, hj8⟩ := bindS hj8
          refine e_callg (vs := [(.agg #[s1.v]), s2.v, (.agg #[(.int .i64 e_21.Level), s23.v, s24.v, (.int .i64 e_21.Sum)]), (.agg #[(.int .i64 e_27.Level), s29.v, s30.v, (.int .i64 e_27.Sum)])]) hF hS rfl (wanted_t hF rfl rfl rfl hc10) Try.func52 (by kernel_rfl) rfl rfl rfl (c_spec_lLess p_g p_s e_21 e_27 t_31 ht_31 _ m hS.vis s1 h1 s2 h2 s23 h23 s24 h24 s29 h29 s30 h30) ?_
          rintro a w _ rfl hF hS
          refine e_pg (v := (.bool t_31)) 24 hF rfl (ex_pick_f rfl rfl hc10) (wanted_t hF rfl rfl rfl hc9) rfl (by kernel_rfl) (by kernel_rfl) (by kernel_rfl) fun a hF => e_p (v := (.bool t_31)) 25 hF rfl (ex_pick_t rfl rfl hc9) rfl rfl (by kernel_rfl) (by kernel_rfl) (by kernel_rfl) fun a hF => e_end (by kernel_rfl) (n_jn ?_) _
          obtain rfl := someI hj8
          exact ⟨hF.sub ⟨rfl, rfl, rfl, rfl, rfl, rfl, rfl, rfl, rfl, rfl, rfl, trivial⟩, hS.sel [1, 0, 2] (by decide)⟩
         ·have hj8 := cond_t hc10 hj8
          refine e_skipP 8 hF rfl (wanted_f hF rfl rfl rfl hc10 rfl) rfl (by kernel_rfl) (by kernel_rfl) (by kernel_rfl) fun a hF => e_skipP 9 hF rfl (wanted_f hF rfl rfl rfl hc10 rfl) rfl (by kernel_rfl) (by kernel_rfl) (by kernel_rfl) fun a hF => e_skipP 10 hF rfl (wanted_f hF rfl rfl rfl hc10 rfl) rfl (by kernel_rfl) (by kernel_rfl) (by kernel_rfl) fun a hF => e_skipP 11 hF rfl (wanted_f hF rfl rfl rfl hc10 rfl) rfl (by kernel_rfl) (by kernel_rfl) (by kernel_rfl) fun a hF => e_skipP 12 hF rfl (wanted_f hF rfl rfl rfl hc10 rfl) rfl (by kernel_rfl) (by kernel_rfl) (by kernel_rfl) fun a hF => e_skipP 13 hF rfl (wanted_f hF rfl rfl rfl hc10 rfl) rfl (by kernel_rfl) (by kernel_rfl) (by kernel_rfl) fun a hF => e_skipP 14 hF rfl (wanted_f hF rfl rfl rfl hc10 rfl) rfl (by kernel_rfl) (by kernel_rfl) (by kernel_rfl) fun a hF => e_skipP 15 hF rfl (wanted_f hF rfl rfl rfl hc10 rfl) rfl (by kernel_rfl) (by kernel_rfl) (by kernel_rfl) fun a hF => e_skipP 16 hF rfl (wanted_f hF rfl rfl rfl hc10 rfl) rfl (by kernel_rfl) (by kernel_rfl) (by kernel_rfl) fun a hF => e_skipP 17 hF rfl (wanted_f hF rfl rfl rfl hc10 rfl) rfl (by kernel_rfl) (by kernel_rfl) (by kernel_rfl) fun a hF => e_skipP 18 hF rfl (wanted_f hF rfl rfl rfl hc10 rfl) rfl (by kernel_rfl) (by kernel_rfl) (by kernel_rfl) fun a hF => e_skipP 19 hF rfl (wanted_f hF rfl rfl rfl hc10 rfl) rfl (by kernel_rfl) (by kernel_rfl) (by kernel_rfl) fun a hF => e_skipP 20 hF rfl (wanted_f hF rfl rfl rfl hc10 rfl) rfl (by kernel_rfl) (by kernel_rfl) (by kernel_rfl) fun a hF => e_skipP 21 hF rfl (wanted_f hF rfl rfl rfl hc10 rfl) rfl (by kernel_rfl) (by kernel_rfl) (by kernel_rfl) fun a hF => e_skipP 22 hF rfl (wanted_f hF rfl rfl rfl hc10 rfl) rfl (by kernel_rfl) (by kernel_rfl) (by kernel_rfl) fun a hF => e_skipP 23 hF rfl (wanted_f hF rfl rfl rfl hc10 rfl) rfl (by kernel_rfl) (by kernel_rfl) (by kernel_rfl) fun a hF => e_pg (v := (.bool true)) 24 hF rfl (ex_pick_t rfl rfl hc10) (wanted_t hF rfl rfl rfl hc9) rfl (by kernel_rfl) (by kernel_rfl) (by kernel_rfl) fun a hF => e_p (v := (.bool true)) 25 hF rfl (ex_pick_t rfl rfl hc9) rfl rfl (by kernel_rfl) (by kernel_rfl) (by kernel_rfl) fun a hF => e_end (by kernel_rfl) (n_jn ?_) _
          obtain rfl := someI hj8
          exact ⟨hF.sub ⟨rfl, rfl, rfl, rfl, rfl, rfl, rfl, rfl, rfl, rfl, rfl, trivial⟩, hS.sel [1, 0, 2] (by decide)⟩
       ·rintro a w ⟨hF, hS⟩
        refine n_sq ?_
        rcases bcase (t_32) with hc11 | hc11
        ·have hb6 := cond_f hc11 hb6
         refine q_cond_f hF rfl hc11 (q_skipc (n_ib (n_sq (q_region (q_x (v := (.int .i64 (w64 (t_18 + 1)))) hF hS (ex_ibin rfl rfl rfl) rfl rfl fun a hF => q_x (v := (.int .i64 (w64 (t_18 + 1)))) hF hS (ex_move rfl) rfl rfl fun a hF => q_end ?_)))))
         obtain rfl := someI hb6
         exact ⟨rfl, hF.sub ⟨rfl, rfl, rfl, rfl, rfl, rfl, rfl, rfl, rfl, trivial⟩, hS.sel [1, 0, 2] (by decide)⟩
        ·have hb6 := cond_t hc11 hb6
         refine q_cond_t hF rfl hc11 (q_seq (q_region (q_x (v := s17.v) hF hS (ex_move rfl) rfl rfl fun a hF => q_x (v := (.int .i64 t_18)) hF hS (ex_move rfl) rfl rfl fun a hF => q_do rfl fun _ hK => wp_buildSlice' (l := ([t_18] : List Int)) (cells := [(.int .i64 t_18)]) hF hS Try.underlying24 inf3 rfl rfl (by kernel_rfl) rfl rfl rfl ⟨rfl, rfl⟩ rfl rfl fun a w q33 s33 hF hS h33 _ => hK _ _ ?_)))
         have hS : St _ _ _ _ [q17, q33, q8, [⟨b4, [s1.v], 26⟩]] := hS.sel [2, 0, 1, 3] (by decide)
         obtain ⟨l_34, hl_34, hb6⟩ := bindS hb6
         refine q_do rfl fun _ hK => wp_append hF hS h17 Try.underlying24 inf3 rfl rfl rfl rfl (h33.vw hS (j := 1) rfl) rfl (by decide) hl_34 rfl fun a w q35 s35 hF hS h35 => hK _ _ (q_x (v := s35.v) hF hS (ex_assign rfl) rfl rfl fun a hF => q_end (n_sq (q_exit (x_ibn rfl (x_sq ?_)))))
         obtain rfl := someI hb6
         exact ⟨nofun, .inl ⟨q35, s35, rfl, hF.sub ⟨rfl, rfl, rfl, rfl, rfl, rfl, trivial⟩, hS.sel [2, 0, 3] (by decide), h35⟩⟩
     ·rintro e a w ⟨q37, s37, rfl, hF, hS, h37⟩
      refine x_ib (n_ib (n_sq ?_))
      refine q_region (q_x (v := (.int .i64 want_15)) hF hS (ex_move rfl) rfl rfl fun a hF => q_x (v := (.int .i64 (w64 (want_15 - 1)))) hF hS (ex_ibin rfl rfl rfl) rfl rfl fun a hF => q_x (v := (.int .i64 (w64 (want_15 - 1)))) hF hS (ex_assign rfl) rfl rfl fun a hF => q_end ?_)
      obtain rfl := someI hb4
      exact ⟨rfl, q37, s37, _, _, rfl, hF.sub ⟨rfl, rfl, rfl, rfl, rfl, rfl, trivial⟩, hS.sel [1, 0, 2] (by decide), h37⟩
   ·rintro e a w ⟨q39, s39, rfl, hF, hS, h39⟩
    refine x_ib (n_sq ?_)
    refine q_seq (q_region (q_x (v := s39.v) hF hS (ex_move rfl) rfl rfl fun a hF => q_x (v := s39.v) hF hS (ex_assign rfl) rfl rfl fun a hF => q_x (v := (.bool true)) hF hS (ex_assign rfl) rfl rfl fun a hF => q_end (n_sq (q_ret ?_))))
    obtain rfl := someI hr
    exact ret_of hF hS rfl (.tmp rfl (.tmp rfl .nil)) ⟨q39, s39, rfl, hS.sel [0] (by decide), h39⟩
 ·have hr := cond_t hc1 hr
  refine q_cond_t hF rfl hc1 (q_seq (q_region (q_x (v := nilS.v) hF hS (ex_assign rfl) rfl rfl fun a hF => q_x (v := (.bool false)) hF hS (ex_assign rfl) rfl rfl fun a hF => q_end (n_sq (q_ret (r_sq ?_))))))
  obtain rfl := someI hr
  exact ret_of hF hS rfl (.tmp rfl (.tmp rfl .nil)) ⟨[], nilS, rfl, hS.sel [1] (by decide), (OwnL.nil (α := Int) m 3)⟩

theorem c_spec_DrawCheapestSource (p_code : List (K .u8)) (r : impl_Geo × (List impl_Variable) × (List impl_Table) × impl_Table) (hr : spec_DrawCheapestSource p_code = some r) (w0 : World) (m : Mem) (hv : Vis m w0) (s1 : Sl) (h1 : Rd m s1 p_code) :
  Ret Try.prog 25 [s1.v] w0 (fun v w => ∃ (m' : Mem) (q2' : Piece) (q3' : Piece) (q4' : Piece) (s0' : Sl) (s1' : Sl) (s2' : Sl) (s3' : Sl) (s4' : Sl), v = (.tuple #[(.agg #[s0'.v]), s1'.v, s2'.v, (.agg #[(.int .i64 r.2.2.2.Level), s3'.v, s4'.v, (.int .i64 r.2.2.2.Sum)])]) ∧ MLe [] w0.heap.size m m' ∧ St [] w0 w m' [q2', q3', q4'] ∧ Rd m' s0' r.1.Parents ∧ Rd m' s1' r.2.1 ∧ OwnL m' 29 q2' s2' r.2.2.1 ∧ OwnL m' 3 q3' s3' r.2.2.2.Vars ∧ OwnL m' 3 q4' s4' r.2.2.2.Where) := by
 unfold spec_DrawCheapestSource at hr
 refine ret_start Try.func25 rfl 48 rfl rfl m hv fun a hF hS => q_seq (q_region (q_alloc (cs := [nilS.v]) hF hS rfl rfl rfl fun a w b2 hF hS => q_x (v := nilS.v) hF hS (ex_assign rfl) rfl rfl fun a hF => q_x (v := nilS.v) hF hS (ex_assign rfl) rfl rfl fun a hF => q_alloc (cs := [(.int .i64 0), nilS.v, nilS.v, (.int .i64 0)]) hF hS rfl rfl rfl fun a w b3 hF hS => q_end (n_sq (q_seq (q_region (q_x (v := s1.v) hF hS (ex_move rfl) rfl rfl fun a hF => q_x (v := (.agg #[s1.v, (.int .i64 0), (.int .u64 0)])) hF hS (ex_build (cells := [s1.v, (.int .i64 0), (.int .u64 0)]) rfl (by kernel_rfl)) rfl rfl fun a hF => q_box (cs := [s1.v, (.int .i64 0), (.int .u64 0)]) hF hS rfl rfl rfl fun a w b4 hF hS => q_x (v := (.pointer (some ⟨b4, 0, none⟩))) hF hS (ex_assign rfl) rfl rfl fun a hF => q_end (n_sq (q_seq (q_region (q_x (v := s1.v) hF hS (ex_move rfl) rfl rfl fun a hF => ?_))))))))))
 obtain ⟨t_5, ht_5, hr⟩ := bindS hr
 refine q_call (vs := [s1.v]) hF hS Try.func38 (by kernel_rfl) rfl rfl rfl (c_spec_DrawSourcesIn p_code t_5 ht_5 _ m hS.vis s1 h1) ?_
 have hT := hS
 rintro a w _ ⟨m6, q9, s7, s8, s9, rfl, hm6, hR6, h7, h8, h9⟩ hF hS2
 have hS : St _ _ _ _ [q9, [⟨b4, [s1.v, (.int .i64 0), (.int .u64 0)], 65⟩], [⟨b3, [(.int .i64 0), nilS.v, nilS.v, (.int .i64 0)], 29⟩], [⟨b2, [nilS.v], 26⟩]] := hS.join hR6 hm6
 have hm6 := MLe.weakX (O0 := []) hT hm6
 refine q_x (v := (.tuple #[(.agg #[s7.v]), s8.v, s9.v])) hF hS (ex_move rfl) rfl rfl fun a hF => q_x (v := (.agg #[s7.v])) hF hS (ex_extract rfl rfl) rfl rfl fun a hF => q_x (v := s8.v) hF hS (ex_extract rfl rfl) rfl rfl fun a hF => q_x (v := s9.v) hF hS (ex_extract rfl rfl) rfl rfl fun a hF => q_alloc (cs := [nilS.v]) hF hS rfl rfl rfl fun a w b10 hF hS => q_store (vs := [s7.v]) (cs' := [s7.v]) 0 0 hF hS sz26 rfl rfl rfl rfl rfl rfl rfl rfl fun a w hF hS => q_x (v := s8.v) hF hS (ex_assign rfl) rfl rfl fun a hF => q_x (v := s9.v) hF hS (ex_assign rfl) rfl rfl fun a hF => q_end (n_sq (q_seq (q_seq ?_)))
 obtain ⟨j1, hj1, hr⟩ := bindS hr
 refine q_join (fun a w => ∃ t_14, ∃ t_15, j1 = (t_14, t_15) ∧ Fr a 48 [(2, (.pointer (some ⟨b2, 0, none⟩))), (5, (.pointer (some ⟨b3, 0, none⟩))), (6, (.pointer (some ⟨b4, 0, none⟩))), (7, (.pointer (some ⟨b10, 0, none⟩))), (8, s8.v), (9, s9.v), (26, (.bool t_14))] ∧ St [] w0 w m6 [q9, [⟨b10, [s7.v], 26⟩], [⟨b4, [s1.v, (.int .i64 t_15.at_), (.int .u64 t_15.seed.v)], 65⟩], [⟨b3, [(.int .i64 0), nilS.v, nilS.v, (.int .i64 0)], 29⟩], [⟨b2, [nilS.v], 26⟩]] ∧ Rd m6 s1 t_15.code ∧ t_15.code = p_code) ?_ ?_
 ·refine q_region (q_x (v := s9.v) hF hS (ex_move rfl) rfl rfl fun a hF => q_x (v := (.int .i64 (goLen t_5.2.2))) hF hS (ex_len Try.underlying37 rfl h9.len) rfl rfl fun a hF => q_x (v := (.bool (decide (0 < (goLen t_5.2.2))))) hF hS (ex_ibin rfl rfl rfl) rfl rfl fun a hF => q_x (v := (.bool (decide (0 < (goLen t_5.2.2))))) hF hS (ex_move rfl) rfl rfl fun a hF => ?_)
  rcases bcase (decide (0 < (goLen t_5.2.2))) with hc2 | hc2
  ·have hj1 := cond_f hc2 hj1
   refine q_skip hF (wanted_f hF rfl rfl rfl hc2 rfl) rfl fun a hF => q_skip hF (wanted_f hF rfl rfl rfl hc2 rfl) rfl fun a hF => q_skip hF (wanted_f hF rfl rfl rfl hc2 rfl) rfl fun a hF => q_x (v := (.bool false)) hF hS (ex_pick_f rfl rfl hc2) rfl rfl fun a hF => q_end (n_jn ?_)
   obtain rfl := someI hj1
   exact ⟨_, _, rfl, hF.sub ⟨rfl, rfl, rfl, rfl, rfl, rfl, rfl, trivial⟩, hS.sel [1, 0, 2, 3, 4] (by decide), (h1.mono hm6.le), rfl⟩
  ·have hj1 := cond_t hc2 hj1
   refine q_xg (v := (.pointer (some ⟨b4, 0, none⟩))) hF hS (ex_move rfl) (wanted_t hF rfl rfl rfl hc2) rfl fun a hF => ?_
   have hS : St _ _ _ _ [[⟨b4, [s1.v, (.int .i64 0), (.int .u64 0)], 65⟩], [⟨b10, [s7.v], 26⟩], q9, [⟨b3, [(.int .i64 0), nilS.v, nilS.v, (.int .i64 0)], 29⟩], [⟨b2, [nilS.v], 26⟩]] := hS.sel [2, 0, 1, 3, 4] (by decide)
   have hS11 : St _ _ _ _ ([[⟨b4, [s1.v, (.int .i64 0), (.int .u64 0)], 65⟩]] ++ [[⟨b10, [s7.v], 26⟩], q9, [⟨b3, [(.int .i64 0), nilS.v, nilS.v, (.int .i64 0)], 29⟩], [⟨b2, [nilS.v], 26⟩]]) := hS
   have hE11 := hS11.enter
   obtain ⟨t_12, ht_12, hj1⟩ := bindS hj1
   refine q_dog (wanted_t hF rfl rfl rfl hc2) fun _ hK => wp_callX (vs := [(.pointer (some ⟨b4, 0, none⟩)), (.int .i64 4)]) hF Try.func39 (by kernel_rfl) rfl rfl rfl (c_spec_l1Cur_one (spec_l1Cur.mk p_code 0 (⟨0⟩ : K .u64)) 4 t_12 ht_12 _ m6 b4 s1 (h1.mono hm6.le) _ hE11) fun a w _ hR hF => hK _ _ ?_
   obtain ⟨rfl, hR11, hk13⟩ := hR
   have hS : St _ _ _ _ [[⟨b4, [s1.v, (.int .i64 t_12.2.at_), (.int .u64 t_12.2.seed.v)], 65⟩], [⟨b10, [s7.v], 26⟩], q9, [⟨b3, [(.int .i64 0), nilS.v, nilS.v, (.int .i64 0)], 29⟩], [⟨b2, [nilS.v], 26⟩]] := hS11.leaveF hR11
   have h13 : Rd m6 s1 t_12.2.code := by rw [hk13]; exact (h1.mono hm6.le)
   refine q_xg (v := (.bool (!t_12.1))) hF hS (ex_not rfl) (wanted_t hF rfl rfl rfl hc2) rfl fun a hF => q_x (v := (.bool (!t_12.1))) hF hS (ex_pick_t rfl rfl hc2) rfl rfl fun a hF => q_end (n_jn ?_)
   obtain rfl := someI hj1
   exact ⟨_, _, rfl, hF.sub ⟨rfl, rfl, rfl, rfl, rfl, rfl, rfl, trivial⟩, hS.sel [2, 1, 0, 3, 4] (by decide), h13, hk13⟩
 ·rintro a w ⟨t_14, t_15, rfl, hF, hS, h16, h16k⟩
  refine n_sq ?_
  rcases bcase (t_14) with hc3 | hc3
  ·have hr := cond_f hc3 hr
   refine q_cond_f hF rfl hc3 (q_skipc (n_sq (q_seq (e_region ⟨[6, 7, 10], [b10]⟩ mixed fun w' hw' => ?_))))
   have hS := hS.below hw'
   refine e_xb (v := (.agg #[s7.v])) 0 1 hF hS (.head _) rfl rfl (ex_loadA (vs := [s7.v]) 0 0 Try.underlying26 rfl sz26 rfl rfl rfl rfl) rfl rfl (by kernel_rfl) (by kernel_rfl) (by kernel_rfl) fun a hF => e_p (v := s8.v) 1 hF rfl (ex_move rfl) rfl rfl (by kernel_rfl) (by kernel_rfl) (by kernel_rfl) fun a hF => e_p (v := s9.v) 2 hF rfl (ex_move rfl) rfl rfl (by kernel_rfl) (by kernel_rfl) (by kernel_rfl) fun a hF => e_p (v := (.pointer (some ⟨b4, 0, none⟩))) 3 hF rfl (ex_move rfl) rfl rfl (by kernel_rfl) (by kernel_rfl) (by kernel_rfl) fun a hF => e_xb (v := (.agg #[s7.v])) 4 1 hF hS (.head _) rfl rfl (ex_loadA (vs := [s7.v]) 0 0 Try.underlying26 rfl sz26 rfl rfl rfl rfl) rfl rfl (by kernel_rfl) (by kernel_rfl) (by kernel_rfl) fun a hF => e_p (v := s8.v) 5 hF rfl (ex_move rfl) rfl rfl (by kernel_rfl) (by kernel_rfl) (by kernel_rfl) fun a hF => e_one 6 (by kernel_rfl) ?_
   have hS : St _ _ _ _ [[⟨b4, [s1.v, (.int .i64 t_15.at_), (.int .u64 t_15.seed.v)], 65⟩], q9, [⟨b10, [s7.v], 26⟩], [⟨b3, [(.int .i64 0), nilS.v, nilS.v, (.int .i64 0)], 29⟩], [⟨b2, [nilS.v], 26⟩]] := hS.sel [2, 0, 1, 3, 4] (by decide)
   have hS17 : St _ _ _ _ ([[⟨b4, [s1.v, (.int .i64 t_15.at_), (.int .u64 t_15.seed.v)], 65⟩]] ++ [q9, [⟨b10, [s7.v], 26⟩], [⟨b3, [(.int .i64 0), nilS.v, nilS.v, (.int .i64 0)], 29⟩], [⟨b2, [nilS.v], 26⟩]]) := hS
   have hE17 := hS17.enter
   obtain ⟨t_18, ht_18, hr⟩ := bindS hr
   have hSo := hS
   refine e_opl rfl rfl rfl fun _ hK => wp_callX (vs := [(.pointer (some ⟨b4, 0, none⟩)), (.agg #[s7.v]), s8.v]) hF Try.func41 (by kernel_rfl) rfl rfl rfl (c_spec_l1Cur_anyTable t_15 t_5.1 t_5.2.1 t_18 ht_18 _ m6 b4 s1 h16 s7 h7 s8 h8 _ hE17) fun a w _ hR hF => hK _ _ ?_
   obtain ⟨q19, q20, s19, s20, rfl, hR17, h19, h20, hk21⟩ := hR
   have hS : St _ _ _ _ [[⟨b4, [s1.v, (.int .i64 t_18.2.at_), (.int .u64 t_18.2.seed.v)], 65⟩], q19, q20, q9, [⟨b10, [s7.v], 26⟩], [⟨b3, [(.int .i64 0), nilS.v, nilS.v, (.int .i64 0)], 29⟩], [⟨b2, [nilS.v], 26⟩]] := hS17.leaveF hR17
   have h21 : Rd m6 s1 t_18.2.code := by rw [hk21]; exact h16
   refine ⟨kpC hSo hS 2 4 rfl rfl kpN, ?_⟩
   refine e_one 7 (by kernel_rfl) ?_
   have hSo := hS
   refine e_store (vs := [s7.v]) (cs' := [s7.v]) 6 0 hF hS rfl rfl sz26 rfl rfl rfl rfl rfl rfl rfl rfl fun a w hF hS => ⟨kpC hSo hS 4 4 rfl rfl kpN, ?_⟩
   refine e_p (v := s8.v) 8 hF rfl (ex_assign rfl) rfl rfl (by kernel_rfl) (by kernel_rfl) (by kernel_rfl) fun a hF => e_p (v := s9.v) 9 hF rfl (ex_assign rfl) rfl rfl (by kernel_rfl) (by kernel_rfl) (by kernel_rfl) fun a hF => e_one 10 (by kernel_rfl) ?_
   have hSo := hS
   refine e_store (vs := [(.int .i64 t_18.1.Level), s19.v, s20.v, (.int .i64 t_18.1.Sum)]) (cs' := [(.int .i64 t_18.1.Level), s19.v, s20.v, (.int .i64 t_18.1.Sum)]) 5 0 hF hS rfl rfl sz29 rfl rfl rfl rfl rfl rfl rfl rfl fun a w hF hS => ⟨kpC hSo hS 4 4 rfl rfl kpN, ?_⟩
   refine e_end (by kernel_rfl) (n_sq (q_ret ?_)) _
   obtain rfl := someI hr
   exact ret_of hF hS rfl (.cellA (us := [s7.v]) 6 0 Try.underlying26 rfl sz26 rfl rfl rfl rfl (.tmp rfl (.tmp rfl (.cellA (us := [(.int .i64 t_18.1.Level), s19.v, s20.v, (.int .i64 t_18.1.Sum)]) 5 0 Try.underlying29 rfl sz29 rfl rfl rfl rfl .nil)))) ⟨m6, q9, q19, q20, s7, s8, s9, s19, s20, rfl, hm6, hS.sel [3, 1, 2] (by decide), h7, h8, h9, h19, h20⟩
  ·have hr := cond_t hc3 hr
   refine q_cond_t hF rfl hc3 (q_seq (e_region ⟨[10, 13, 14, 17], [b10]⟩ mixed fun w' hw' => ?_))
   have hS := hS.below hw'
   refine e_xb (v := (.agg #[s7.v])) 0 1 hF hS (.head _) rfl rfl (ex_loadA (vs := [s7.v]) 0 0 Try.underlying26 rfl sz26 rfl rfl rfl rfl) rfl rfl (by kernel_rfl) (by kernel_rfl) (by kernel_rfl) fun a hF => e_p (v := s8.v) 1 hF rfl (ex_move rfl) rfl rfl (by kernel_rfl) (by kernel_rfl) (by kernel_rfl) fun a hF => e_p (v := s9.v) 2 hF rfl (ex_move rfl) rfl rfl (by kernel_rfl) (by kernel_rfl) (by kernel_rfl) fun a hF => e_p (v := (.pointer (some ⟨b4, 0, none⟩))) 3 hF rfl (ex_move rfl) rfl rfl (by kernel_rfl) (by kernel_rfl) (by kernel_rfl) fun a hF => e_xb (v := (.agg #[s7.v])) 4 1 hF hS (.head _) rfl rfl (ex_loadA (vs := [s7.v]) 0 0 Try.underlying26 rfl sz26 rfl rfl rfl rfl) rfl rfl (by kernel_rfl) (by kernel_rfl) (by kernel_rfl) fun a hF => e_p (v := s8.v) 5 hF rfl (ex_move rfl) rfl rfl (by kernel_rfl) (by kernel_rfl) (by kernel_rfl) fun a hF => e_p (v := s9.v) 6 hF rfl (ex_move rfl) rfl rfl (by kernel_rfl) (by kernel_rfl) (by kernel_rfl) fun a hF => e_p (v := (.pointer (some ⟨b4, 0, none⟩))) 7 hF rfl (ex_move rfl) rfl rfl (by kernel_rfl) (by kernel_rfl) (by kernel_rfl) fun a hF => e_p (v := s9.v) 8 hF rfl (ex_move rfl) rfl rfl (by kernel_rfl) (by kernel_rfl) (by kernel_rfl) fun a hF => e_p (v := (.int .i64 (goLen t_5.2.2))) 9 hF rfl (ex_len Try.underlying37 rfl h9.len) rfl rfl (by kernel_rfl) (by kernel_rfl) (by kernel_rfl) fun a hF => e_one 10 (by kernel_rfl) ?_
   have hS : St _ _ _ _ [[⟨b4, [s1.v, (.int .i64 t_15.at_), (.int .u64 t_15.seed.v)], 65⟩], q9, [⟨b10, [s7.v], 26⟩], [⟨b3, [(.int .i64 0), nilS.v, nilS.v, (.int .i64 0)], 29⟩], [⟨b2, [nilS.v], 26⟩]] := hS.sel [2, 0, 1, 3, 4] (by decide)
   have hS22 : St _ _ _ _ ([[⟨b4, [s1.v, (.int .i64 t_15.at_), (.int .u64 t_15.seed.v)], 65⟩]] ++ [q9, [⟨b10, [s7.v], 26⟩], [⟨b3, [(.int .i64 0), nilS.v, nilS.v, (.int .i64 0)], 29⟩], [⟨b2, [nilS.v], 26⟩]]) := hS
   have hE22 := hS22.enter
   obtain ⟨t_23, ht_23, hr⟩ := bindS hr
   have hSo := hS
   refine e_opl rfl rfl rfl fun _ hK => wp_callX (vs := [(.pointer (some ⟨b4, 0, none⟩)), (.int .i64 (goLen t_5.2.2))]) hF Try.func53 (by kernel_rfl) rfl rfl rfl (c_spec_l1Cur_pick t_15 (goLen t_5.2.2) t_23 ht_23 _ m6 b4 s1 h16 _ hE22) fun a w _ hR hF => hK _ _ ?_
   obtain ⟨rfl, hR22, hk24⟩ := hR
   have hS : St _ _ _ _ [[⟨b4, [s1.v, (.int .i64 t_23.2.at_), (.int .u64 t_23.2.seed.v)], 65⟩], q9, [⟨b10, [s7.v], 26⟩], [⟨b3, [(.int .i64 0), nilS.v, nilS.v, (.int .i64 0)], 29⟩], [⟨b2, [nilS.v], 26⟩]] := hS22.leaveF hR22
   have h24 : Rd m6 s1 t_23.2.code := by rw [hk24]; exact h16
   refine ⟨kpC hSo hS 2 2 rfl rfl kpN, ?_⟩
   obtain ⟨e_25, he_25, hr⟩ := bindS hr
   obtain ⟨vs26, at26, d26⟩ := h9.at he_25 4 rfl
   obtain ⟨s27, s28, rfl, h27, h28⟩ : ∃ s27 s28 : Sl, vs26 = [(.int .i64 e_25.Level), s27.v, s28.v, (.int .i64 e_25.Sum)] ∧ Rd m6 s27 e_25.Vars ∧ Rd m6 s28 e_25.Where := d26
   refine e_p (v := (elP s9 (t_23.1.toNat * 4))) 11 hF rfl (ex_indexAddr Try.underlying37 sz29 rfl rfl (h9.idx he_25)) rfl rfl (by kernel_rfl) (by kernel_rfl) (by kernel_rfl) fun a hF => e_one 12 (by kernel_rfl) (e_lx (v := (.agg #[(.int .i64 e_25.Level), s27.v, s28.v, (.int .i64 e_25.Sum)])) hF hS rfl (ex_loadEA (us := [(.int .i64 e_25.Level), s27.v, s28.v, (.int .i64 e_25.Sum)]) 0 Try.underlying29 rfl sz29 rfl (at26.at 1 rfl) rfl rfl rfl) rfl rfl fun a hF => e_one 13 (by kernel_rfl) ?_)
   have hS29 : St _ _ _ _ ([[⟨b4, [s1.v, (.int .i64 t_23.2.at_), (.int .u64 t_23.2.seed.v)], 65⟩]] ++ [q9, [⟨b10, [s7.v], 26⟩], [⟨b3, [(.int .i64 0), nilS.v, nilS.v, (.int .i64 0)], 29⟩], [⟨b2, [nilS.v], 26⟩]]) := hS
   have hE29 := hS29.enter
   obtain ⟨t_30, ht_30, hr⟩ := bindS hr
   have hSo := hS
   refine e_opl rfl rfl rfl fun _ hK => wp_callX (vs := [(.pointer (some ⟨b4, 0, none⟩)), (.agg #[s7.v]), s8.v, (.agg #[(.int .i64 e_25.Level), s27.v, s28.v, (.int .i64 e_25.Sum)])]) hF Try.func40 (by kernel_rfl) rfl rfl rfl (c_spec_l1Cur_below t_23.2 t_5.1 t_5.2.1 e_25 t_30 ht_30 _ m6 b4 s1 h24 s7 h7 s8 h8 s27 h27 s28 h28 _ hE29) fun a w _ hR hF => hK _ _ ?_
   obtain ⟨q31, q32, s31, s32, rfl, hR29, h31, h32, hk33⟩ := hR
   have hS : St _ _ _ _ [[⟨b4, [s1.v, (.int .i64 t_30.2.at_), (.int .u64 t_30.2.seed.v)], 65⟩], q31, q32, q9, [⟨b10, [s7.v], 26⟩], [⟨b3, [(.int .i64 0), nilS.v, nilS.v, (.int .i64 0)], 29⟩], [⟨b2, [nilS.v], 26⟩]] := hS29.leaveF hR29
   have h33 : Rd m6 s1 t_30.2.code := by rw [hk33]; exact h24
   refine ⟨kpC hSo hS 2 4 rfl rfl kpN, ?_⟩
   refine e_one 14 (by kernel_rfl) ?_
   have hSo := hS
   refine e_store (vs := [s7.v]) (cs' := [s7.v]) 6 0 hF hS rfl rfl sz26 rfl rfl rfl rfl rfl rfl rfl rfl fun a w hF hS => ⟨kpC hSo hS 4 4 rfl rfl kpN, ?_⟩
   refine e_p (v := s8.v) 15 hF rfl (ex_assign rfl) rfl rfl (by kernel_rfl) (by kernel_rfl) (by kernel_rfl) fun a hF => e_p (v := s9.v) 16 hF rfl (ex_assign rfl) rfl rfl (by kernel_rfl) (by kernel_rfl) (by kernel_rfl) fun a hF => e_one 17 (by kernel_rfl) ?_
   have hSo := hS
   refine e_store (vs := [(.int .i64 t_30.1.Level), s31.v, s32.v, (.int .i64 t_30.1.Sum)]) (cs' := [(.int .i64 t_30.1.Level), s31.v, s32.v, (.int .i64 t_30.1.Sum)]) 5 0 hF hS rfl rfl sz29 rfl rfl rfl rfl rfl rfl rfl rfl fun a w hF hS => ⟨kpC hSo hS 4 4 rfl rfl kpN, ?_⟩
   refine e_end (by kernel_rfl) (n_sq (q_ret (r_sq ?_))) _
   obtain rfl := someI hr
   exact ret_of hF hS rfl (.cellA (us := [s7.v]) 6 0 Try.underlying26 rfl sz26 rfl rfl rfl rfl (.tmp rfl (.tmp rfl (.cellA (us := [(.int .i64 t_30.1.Level), s31.v, s32.v, (.int .i64 t_30.1.Sum)]) 5 0 Try.underlying29 rfl sz29 rfl rfl rfl rfl .nil)))) ⟨m6, q9, q31, q32, s7, s8, s9, s31, s32, rfl, hm6, hS.sel [3, 1, 2] (by decide), h7, h8, h9, h31, h32⟩

theorem c_impl_CheapestSource (p_g : impl_Geo) (p_s : List impl_Variable) (p_l : List impl_Table) (p_t : impl_Table) (r : Int × Bool) (hr : impl_CheapestSource p_g p_s p_l p_t = some r) (w0 : World) (m : Mem) (hv : Vis m w0) (s1 : Sl) (h1 : Rd m s1 p_g.Parents) (s2 : Sl) (h2 : Rd m s2 p_s) (s3 : Sl) (h3 : Rd m s3 p_l) (s4 : Sl) (h4 : Rd m s4 p_t.Vars) (s5 : Sl) (h5 : Rd m s5 p_t.Where) :
  Ret Try.prog 26 [(.agg #[s1.v]), s2.v, s3.v, (.agg #[(.int .i64 p_t.Level), s4.v, s5.v, (.int .i64 p_t.Sum)])] w0 (fun v _ => v = (.tuple #[(.int .i64 r.1), (.bool r.2)])) := by
 unfold impl_CheapestSource at hr
 refine ret_start Try.func26 rfl 60 rfl rfl m hv fun a hF hS => q_seq (q_region (q_box (cs := [s1.v]) hF hS rfl rfl rfl fun a w b6 hF hS => q_box (cs := [(.int .i64 p_t.Level), s4.v, s5.v, (.int .i64 p_t.Sum)]) hF hS rfl rfl rfl fun a w b7 hF hS => q_x (v := (.int .i64 0)) hF hS (ex_assign rfl) rfl rfl fun a hF => q_x (v := (.bool false)) hF hS (ex_assign rfl) rfl rfl fun a hF => q_end (n_sq (q_seq (q_seq ?_)))))
 obtain ⟨t_10, hj1, hr⟩ := bindS hr
 refine q_join (fun a w => Fr a 60 [(1, s2.v), (2, s3.v), (4, (.pointer (some ⟨b6, 0, none⟩))), (7, (.pointer (some ⟨b7, 0, none⟩))), (24, (.bool t_10))] ∧ St [] w0 w m [[⟨b7, [(.int .i64 p_t.Level), s4.v, s5.v, (.int .i64 p_t.Sum)], 29⟩], [⟨b6, [s1.v], 26⟩]]) ?_ ?_
 ·refine q_region (q_x (v := (.agg #[s1.v])) hF hS (ex_loadA (vs := [s1.v]) 1 0 Try.underlying26 rfl sz26 rfl rfl rfl rfl) rfl rfl fun a hF => q_x (v := s2.v) hF hS (ex_move rfl) rfl rfl fun a hF => q_x (v := s3.v) hF hS (ex_move rfl) rfl rfl fun a hF => ?_)
  obtain ⟨t_8, ht_8, hj1⟩ := bindS hj1
  refine q_call (vs := [(.agg #[s1.v]), s2.v, s3.v]) hF hS Try.func42 (by kernel_rfl) rfl rfl rfl (c_impl_isPlan p_g p_s p_l t_8 ht_8 _ m hS.vis s1 h1 s2 h2 s3 h3) ?_
  rintro a w _ rfl hF hS
  refine q_x (v := (.bool (!t_8))) hF hS (ex_not rfl) rfl rfl fun a hF => q_x (v := (.bool (!t_8))) hF hS (ex_move rfl) rfl rfl fun a hF => ?_
  rcases bcase (!t_8) with hc2 | hc2
  ·have hj1 := cond_f hc2 hj1
   refine q_xg (v := (.agg #[s1.v])) hF hS (ex_loadA (vs := [s1.v]) 1 0 Try.underlying26 rfl sz26 rfl rfl rfl rfl) (wanted_t hF rfl rfl rfl hc2) rfl fun a hF => q_xg (v := s2.v) hF hS (ex_move rfl) (wanted_t hF rfl rfl rfl hc2) rfl fun a hF => q_xg (v := (.agg #[(.int .i64 p_t.Level), s4.v, s5.v, (.int .i64 p_t.Sum)])) hF hS (ex_loadA (vs := [(.int .i64 p_t.Level), s4.v, s5.v, (.int .i64 p_t.Sum)]) 0 0 Try.underlying29 rfl sz29 rfl rfl rfl rfl) (wanted_t hF rfl rfl rfl hc2) rfl fun a hF => ?_
   obtain ⟨t_9, ht_9, hj1⟩ := bindS hj1
   refine q_callg (vs := [(.agg #[s1.v]), s2.v, (.agg #[(.int .i64 p_t.Level), s4.v, s5.v, (.int .i64 p_t.Sum)])]) hF hS (wanted_t hF rfl rfl rfl hc2) Try.func30 (by kernel_rfl) rfl rfl rfl (c_impl_isTable p_g p_s p_t t_9 ht_9 _ m hS.vis s1 h1 s2 h2 s4 h4 s5 h5) ?_
   rintro a w _ rfl hF hS
   refine q_xg (v := (.bool (!t_9))) hF hS (ex_not rfl) (wanted_t hF rfl rfl rfl hc2) rfl fun a hF => q_x (v := (.bool (!t_9))) hF hS (ex_pick_f rfl rfl hc2) rfl rfl fun a hF => q_end (n_jn ?_)
   obtain rfl := someI hj1
   exact ⟨hF.sub ⟨rfl, rfl, rfl, rfl, rfl, trivial⟩, hS⟩
  ·have hj1 := cond_t hc2 hj1
   refine q_skip hF (wanted_f hF rfl rfl rfl hc2 rfl) rfl fun a hF => q_skip hF (wanted_f hF rfl rfl rfl hc2 rfl) rfl fun a hF => q_skip hF (wanted_f hF rfl rfl rfl hc2 rfl) rfl fun a hF => q_skip hF (wanted_f hF rfl rfl rfl hc2 rfl) rfl fun a hF => q_skip hF (wanted_f hF rfl rfl rfl hc2 rfl) rfl fun a hF => q_x (v := (.bool true)) hF hS (ex_pick_t rfl rfl hc2) rfl rfl fun a hF => q_end (n_jn ?_)
   obtain rfl := someI hj1
   exact ⟨hF.sub ⟨rfl, rfl, rfl, rfl, rfl, trivial⟩, hS⟩
 ·rintro a w ⟨hF, hS⟩
  refine n_sq ?_
  rcases bcase (t_10) with hc3 | hc3
  ·have hr := cond_f hc3 hr
   refine q_cond_f hF rfl hc3 (q_skipc (n_sq (q_seq (q_region (q_x (v := (.int .i64 (-1))) hF hS (ex_assign rfl) rfl rfl fun a hF => q_end (n_sq (q_seq (q_seq (q_region (q_x (v := s3.v) hF hS (ex_move rfl) rfl rfl fun a hF => q_x (v := (.int .i64 (goLen p_l))) hF hS (ex_len Try.underlying37 rfl h3.len) rfl rfl fun a hF => q_x (v := (.int .i64 0)) hF hS (ex_move rfl) rfl rfl fun a hF => q_end (n_sq (q_block ?_))))))))))))
   obtain ⟨best_33, hl4, hr⟩ := bindS hr
   refine q_loop (fun (s : Int × Int) a w => ∃ best_11, ∃ t_12, s = (best_11, t_12) ∧ Fr a 60 [(1, s2.v), (2, s3.v), (4, (.pointer (some ⟨b6, 0, none⟩))), (7, (.pointer (some ⟨b7, 0, none⟩))), (10, (.int .i64 best_11)), (25, s3.v), (26, (.int .i64 (goLen p_l))), (27, (.int .i64 t_12))] ∧ St [] w0 w m [[⟨b7, [(.int .i64 p_t.Level), s4.v, s5.v, (.int .i64 p_t.Sum)], 29⟩], [⟨b6, [s1.v], 26⟩]]) (fun (best_33 : Int) e a w => e = .exit 0 ∧ Fr a 60 [(10, (.int .i64 best_33))] ∧ St [] w0 w m []) hl4 ⟨_, _, rfl, hF.sub ⟨rfl, rfl, rfl, rfl, rfl, rfl, rfl, rfl, trivial⟩, hS⟩ ?_ ?_
   ·clear hF hS
    rintro s a w st ⟨best_11, t_12, rfl, hF, hS⟩ hb4
    unfold impl_CheapestSource_l1 at hb4
    refine q_seq (q_region (q_x (v := (.bool (decide (t_12 < (goLen p_l))))) hF hS (ex_ibin rfl rfl rfl) rfl rfl fun a hF => q_end (n_sq (q_seq ?_))))
    rcases bcase (decide (t_12 < (goLen p_l))) with hc5 | hc5
    ·have hb4 := cond_f hc5 hb4
     refine q_cond_f hF rfl hc5 (q_exit (x_sq ?_))
     obtain rfl := someI hb4
     exact ⟨nofun, .inl ⟨rfl, hF.sub ⟨rfl, trivial⟩, hS.mask [false, false]⟩⟩
    ·have hb4 := cond_t hc5 hb4
     refine q_cond_t hF rfl hc5 (q_skipc (n_sq (q_seq (q_block (q_seq (q_region (q_x (v := (.int .i64 t_12)) hF hS (ex_move rfl) rfl rfl fun a hF => ?_)))))))
     obtain ⟨e_13, he_13, hb4⟩ := bindS hb4
     obtain ⟨vs14, at14, d14⟩ := h3.at he_13 4 rfl
     obtain ⟨s15, s16, rfl, h15, h16⟩ : ∃ s15 s16 : Sl, vs14 = [(.int .i64 e_13.Level), s15.v, s16.v, (.int .i64 e_13.Sum)] ∧ Rd m s15 e_13.Vars ∧ Rd m s16 e_13.Where := d14
     refine q_x (v := (elP s3 (t_12.toNat * 4))) hF hS (ex_indexAddr Try.underlying37 sz29 rfl rfl (h3.idx he_13)) rfl rfl fun a hF => q_x (v := (.agg #[(.int .i64 e_13.Level), s15.v, s16.v, (.int .i64 e_13.Sum)])) hF hS (ex_loadEA (us := [(.int .i64 e_13.Level), s15.v, s16.v, (.int .i64 e_13.Sum)]) 0 Try.underlying29 rfl sz29 rfl ((at14).at) rfl rfl rfl) rfl rfl fun a hF => q_alloc (cs := [(.int .i64 0), nilS.v, nilS.v, (.int .i64 0)]) hF hS rfl rfl rfl fun a w b17 hF hS => q_x (v := (.int .i64 t_12)) hF hS (ex_assign rfl) rfl rfl fun a hF => q_store (vs := [(.int .i64 e_13.Level), s15.v, s16.v, (.int .i64 e_13.Sum)]) (cs' := [(.int .i64 e_13.Level), s15.v, s16.v, (.int .i64 e_13.Sum)]) 0 0 hF hS sz29 rfl rfl rfl rfl rfl rfl rfl rfl fun a w hF hS => q_end (n_sq (q_seq ?_))
     obtain ⟨t_31, hj6, hb4⟩ := bindS hb4
     refine q_join (fun a w => Fr a 60 [(1, s2.v), (2, s3.v), (4, (.pointer (some ⟨b6, 0, none⟩))), (7, (.pointer (some ⟨b7, 0, none⟩))), (10, (.int .i64 best_11)), (11, (.int .i64 t_12)), (25, s3.v), (26, (.int .i64 (goLen p_l))), (27, (.int .i64 t_12)), (54, (.bool t_31))] ∧ St [] w0 w m [[⟨b7, [(.int .i64 p_t.Level), s4.v, s5.v, (.int .i64 p_t.Sum)], 29⟩], [⟨b6, [s1.v], 26⟩]]) ?_ ?_
     ·refine e_region ⟨[], []⟩ mixed fun w' hw' => ?_
      have hS := hS.below hw'
      refine e_x (v := (.agg #[s1.v])) 0 hF hS rfl (ex_loadA (vs := [s1.v]) 2 0 Try.underlying26 rfl sz26 rfl rfl rfl rfl) rfl rfl (by kernel_rfl) (by kernel_rfl) (by kernel_rfl) (by kernel_rfl) fun a hF => e_p (v := s2.v) 1 hF rfl (ex_move rfl) rfl rfl (by kernel_rfl) (by kernel_rfl) (by kernel_rfl) fun a hF => e_x (v := (.agg #[(.int .i64 p_t.Level), s4.v, s5.v, (.int .i64 p_t.Sum)])) 2 hF hS rfl (ex_loadA (vs := [(.int .i64 p_t.Level), s4.v, s5.v, (.int .i64 p_t.Sum)]) 1 0 Try.underlying29 rfl sz29 rfl rfl rfl rfl) rfl rfl (by kernel_rfl) (by kernel_rfl) (by kernel_rfl) (by kernel_rfl) fun a hF => e_x (v := (.agg #[(.int .i64 e_13.Level), s15.v, s16.v, (.int .i64 e_13.Sum)])) 3 hF hS rfl (ex_loadA (vs := [(.int .i64 e_13.Level), s15.v, s16.v, (.int .i64 e_13.Sum)]) 0 0 Try.underlying29 rfl sz29 rfl rfl rfl rfl) rfl rfl (by kernel_rfl) (by kernel_rfl) (by kernel_rfl) (by kernel_rfl) fun a hF => e_one 4 (by kernel_rfl) ?_
      obtain ⟨t_18, ht_18, hj6⟩ := bindS hj6
      refine e_call (vs := [(.agg #[s1.v]), s2.v, (.agg #[(.int .i64 p_t.Level), s4.v, s5.v, (.int .i64 p_t.Sum)]), (.agg #[(.int .i64 e_13.Level), s15.v, s16.v, (.int .i64 e_13.Sum)])]) hF hS rfl Try.func34 (by kernel_rfl) rfl rfl rfl (c_impl_followsFrom p_g p_s p_t e_13 t_18 ht_18 _ m hS.vis s1 h1 s2 h2 s4 h4 s5 h5 s15 h15 s16 h16) ?_
      rintro a w _ rfl hF hS
      refine e_p (v := (.bool t_18)) 5 hF rfl (ex_move rfl) rfl rfl (by kernel_rfl) (by kernel_rfl) (by kernel_rfl) fun a hF => ?_
      rcases bcase (t_18) with hc7 | hc7
      ·have hj6 := cond_f hc7 hj6
       refine e_skipP 6 hF rfl (wanted_f hF rfl rfl rfl hc7 rfl) rfl (by kernel_rfl) (by kernel_rfl) (by kernel_rfl) fun a hF => e_skipP 7 hF rfl (wanted_f hF rfl rfl rfl hc7 rfl) rfl (by kernel_rfl) (by kernel_rfl) (by kernel_rfl) fun a hF => e_skipP 8 hF rfl (wanted_f hF rfl rfl rfl hc7 rfl) rfl (by kernel_rfl) (by kernel_rfl) (by kernel_rfl) fun a hF => e_skipP 9 hF rfl (wanted_u hF rfl rfl rfl) rfl (by kernel_rfl) (by kernel_rfl) (by kernel_rfl) fun a hF => e_skipP 10 hF rfl (wanted_u hF rfl rfl rfl) rfl (by kernel_rfl) (by kernel_rfl) (by kernel_rfl) fun a hF => e_skipP 11 hF rfl (wanted_u hF rfl rfl rfl) rfl (by kernel_rfl) (by kernel_rfl) (by kernel_rfl) fun a hF => e_skipP 12 hF rfl (wanted_u hF rfl rfl rfl) rfl (by kernel_rfl) (by kernel_rfl) (by kernel_rfl) fun a hF => e_skipP 13 hF rfl (wanted_u hF rfl rfl rfl) rfl (by kernel_rfl) (by kernel_rfl) (by kernel_rfl) fun a hF => e_skipP 14 hF rfl (wanted_u hF rfl rfl rfl) rfl (by kernel_rfl) (by kernel_rfl) (by kernel_rfl) fun a hF => e_skipP 15 hF rfl (wanted_u hF rfl rfl rfl) rfl (by kernel_rfl) (by kernel_rfl) (by kernel_rfl) fun a hF => e_skipP 16 hF rfl (wanted_u hF rfl rfl rfl) rfl (by kernel_rfl) (by kernel_rfl) (by kernel_rfl) fun a hF => e_skipP 17 hF rfl (wanted_u hF rfl rfl rfl) rfl (by kernel_rfl) (by kernel_rfl) (by kernel_rfl) fun a hF => e_skipP 18 hF rfl (wanted_u hF rfl rfl rfl) rfl (by kernel_rfl) (by kernel_rfl) (by kernel_rfl) fun a hF => e_skipP 19 hF rfl (wanted_u hF rfl rfl rfl) rfl (by kernel_rfl) (by kernel_rfl) (by kernel_rfl) fun a hF => e_skipP 20 hF rfl (wanted_u hF rfl rfl rfl) rfl (by kernel_rfl) (by kernel_rfl) (by kernel_rfl) fun a hF => e_skipP 21 hF rfl (wanted_f hF rfl rfl rfl hc7 rfl) rfl (by kernel_rfl) (by kernel_rfl) (by kernel_rfl) fun a hF => e_p (v := (.bool false)) 22 hF rfl (ex_pick_f rfl rfl hc7) rfl rfl (by kernel_rfl) (by kernel_rfl) (by kernel_rfl) fun a hF => e_end (by kernel_rfl) (n_jn ?_) _
       obtain rfl := someI hj6
       exact ⟨hF.sub ⟨rfl, rfl, rfl, rfl, rfl, rfl, rfl, rfl, rfl, rfl, trivial⟩, hS.mask [false, true, true]⟩
      ·have hj6 := cond_t hc7 hj6
       refine e_pg (v := (.int .i64 best_11)) 6 hF rfl (ex_move rfl) (wanted_t hF rfl rfl rfl hc7) rfl (by kernel_rfl) (by kernel_rfl) (by kernel_rfl) fun a hF => e_pg (v := (.bool (decide (best_11 < 0)))) 7 hF rfl (ex_ibin rfl rfl rfl) (wanted_t hF rfl rfl rfl hc7) rfl (by kernel_rfl) (by kernel_rfl) (by kernel_rfl) fun a hF => e_pg (v := (.bool (decide (best_11 < 0)))) 8 hF rfl (ex_move rfl) (wanted_t hF rfl rfl rfl hc7) rfl (by kernel_rfl) (by kernel_rfl) (by kernel_rfl) fun a hF => ?_
       rcases bcase (decide (best_11 < 0)) with hc8 | hc8
       ·have hj6 := cond_f hc8 hj6
        refine e_xg (v := (.agg #[s1.v])) 9 hF hS rfl (ex_loadA (vs := [s1.v]) 2 0 Try.underlying26 rfl sz26 rfl rfl rfl rfl) (wanted_t hF rfl rfl rfl hc8) rfl (by kernel_rfl) (by kernel_rfl) (by kernel_rfl) (by kernel_rfl) fun a hF => e_pg (v := s2.v) 10 hF rfl (ex_move rfl) (wanted_t hF rfl rfl rfl hc8) rfl (by kernel_rfl) (by kernel_rfl) (by kernel_rfl) fun a hF => e_xg (v := (.agg #[(.int .i64 e_13.Level), s15.v, s16.v, (.int .i64 e_13.Sum)])) 11 hF hS rfl (ex_loadA (vs := [(.int .i64 e_13.Level), s15.v, s16.v, (.int .i64 e_13.Sum)]) 0 0 Try.underlying29 rfl sz29 rfl rfl rfl rfl) (wanted_t hF rfl rfl rfl hc8) rfl (by kernel_rfl) (by kernel_rfl) (by kernel_rfl) (by kernel_rfl) fun a hF => e_xg (v := (.agg #[s1.v])) 13 hF hS rfl (ex_loadA (vs := [s1.v]) 2 0 Try.underlying26 rfl sz26 rfl rfl rfl rfl) (wanted_t hF rfl rfl rfl hc8) rfl (by kernel_rfl) (by kernel_rfl) (by kernel_rfl) (by kernel_rfl) fun a hF => e_pg (v := s2.v) 14 hF rfl (ex_move rfl) (wanted_t hF rfl rfl rfl hc8) rfl (by kernel_rfl) (by kernel_rfl) (by kernel_rfl) fun a hF => e_pg (v := s3.v) 15 hF rfl (ex_move rfl) (wanted_t hF rfl rfl rfl hc8) rfl (by kernel_rfl) (by kernel_rfl) (by kernel_rfl) fun a hF => e_pg (v := (.int .i64 best_11)) 16 hF rfl (ex_move rfl) (wanted_t hF rfl rfl rfl hc8) rfl (by kernel_rfl) (by kernel_rfl) (by kernel_rfl) fun a hF => ?_
        obtain ⟨e_24, he_24, hj6⟩ := bindS hj6
        obtain ⟨vs25, at25, d25⟩ := h3.at he_24 4 rfl
        obtain ⟨s26, s27, rfl, h26, h27⟩ : ∃ s26 s27 : Sl, vs25 = [(.int .i64 e_24.Level), s26.v, s27.v, (.int .i64 e_24.Sum)] ∧ Rd m s26 e_24.Vars ∧ Rd m s27 e_24.Where := d25
        refine e_pg (v := (elP s3 (best_11.toNat * 4))) 17 hF rfl (ex_indexAddr Try.underlying37 sz29 rfl rfl (h3.idx he_24)) (wanted_t hF rfl rfl rfl hc8) rfl (by kernel_rfl) (by kernel_rfl) (by kernel_rfl) fun a hF => e_xg (v := (.agg #[(.int .i64 e_24.Level), s26.v, s27.v, (.int .i64 e_24.Sum)])) 18 hF hS rfl (ex_loadEA (us := [(.int .i64 e_24.Level), s26.v, s27.v, (.int .i64 e_24.Sum)]) 0 Try.underlying29 rfl sz29 rfl ((at25).at) rfl rfl rfl) (wanted_t hF rfl rfl rfl hc8) rfl (by kernel_rfl) (by kernel_rfl) (by kernel_rfl) (by kernel_rfl) fun a hF => e_one 12 (by kernel_rfl) ?_
        obtain ⟨t_29, ht_29, hj6⟩ := bindS hj6
        refine e_callg (vs := [(.agg #[s1.v]), s2.v, (.agg #[(.int .i64 e_13.Level), s15.v, s16.v, (.int .i64 e_13.Sum)])]) hF hS rfl (wanted_t hF rfl rfl rfl hc8) Try.func46 (by kernel_rfl) rfl rfl rfl (c_impl_cellCount p_g p_s e_13 t_29 ht_29 _ m hS.vis s1 h1 s2 h2 s15 h15 s16 h16) ?_
        rintro a w _ rfl hF hS
        refine e_one 19 (by kernel_rfl) ?_
        obtain ⟨t_30, ht_30, hj6⟩ := bindS hj6
        refine e_callg (vs := [(.agg #[s1.v]), s2.v, (.agg #[(.int .i64 e_24.Level), s26.v, s27.v, (.int .i64 e_24.Sum)])]) hF hS rfl (wanted_t hF rfl rfl rfl hc8) Try.func46 (by kernel_rfl) rfl rfl rfl (c_impl_cellCount p_g p_s e_24 t_30 ht_30 _ m hS.vis s1 h1 s2 h2 s26 h26 s27 h27) ?_
        rintro a w _ rfl hF hS
        refine e_pg (v := (.bool (decide (t_29 < t_30)))) 20 hF rfl (ex_ibin rfl rfl rfl) (wanted_t hF rfl rfl rfl hc8) rfl (by kernel_rfl) (by kernel_rfl) (by kernel_rfl) fun a hF => e_pg (v := (.bool (decide (t_29 < t_30)))) 21 hF rfl (ex_pick_f rfl rfl hc8) (wanted_t hF rfl rfl rfl hc7) rfl (by kernel_rfl) (by kernel_rfl) (by kernel_rfl) fun a hF => e_p (v := (.bool (decide (t_29 < t_30)))) 22 hF rfl (ex_pick_t rfl rfl hc7) rfl rfl (by kernel_rfl) (by kernel_rfl) (by kernel_rfl) fun a hF => e_end (by kernel_rfl) (n_jn ?_) _
        obtain rfl := someI hj6
        exact ⟨hF.sub ⟨rfl, rfl, rfl, rfl, rfl, rfl, rfl, rfl, rfl, rfl, trivial⟩, hS.mask [false, true, true]⟩
       ·have hj6 := cond_t hc8 hj6
        refine e_skipP 9 hF rfl (wanted_f hF rfl rfl rfl hc8 rfl) rfl (by kernel_rfl) (by kernel_rfl) (by kernel_rfl) fun a hF => e_skipP 10 hF rfl (wanted_f hF rfl rfl rfl hc8 rfl) rfl (by kernel_rfl) (by kernel_rfl) (by kernel_rfl) fun a hF => e_skipP 11 hF rfl (wanted_f hF rfl rfl rfl hc8 rfl) rfl (by kernel_rfl) (by kernel_rfl) (by kernel_rfl) fun a hF => e_skipP 12 hF rfl (wanted_f hF rfl rfl rfl hc8 rfl) rfl (by kernel_rfl) (by kernel_rfl) (by kernel_rfl) fun a hF => e_skipP 13 hF rfl (wanted_f hF rfl rfl rfl hc8 rfl) rfl (by kernel_rfl) (by kernel_rfl) (by kernel_rfl) fun a hF => e_skipP 14 hF rfl (wanted_f hF rfl rfl rfl hc8 rfl) rfl (by kernel_rfl) (by kernel_rfl) (by kernel_rfl) fun a hF => e_skipP 15 hF rfl (wanted_f hF rfl rfl rfl hc8 rfl) rfl (by kernel_rfl) (by kernel_rfl) (by kernel_rfl) fun a hF => e_skipP 16 hF rfl (wanted_f hF rfl rfl rfl hc8 rfl) rfl (by kernel_rfl) (by kernel_rfl) (by kernel_rfl) fun a hF => e_skipP 17 hF rfl (wanted_f hF rfl rfl rfl hc8 rfl) rfl (by kernel_rfl) (by kernel_rfl) (by kernel_rfl) fun a hF => e_skipP 18 hF rfl (wanted_f hF rfl rfl rfl hc8 rfl) rfl (by kernel_rfl) (by kernel_rfl) (by kernel_rfl) fun a hF => e_skipP 19 hF rfl (wanted_f hF rfl rfl rfl hc8 rfl) rfl (by kernel_rfl) (by kernel_rfl) (by kernel_rfl) fun a hF => e_skipP 20 hF rfl (wanted_f hF rfl rfl rfl hc8 rfl) rfl (by kernel_rfl) (by kernel_rfl) (by kernel_rfl) fun a hF => e_pg (v := (.bool true)) 21 hF rfl (ex_pick_t rfl rfl hc8) (wanted_t hF rfl rfl rfl hc7) rfl (by kernel_rfl) (by kernel_rfl) (by kernel_rfl) fun a hF => e_p (v := (.bool true)) 22 hF rfl (ex_pick_t rfl rfl hc7) rfl rfl (by kernel_rfl) (by kernel_rfl) (by kernel_rfl) fun a hF => e_end (by kernel_rfl) (n_jn ?_) _
        obtain rfl := someI hj6
        exact ⟨hF.sub ⟨rfl, rfl, rfl, rfl, rfl, rfl, rfl, rfl, rfl, rfl, trivial⟩, hS.mask [false, true, true]⟩
     ·rintro a w ⟨hF, hS⟩
      refine n_sq ?_
      obtain ⟨best_32, hj9, hb4⟩ := bindS hb4
      refine q_join (fun a w => Fr a 60 [(1, s2.v), (2, s3.v), (4, (.pointer (some ⟨b6, 0, none⟩))), (7, (.pointer (some ⟨b7, 0, none⟩))), (10, (.int .i64 best_32)), (25, s3.v), (26, (.int .i64 (goLen p_l))), (27, (.int .i64 t_12))] ∧ St [] w0 w m [[⟨b7, [(.int .i64 p_t.Level), s4.v, s5.v, (.int .i64 p_t.Sum)], 29⟩], [⟨b6, [s1.v], 26⟩]]) ?_ ?_
      ·rcases bcase (t_31) with hc10 | hc10
       ·have hj9 := cond_f hc10 hj9
        refine q_cond_f hF rfl hc10 (q_skipc (n_jn ?_))
        obtain rfl := someI hj9
        exact ⟨hF.sub ⟨rfl, rfl, rfl, rfl, rfl, rfl, rfl, rfl, trivial⟩, hS⟩
       ·have hj9 := cond_t hc10 hj9
        refine q_cond_t hF rfl hc10 (q_region (q_x (v := (.int .i64 t_12)) hF hS (ex_move rfl) rfl rfl fun a hF => q_x (v := (.int .i64 t_12)) hF hS (ex_assign rfl) rfl rfl fun a hF => q_end (n_jn ?_)))
        obtain rfl := someI hj9
        exact ⟨hF.sub ⟨rfl, rfl, rfl, rfl, rfl, rfl, rfl, rfl, trivial⟩, hS⟩
      ·rintro a w ⟨hF, hS⟩
       refine n_ib (n_sq ?_)
       refine q_region (q_x (v := (.int .i64 (w64 (t_12 + 1)))) hF hS (ex_ibin rfl rfl rfl) rfl rfl fun a hF => q_x (v := (.int .i64 (w64 (t_12 + 1)))) hF hS (ex_move rfl) rfl rfl fun a hF => q_end ?_)
       obtain rfl := someI hb4
       exact ⟨rfl, _, _, rfl, hF.sub ⟨rfl, rfl, rfl, rfl, rfl, rfl, rfl, rfl, trivial⟩, hS⟩
   ·rintro e a w ⟨rfl, hF, hS⟩
    refine x_ib (n_sq ?_)
    refine q_seq (q_seq (q_region (q_x (v := (.int .i64 best_33)) hF hS (ex_move rfl) rfl rfl fun a hF => q_x (v := (.bool (decide (best_33 < 0)))) hF hS (ex_ibin rfl rfl rfl) rfl rfl fun a hF => q_end (n_sq ?_))))
    rcases bcase (decide (best_33 < 0)) with hc11 | hc11
    ·have hr := cond_f hc11 hr
     refine q_cond_f hF rfl hc11 (q_skipc (n_sq (q_seq (q_region (q_x (v := (.int .i64 best_33)) hF hS (ex_move rfl) rfl rfl fun a hF => q_x (v := (.int .i64 best_33)) hF hS (ex_assign rfl) rfl rfl fun a hF => q_x (v := (.bool true)) hF hS (ex_assign rfl) rfl rfl fun a hF => q_end (n_sq (q_ret ?_)))))))
     obtain rfl := someI hr
     exact ret_of hF hS rfl (.tmp rfl (.tmp rfl .nil)) rfl
    ·have hr := cond_t hc11 hr
     refine q_cond_t hF rfl hc11 (q_seq (q_region (q_x (v := (.int .i64 0)) hF hS (ex_assign rfl) rfl rfl fun a hF => q_x (v := (.bool false)) hF hS (ex_assign rfl) rfl rfl fun a hF => q_end (n_sq (q_ret (r_sq ?_))))))
     obtain rfl := someI hr
     exact ret_of hF hS rfl (.tmp rfl (.tmp rfl .nil)) rfl
  ·have hr := cond_t hc3 hr
   refine q_cond_t hF rfl hc3 (q_seq (q_region (q_x (v := (.int .i64 0)) hF hS (ex_assign rfl) rfl rfl fun a hF => q_x (v := (.bool false)) hF hS (ex_assign rfl) rfl rfl fun a hF => q_end (n_sq (q_ret (r_sq ?_))))))
   obtain rfl := someI hr
   exact ret_of hF hS rfl (.tmp rfl (.tmp rfl .nil)) rfl

theorem c_spec_CheapestSource (p_g : impl_Geo) (p_s : List impl_Variable) (p_l : List impl_Table) (p_t : impl_Table) (r : Int × Bool) (hr : spec_CheapestSource p_g p_s p_l p_t = some r) (w0 : World) (m : Mem) (hv : Vis m w0) (s1 : Sl) (h1 : Rd m s1 p_g.Parents) (s2 : Sl) (h2 : Rd m s2 p_s) (s3 : Sl) (h3 : Rd m s3 p_l) (s4 : Sl) (h4 : Rd m s4 p_t.Vars) (s5 : Sl) (h5 : Rd m s5 p_t.Where) :
  Ret Try.prog 27 [(.agg #[s1.v]), s2.v, s3.v, (.agg #[(.int .i64 p_t.Level), s4.v, s5.v, (.int .i64 p_t.Sum)])] w0 (fun v _ => v = (.tuple #[(.int .i64 r.1), (.bool r.2)])) := by
 unfold spec_CheapestSource at hr
 refine ret_start Try.func27 rfl 60 rfl rfl m hv fun a hF hS => q_seq (q_region (q_box (cs := [s1.v]) hF hS rfl rfl rfl fun a w b6 hF hS => q_box (cs := [(.int .i64 p_t.Level), s4.v, s5.v, (.int .i64 p_t.Sum)]) hF hS rfl rfl rfl fun a w b7 hF hS => q_x (v := (.int .i64 0)) hF hS (ex_assign rfl) rfl rfl fun a hF => q_x (v := (.bool false)) hF hS (ex_assign rfl) rfl rfl fun a hF => q_end (n_sq (q_seq (q_seq ?_)))))
 obtain ⟨t_10, hj1, hr⟩ := bindS hr
 refine q_join (fun a w => Fr a 60 [(1, s2.v), (2, s3.v), (4, (.pointer (some ⟨b6, 0, none⟩))), (7, (.pointer (some ⟨b7, 0, none⟩))), (24, (.bool t_10))] ∧ St [] w0 w m [[⟨b7, [(.int .i64 p_t.Level), s4.v, s5.v, (.int .i64 p_t.Sum)], 29⟩], [⟨b6, [s1.v], 26⟩]]) ?_ ?_
 ·refine q_region (q_x (v := (.agg #[s1.v])) hF hS (ex_loadA (vs := [s1.v]) 1 0 Try.underlying26 rfl sz26 rfl rfl rfl rfl) rfl rfl fun a hF => q_x (v := s2.v) hF hS (ex_move rfl) rfl rfl fun a hF => q_x (v := s3.v) hF hS (ex_move rfl) rfl rfl fun a hF => ?_)
  obtain ⟨t_8, ht_8, hj1⟩ := bindS hj1
  refine q_call (vs := [(.agg #[s1.v]), s2.v, s3.v]) hF hS Try.func45 (by kernel_rfl) rfl rfl rfl (c_spec_nPlan p_g p_s p_l t_8 ht_8 _ m hS.vis s1 h1 s2 h2 s3 h3) ?_
  rintro a w _ rfl hF hS
  refine q_x (v := (.bool (!t_8))) hF hS (ex_not rfl) rfl rfl fun a hF => q_x (v := (.bool (!t_8))) hF hS (ex_move rfl) rfl rfl fun a hF => ?_
  rcases bcase (!t_8) with hc2 | hc2
  ·have hj1 := cond_f hc2 hj1
   refine q_xg (v := (.agg #[s1.v])) hF hS (ex_loadA (vs := [s1.v]) 1 0 Try.underlying26 rfl sz26 rfl rfl rfl rfl) (wanted_t hF rfl rfl rfl hc2) rfl fun a hF => q_xg (v := s2.v) hF hS (ex_move rfl) (wanted_t hF rfl rfl rfl hc2) rfl fun a hF => q_xg (v := (.agg #[(.int .i64 p_t.Level), s4.v, s5.v, (.int .i64 p_t.Sum)])) hF hS (ex_loadA (vs := [(.int .i64 p_t.Level), s4.v, s5.v, (.int .i64 p_t.Sum)]) 0 0 Try.underlying29 rfl sz29 rfl rfl rfl rfl) (wanted_t hF rfl rfl rfl hc2) rfl fun a hF => ?_
   obtain ⟨t_9, ht_9, hj1⟩ := bindS hj1
   refine q_callg (vs := [(.agg #[s1.v]), s2.v, (.agg #[(.int .i64 p_t.Level), s4.v, s5.v, (.int .i64 p_t.Sum)])]) hF hS (wanted_t hF rfl rfl rfl hc2) Try.func35 (by kernel_rfl) rfl rfl rfl (c_spec_uGood p_g p_s p_t t_9 ht_9 _ m hS.vis s1 h1 s2 h2 s4 h4 s5 h5) ?_
   rintro a w _ rfl hF hS
   refine q_xg (v := (.bool (!t_9))) hF hS (ex_not rfl) (wanted_t hF rfl rfl rfl hc2) rfl fun a hF => q_x (v := (.bool (!t_9))) hF hS (ex_pick_f rfl rfl hc2) rfl rfl fun a hF => q_end (n_jn ?_)
   obtain rfl := someI hj1
   exact ⟨hF.sub ⟨rfl, rfl, rfl, rfl, rfl, trivial⟩, hS⟩
  ·have hj1 := cond_t hc2 hj1
   refine q_skip hF (wanted_f hF rfl rfl rfl hc2 rfl) rfl fun a hF => q_skip hF (wanted_f hF rfl rfl rfl hc2 rfl) rfl fun a hF => q_skip hF (wanted_f hF rfl rfl rfl hc2 rfl) rfl fun a hF => q_skip hF (wanted_f hF rfl rfl rfl hc2 rfl) rfl fun a hF => q_skip hF (wanted_f hF rfl rfl rfl hc2 rfl) rfl fun a hF => q_x (v := (.bool true)) hF hS (ex_pick_t rfl rfl hc2) rfl rfl fun a hF => q_end (n_jn ?_)
   obtain rfl := someI hj1
   exact ⟨hF.sub ⟨rfl, rfl, rfl, rfl, rfl, trivial⟩, hS⟩
 ·rintro a w ⟨hF, hS⟩
  refine n_sq ?_
  rcases bcase (t_10) with hc3 | hc3
  ·have hr := cond_f hc3 hr
   refine q_cond_f hF rfl hc3 (q_skipc (n_sq (q_seq (q_region (q_x (v := (.int .i64 (-1))) hF hS (ex_assign rfl) rfl rfl fun a hF => q_end (n_sq (q_seq (q_seq (q_region (q_x (v := s3.v) hF hS (ex_move rfl) rfl rfl fun a hF => q_x (v := (.int .i64 (goLen p_l))) hF hS (ex_len Try.underlying37 rfl h3.len) rfl rfl fun a hF => q_x (v := (.int .i64 0)) hF hS (ex_move rfl) rfl rfl fun a hF => q_end (n_sq (q_block ?_))))))))))))
   obtain ⟨best_33, hl4, hr⟩ := bindS hr
   refine q_loop (fun (s : Int × Int) a w => ∃ best_11, ∃ t_12, s = (best_11, t_12) ∧ Fr a 60 [(1, s2.v), (2, s3.v), (4, (.pointer (some ⟨b6, 0, none⟩))), (7, (.pointer (some ⟨b7, 0, none⟩))), (10, (.int .i64 best_11)), (25, s3.v), (26, (.int .i64 (goLen p_l))), (27, (.int .i64 t_12))] ∧ St [] w0 w m [[⟨b7, [(.int .i64 p_t.Level), s4.v, s5.v, (.int .i64 p_t.Sum)], 29⟩], [⟨b6, [s1.v], 26⟩]]) (fun (best_33 : Int) e a w => e = .exit 0 ∧ Fr a 60 [(10, (.int .i64 best_33))] ∧ St [] w0 w m []) hl4 ⟨_, _, rfl, hF.sub ⟨rfl, rfl, rfl, rfl, rfl, rfl, rfl, rfl, trivial⟩, hS⟩ ?_ ?_
   ·clear hF hS
    rintro s a w st ⟨best_11, t_12, rfl, hF, hS⟩ hb4
    unfold spec_CheapestSource_l1 at hb4
    refine q_seq (q_region (q_x (v := (.bool (decide (t_12 < (goLen p_l))))) hF hS (ex_ibin rfl rfl rfl) rfl rfl fun a hF => q_end (n_sq (q_seq ?_))))
    rcases bcase (decide (t_12 < (goLen p_l))) with hc5 | hc5
    ·have hb4 := cond_f hc5 hb4
     refine q_cond_f hF rfl hc5 (q_exit (x_sq ?_))
     obtain rfl := someI hb4
     exact ⟨nofun, .inl ⟨rfl, hF.sub ⟨rfl, trivial⟩, hS.mask [false, false]⟩⟩
    ·have hb4 := cond_t hc5 hb4
     refine q_cond_t hF rfl hc5 (q_skipc (n_sq (q_seq (q_block (q_seq (q_region (q_x (v := (.int .i64 t_12)) hF hS (ex_move rfl) rfl rfl fun a hF => ?_)))))))
     obtain ⟨e_13, he_13, hb4⟩ := bindS hb4
     obtain ⟨vs14, at14, d14⟩ := h3.at he_13 4 rfl
     obtain ⟨s15, s16, rfl, h15, h16⟩ : ∃ s15 s16 : Sl, vs14 = [(.int .i64 e_13.Level), s15.v, s16.v, (.int .i64 e_13.Sum)] ∧ Rd m s15 e_13.Vars ∧ Rd m s16 e_13.Where := d14
     refine q_x (v := (elP s3 (t_12.toNat * 4))) hF hS (ex_indexAddr Try.underlying37 sz29 rfl rfl (h3.idx he_13)) rfl rfl fun a hF => q_x (v := (.agg #[(.int .i64 e_13.Level), s15.v, s16.v, (.int .i64 e_13.Sum)])) hF hS (ex_loadEA (us := [(.int .i64 e_13.Level), s15.v, s16.v, (.int .i64 e_13.Sum)]) 0 Try.underlying29 rfl sz29 rfl ((at14).at) rfl rfl rfl) rfl rfl fun a hF => q_alloc (cs := [(.int .i64 0), nilS.v, nilS.v, (.int .i64 0)]) hF hS rfl rfl rfl fun a w b17 hF hS => q_x (v := (.int .i64 t_12)) hF hS (ex_assign rfl) rfl rfl fun a hF => q_store (vs := [(.int .i64 e_13.Level), s15.v, s16.v, (.int .i64 e_13.Sum)]) (cs' := [(.int .i64 e_13.Level), s15.v, s16.v, (.int .i64 e_13.Sum)]) 0 0 hF hS sz29 rfl rfl rfl rfl rfl rfl rfl rfl fun a w hF hS => q_end (n_sq (q_seq ?_))
     obtain ⟨t_31, hj6, hb4⟩ := bindS hb4
     refine q_join (fun a w => Fr a 60 [(1, s2.v), (2, s3.v), (4, (.pointer (some ⟨b6, 0, none⟩))), (7, (.pointer (some ⟨b7, 0, none⟩))), (10, (.int .i64 best_11)), (11, (.int .i64 t_12)), (25, s3.v), (26, (.int .i64 (goLen p_l))), (27, (.int .i64 t_12)), (54, (.bool t_31))] ∧ St [] w0 w m [[⟨b7, [(.int .i64 p_t.Level), s4.v, s5.v, (.int .i64 p_t.Sum)], 29⟩], [⟨b6, [s1.v], 26⟩]]) ?_ ?_
     ·refine e_region ⟨[], []⟩ mixed fun w' hw' => ?_
      have hS := hS.below hw'
      refine e_x (v := (.agg #[s1.v])) 0 hF hS rfl (ex_loadA (vs := [s1.v]) 2 0 Try.underlying26 rfl sz26 rfl rfl rfl rfl) rfl rfl (by kernel_rfl) (by kernel_rfl) (by kernel_rfl) (by kernel_rfl) fun a hF => e_p (v := s2.v) 1 hF rfl (ex_move rfl) rfl rfl (by kernel_rfl) (by kernel_rfl) (by kernel_rfl) fun a hF => e_x (v := (.agg #[(.int .i64 p_t.Level), s4.v, s5.v, (.int .i64 p_t.Sum)])) 2 hF hS rfl (ex_loadA (vs := [(.int .i64 p_t.Level), s4.v, s5.v, (.int .i64 p_t.Sum)]) 1 0 Try.underlying29 rfl sz29 rfl rfl rfl rfl) rfl rfl (by kernel_rfl) (by kernel_rfl) (by kernel_rfl) (by kernel_rfl) fun a hF => e_x (v := (.agg #[(.int .i64 e_13.Level), s15.v, s16.v, (.int .i64 e_13.Sum)])) 3 hF hS rfl (ex_loadA (vs := [(.int .i64 e_13.Level), s15.v, s16.v, (.int .i64 e_13.Sum)]) 0 0 Try.underlying29 rfl sz29 rfl rfl rfl rfl) rfl rfl (by kernel_rfl) (by kernel_rfl) (by kernel_rfl) (by kernel_rfl) fun a hF => e_one 4 (by kernel_rfl) ?_
      obtain ⟨t_18, ht_18, hj6⟩ := bindS hj6
      refine e_call (vs := [(.agg #[s1.v]), s2.v, (.agg #[(.int .i64 p_t.Level), s4.v, s5.v, (.int .i64 p_t.Sum)]), (.agg #[(.int .i64 e_13.Level), s15.v, s16.v, (.int .i64 e_13.Sum)])]) hF hS rfl Try.func37 (by kernel_rfl) rfl rfl rfl (c_spec_lFollows p_g p_s p_t e_13 t_18 ht_18 _ m hS.vis s1 h1 s2 h2 s4 h4 s5 h5 s15 h15 s16 h16) ?_
      rintro a w _ rfl hF hS
      refine e_p (v := (.bool t_18)) 5 hF rfl (ex_move rfl) rfl rfl (by kernel_rfl) (by kernel_rfl) (by kernel_rfl) fun a hF => ?_
      rcases bcase (t_18) with hc7 | hc7
      ·have hj6 := cond_f hc7 hj6
       refine e_skipP 6 hF rfl (wanted_f hF rfl rfl rfl hc7 rfl) rfl (by kernel_rfl) (by kernel_rfl) (by kernel_rfl) fun a hF => e_skipP 7 hF rfl (wanted_f hF rfl rfl rfl hc7 rfl) rfl (by kernel_rfl) (by kernel_rfl) (by kernel_rfl) fun a hF => e_skipP 8 hF rfl (wanted_f hF rfl rfl rfl hc7 rfl) rfl (by kernel_rfl) (by kernel_rfl) (by kernel_rfl) fun a hF => e_skipP 9 hF rfl (wanted_u hF rfl rfl rfl) rfl (by kernel_rfl) (by kernel_rfl) (by kernel_rfl) fun a hF => e_skipP 10 hF rfl (wanted_u hF rfl rfl rfl) rfl (by kernel_rfl) (by kernel_rfl) (by kernel_rfl) fun a hF => e_skipP 11 hF rfl (wanted_u hF rfl rfl rfl) rfl (by kernel_rfl) (by kernel_rfl) (by kernel_rfl) fun a hF => e_skipP 12 hF rfl (wanted_u hF rfl rfl rfl) rfl (by kernel_rfl) (by kernel_rfl) (by kernel_rfl) fun a hF => e_skipP 13 hF rfl (wanted_u hF rfl rfl rfl) rfl (by kernel_rfl) (by kernel_rfl) (by kernel_rfl) fun a hF => e_skipP 14 hF rfl (wanted_u hF rfl rfl rfl) rfl (by kernel_rfl) (by kernel_rfl) (by kernel_rfl) fun a hF => e_skipP 15 hF rfl (wanted_u hF rfl rfl rfl) rfl (by kernel_rfl) (by kernel_rfl) (by kernel_rfl) fun a hF => e_skipP 16 hF rfl (wanted_u hF rfl rfl rfl) rfl (by kernel_rfl) (by kernel_rfl) (by kernel_rfl) fun a hF => e_skipP 17 hF rfl (wanted_u hF rfl rfl rfl) rfl (by kernel_rfl) (by kernel_rfl) (by kernel_rfl) fun a hF => e_skipP 18 hF rfl (wanted_u hF rfl rfl rfl) rfl (by kernel_rfl) (by kernel_rfl) (by kernel_rfl) fun a hF => e_skipP 19 hF rfl (wanted_u hF rfl rfl rfl) rfl (by kernel_rfl) (by kernel_rfl) (by kernel_rfl) fun a hF => e_skipP 20 hF rfl (wanted_u hF rfl rfl rfl) rfl (by kernel_rfl) (by kernel_rfl) (by kernel_rfl) fun a hF => e_skipP 21 hF rfl (wanted_f hF rfl rfl rfl hc7 rfl) rfl (by kernel_rfl) (by kernel_rfl) (by kernel_rfl) fun a hF => e_p (v := (.bool false)) 22 hF rfl (ex_pick_f rfl rfl hc7) rfl rfl (by kernel_rfl) (by kernel_rfl) (by kernel_rfl) fun a hF => e_end (by kernel_rfl) (n_jn ?_) _
       obtain rfl := someI hj6
       exact ⟨hF.sub ⟨rfl, rfl, rfl, rfl, rfl, rfl, rfl, rfl, rfl, rfl, trivial⟩, hS.mask [false, true, true]⟩
      ·have hj6 := cond_t hc7 hj6
       refine e_pg (v := (.int .i64 best_11)) 6 hF rfl (ex_move rfl) (wanted_t hF rfl rfl rfl hc7) rfl (by kernel_rfl) (by kernel_rfl) (by kernel_rfl) fun a hF => e_pg (v := (.bool (decide (best_11 < 0)))) 7 hF rfl (ex_ibin rfl rfl rfl) (wanted_t hF rfl rfl rfl hc7) rfl (by kernel_rfl) (by kernel_rfl) (by kernel_rfl) fun a hF => e_pg (v := (.bool (decide (best_11 < 0)))) 8 hF rfl (ex_move rfl) (wanted_t hF rfl rfl rfl hc7) rfl (by kernel_rfl) (by kernel_rfl) (by kernel_rfl) fun a hF => ?_
       rcases bcase (decide (best_11 < 0)) with hc8 | hc8
       ·have hj6 := cond_f hc8 hj6
        refine e_xg (v := (.agg #[s1.v])) 9 hF hS rfl (ex_loadA (vs := [s1.v]) 2 0 Try.underlying26 rfl sz26 rfl rfl rfl rfl) (wanted_t hF rfl rfl rfl hc8) rfl (by kernel_rfl) (by kernel_rfl) (by kernel_rfl) (by kernel_rfl) fun a hF => e_pg (v := s2.v) 10 hF rfl (ex_move rfl) (wanted_t hF rfl rfl rfl hc8) rfl (by kernel_rfl) (by kernel_rfl) (by kernel_rfl) fun a hF => e_xg (v := (.agg #[(.int .i64 e_13.Level), s15.v, s16.v, (.int .i64 e_13.Sum)])) 11 hF hS rfl (ex_loadA (vs := [(.int .i64 e_13.Level), s15.v, s16.v, (.int .i64 e_13.Sum)]) 0 0 Try.underlying29 rfl sz29 rfl rfl rfl rfl) (wanted_t hF rfl rfl rfl hc8) rfl (by kernel_rfl) (by kernel_rfl) (by kernel_rfl) (by kernel_rfl) fun a hF => e_xg (v := (.agg #[s1.v])) 13 hF hS rfl (ex_loadA (vs := [s1.v]) 2 0 Try.underlying26 rfl sz26 rfl rfl rfl rfl) (wanted_t hF rfl rfl rfl hc8) rfl (by kernel_rfl) (by kernel_rfl) (by kernel_rfl) (by kernel_rfl) fun a hF => e_pg (v := s2.v) 14 hF rfl (ex_move rfl) (wanted_t hF rfl rfl rfl hc8) rfl (by kernel_rfl) (by kernel_rfl) (by kernel_rfl) fun a hF => e_pg (v := s3.v) 15 hF rfl (ex_move rfl) (wanted_t hF rfl rfl rfl hc8) rfl (by kernel_rfl) (by kernel_rfl) (by kernel_rfl) fun a hF => e_pg (v := (.int .i64 best_11)) 16 hF rfl (ex_move rfl) (wanted_t hF rfl rfl rfl hc8) rfl (by kernel_rfl) (by kernel_rfl) (by kernel_rfl) fun a hF => ?_
        obtain ⟨e_24, he_24, hj6⟩ := bindS hj6
        obtain ⟨vs25, at25, d25⟩ := h3.at he_24 4 rfl
        obtain ⟨s26, s27, rfl, h26, h27⟩ : ∃ s26 s27 : Sl, vs25 = [(.int .i64 e_24.Level), s26.v, s27.v, (.int .i64 e_24.Sum)] ∧ Rd m s26 e_24.Vars ∧ Rd m s27 e_24.Where := d25
        refine e_pg (v := (elP s3 (best_11.toNat * 4))) 17 hF rfl (ex_indexAddr Try.underlying37 sz29 rfl rfl (h3.idx he_24)) (wanted_t hF rfl rfl rfl hc8) rfl (by kernel_rfl) (by kernel_rfl) (by kernel_rfl) fun a hF => e_xg (v := (.agg #[(.int .i64 e_24.Level), s26.v, s27.v, (.int .i64 e_24.Sum)])) 18 hF hS rfl (ex_loadEA (us := [(.int .i64 e_24.Level), s26.v, s27.v, (.int .i64 e_24.Sum)]) 0 Try.underlying29 rfl sz29 rfl ((at25).at) rfl rfl rfl) (wanted_t hF rfl rfl rfl hc8) rfl (by kernel_rfl) (by kernel_rfl) (by kernel_rfl) (by kernel_rfl) fun a hF => e_one 12 (by kernel_rfl) ?_
        obtain ⟨t_29, ht_29, hj6⟩ := bindS hj6
        refine e_callg (vs := [(.agg #[s1.v]), s2.v, (.agg #[(.int .i64 e_13.Level), s15.v, s16.v, (.int .i64 e_13.Sum)])]) hF hS rfl (wanted_t hF rfl rfl rfl hc8) Try.func47 (by kernel_rfl) rfl rfl rfl (c_spec_uCount p_g p_s e_13 t_29 ht_29 _ m hS.vis s1 h1 s2 h2 s15 h15 s16 h16) ?_
        rintro a w _ rfl hF hS
        refine e_one 19 (by kernel_rfl) ?_
        obtain ⟨t_30, ht_30, hj6⟩ := bindS hj6
        refine e_callg (vs := [(.agg #[s1.v]), s2.v, (.agg #[(.int .i64 e_24.Level), s26.v, s27.v, (.int .i64 e_24.Sum)])]) hF hS rfl (wanted_t hF rfl rfl rfl hc8) Try.func47 (by kernel_rfl) rfl rfl rfl (c_spec_uCount p_g p_s e_24 t_30 ht_30 _ m hS.vis s1 h1 s2 h2 s26 h26 s27 h27) ?_
        rintro a w _ rfl hF hS
        refine e_pg (v := (.bool (decide (t_29 < t_30)))) 20 hF rfl (ex_ibin rfl rfl rfl) (wanted_t hF rfl rfl rfl hc8) rfl (by kernel_rfl) (by kernel_rfl) (by kernel_rfl) fun a hF => e_pg (v := (.bool (decide (t_29 < t_30)))) 21 hF rfl (ex_pick_f rfl rfl hc8) (wanted_t hF rfl rfl rfl hc7) rfl (by kernel_rfl) (by kernel_rfl) (by kernel_rfl) fun a hF => e_p (v := (.bool (decide (t_29 < t_30)))) 22 hF rfl (ex_pick_t rfl rfl hc7) rfl rfl (by kernel_rfl) (by kernel_rfl) (by kernel_rfl) fun a hF => e_end (by kernel_rfl) (n_jn ?_) _
        obtain rfl := someI hj6
        exact ⟨hF.sub ⟨rfl, rfl, rfl, rfl, rfl, rfl, rfl, rfl, rfl, rfl, trivial⟩, hS.mask [false, true, true]⟩
       ·have hj6 := cond_t hc8 hj6
        refine e_skipP 9 hF rfl (wanted_f hF rfl rfl rfl hc8 rfl) rfl (by kernel_rfl) (by kernel_rfl) (by kernel_rfl) fun a hF => e_skipP 10 hF rfl (wanted_f hF rfl rfl rfl hc8 rfl) rfl (by kernel_rfl) (by kernel_rfl) (by kernel_rfl) fun a hF => e_skipP 11 hF rfl (wanted_f hF rfl rfl rfl hc8 rfl) rfl (by kernel_rfl) (by kernel_rfl) (by kernel_rfl) fun a hF => e_skipP 12 hF rfl (wanted_f hF rfl rfl rfl hc8 rfl) rfl (by kernel_rfl) (by kernel_rfl) (by kernel_rfl) fun a hF => e_skipP 13 hF rfl (wanted_f hF rfl rfl rfl hc8 rfl) rfl (by kernel_rfl) (by kernel_rfl) (by kernel_rfl) fun a hF => e_skipP 14 hF rfl (wanted_f hF rfl rfl rfl hc8 rfl) rfl (by kernel_rfl) (by kernel_rfl) (by kernel_rfl) fun a hF => e_skipP 15 hF rfl (wanted_f hF rfl rfl rfl hc8 rfl) rfl (by kernel_rfl) (by kernel_rfl) (by kernel_rfl) fun a hF => e_skipP 16 hF rfl (wanted_f hF rfl rfl rfl hc8 rfl) rfl (by kernel_rfl) (by kernel_rfl) (by kernel_rfl) fun a hF => e_skipP 17 hF rfl (wanted_f hF rfl rfl rfl hc8 rfl) rfl (by kernel_rfl) (by kernel_rfl) (by kernel_rfl) fun a hF => e_skipP 18 hF rfl (wanted_f hF rfl rfl rfl hc8 rfl) rfl (by kernel_rfl) (by kernel_rfl) (by kernel_rfl) fun a hF => e_skipP 19 hF rfl (wanted_f hF rfl rfl rfl hc8 rfl) rfl (by kernel_rfl) (by kernel_rfl) (by kernel_rfl) fun a hF => e_skipP 20 hF rfl (wanted_f hF rfl rfl rfl hc8 rfl) rfl (by kernel_rfl) (by kernel_rfl) (by kernel_rfl) fun a hF => e_pg (v := (.bool true)) 21 hF rfl (ex_pick_t rfl rfl hc8) (wanted_t hF rfl rfl rfl hc7) rfl (by kernel_rfl) (by kernel_rfl) (by kernel_rfl) fun a hF => e_p (v := (.bool true)) 22 hF rfl (ex_pick_t rfl rfl hc7) rfl rfl (by kernel_rfl) (by kernel_rfl) (by kernel_rfl) fun a hF => e_end (by kernel_rfl) (n_jn ?_) _
        obtain rfl := someI hj6
        exact ⟨hF.sub ⟨rfl, rfl, rfl, rfl, rfl, rfl, rfl, rfl, rfl, rfl, trivial⟩, hS.mask [false, true, true]⟩
     ·rintro a w ⟨hF, hS⟩
      refine n_sq ?_
      obtain ⟨best_32, hj9, hb4⟩ := bindS hb4
      refine q_join (fun a w => Fr a 60 [(1, s2.v), (2, s3.v), (4, (.pointer (some ⟨b6, 0, none⟩))), (7, (.pointer (some ⟨b7, 0, none⟩))), (10, (.int .i64 best_32)), (25, s3.v), (26, (.int .i64 (goLen p_l))), (27, (.int .i64 t_12))] ∧ St [] w0 w m [[⟨b7, [(.int .i64 p_t.Level), s4.v, s5.v, (.int .i64 p_t.Sum)], 29⟩], [⟨b6, [s1.v], 26⟩]]) ?_ ?_
      ·rcases bcase (t_31) with hc10 | hc10
       ·have hj9 := cond_f hc10 hj9
        refine q_cond_f hF rfl hc10 (q_skipc (n_jn ?_))
        obtain rfl := someI hj9
        exact ⟨hF.sub ⟨rfl, rfl, rfl, rfl, rfl, rfl, rfl, rfl, trivial⟩, hS⟩
       ·have hj9 := cond_t hc10 hj9
        refine q_cond_t hF rfl hc10 (q_region (q_x (v := (.int .i64 t_12)) hF hS (ex_move rfl) rfl rfl fun a hF => q_x (v := (.int .i64 t_12)) hF hS (ex_assign rfl) rfl rfl fun a hF => q_end (n_jn ?_)))
        obtain rfl := someI hj9
        exact ⟨hF.sub ⟨rfl, rfl, rfl, rfl, rfl, rfl, rfl, rfl, trivial⟩, hS⟩
      ·rintro a w ⟨hF, hS⟩
       refine n_ib (n_sq ?_)
       refine q_region (q_x (v := (.int .i64 (w64 (t_12 + 1)))) hF hS (ex_ibin rfl rfl rfl) rfl rfl fun a hF => q_x (v := (.int .i64 (w64 (t_12 + 1)))) hF hS (ex_move rfl) rfl rfl fun a hF => q_end ?_)
       obtain rfl := someI hb4
       exact ⟨rfl, _, _, rfl, hF.sub ⟨rfl, rfl, rfl, rfl, rfl, rfl, rfl, rfl, trivial⟩, hS⟩
   ·rintro e a w ⟨rfl, hF, hS⟩
    refine x_ib (n_sq ?_)
    refine q_seq (q_seq (q_region (q_x (v := (.int .i64 best_33)) hF hS (ex_move rfl) rfl rfl fun a hF => q_x (v := (.bool (decide (best_33 < 0)))) hF hS (ex_ibin rfl rfl rfl) rfl rfl fun a hF => q_end (n_sq ?_))))
    rcases bcase (decide (best_33 < 0)) with hc11 | hc11
    ·have hr := cond_f hc11 hr
     refine q_cond_f hF rfl hc11 (q_skipc (n_sq (q_seq (q_region (q_x (v := (.int .i64 best_33)) hF hS (ex_move rfl) rfl rfl fun a hF => q_x (v := (.int .i64 best_33)) hF hS (ex_assign rfl) rfl rfl fun a hF => q_x (v := (.bool true)) hF hS (ex_assign rfl) rfl rfl fun a hF => q_end (n_sq (q_ret ?_)))))))
     obtain rfl := someI hr
     exact ret_of hF hS rfl (.tmp rfl (.tmp rfl .nil)) rfl
    ·have hr := cond_t hc11 hr
     refine q_cond_t hF rfl hc11 (q_seq (q_region (q_x (v := (.int .i64 0)) hF hS (ex_assign rfl) rfl rfl fun a hF => q_x (v := (.bool false)) hF hS (ex_assign rfl) rfl rfl fun a hF => q_end (n_sq (q_ret (r_sq ?_))))))
     obtain rfl := someI hr
     exact ret_of hF hS rfl (.tmp rfl (.tmp rfl .nil)) rfl
  ·have hr := cond_t hc3 hr
   refine q_cond_t hF rfl hc3 (q_seq (q_region (q_x (v := (.int .i64 0)) hF hS (ex_assign rfl) rfl rfl fun a hF => q_x (v := (.bool false)) hF hS (ex_assign rfl) rfl rfl fun a hF => q_end (n_sq (q_ret (r_sq ?_))))))
   obtain rfl := someI hr
   exact ret_of hF hS rfl (.tmp rfl (.tmp rfl .nil)) rfl

theorem c_impl_areTabled (p_g : impl_Geo) (p_s : List impl_Variable) (p_t : impl_Table) (r : Bool) (hr : impl_areTabled p_g p_s p_t = some r) (w0 : World) (m : Mem) (hv : Vis m w0) (s1 : Sl) (h1 : Rd m s1 p_g.Parents) (s2 : Sl) (h2 : Rd m s2 p_s) (s3 : Sl) (h3 : Rd m s3 p_t.Vars) (s4 : Sl) (h4 : Rd m s4 p_t.Where) :
  Ret Try.prog 29 [(.agg #[s1.v]), s2.v, (.agg #[(.int .i64 p_t.Level), s3.v, s4.v, (.int .i64 p_t.Sum)])] w0 (fun v _ => v = (.bool r)) := by
 unfold impl_areTabled at hr
 refine ret_start Try.func29 rfl 19 rfl rfl m hv fun a hF hS => q_seq (q_region (q_box (cs := [s1.v]) hF hS rfl rfl rfl fun a w b5 hF hS => q_box (cs := [(.int .i64 p_t.Level), s3.v, s4.v, (.int .i64 p_t.Sum)]) hF hS rfl rfl rfl fun a w b6 hF hS => q_x (v := (.bool false)) hF hS (ex_assign rfl) rfl rfl fun a hF => q_end (n_sq (q_seq ?_))))
 obtain ⟨t_10, hj1, hr⟩ := bindS hr
 refine q_join (fun a w => Fr a 19 [(6, (.bool t_10))] ∧ St [] w0 w m []) ?_ ?_
 ·refine q_region (q_x (v := (.agg #[s1.v])) hF hS (ex_loadA (vs := [s1.v]) 1 0 Try.underlying26 rfl sz26 rfl rfl rfl rfl) rfl rfl fun a hF => ?_)
  obtain ⟨t_7, ht_7, hj1⟩ := bindS hj1
  refine q_call (vs := [(.agg #[s1.v])]) hF hS Try.func55 (by kernel_rfl) rfl rfl rfl (c_impl_IsGeo p_g t_7 ht_7 _ m hS.vis s1 h1) ?_
  rintro a w _ rfl hF hS
  refine q_x (v := (.bool t_7)) hF hS (ex_move rfl) rfl rfl fun a hF => ?_
  rcases bcase (t_7) with hc2 | hc2
  ·have hj1 := cond_f hc2 hj1
   refine q_skip hF (wanted_f hF rfl rfl rfl hc2 rfl) rfl fun a hF => q_skip hF (wanted_f hF rfl rfl rfl hc2 rfl) rfl fun a hF => q_x (v := (.bool false)) hF hS (ex_pick_f rfl rfl hc2) rfl rfl fun a hF => q_x (v := (.bool false)) hF hS (ex_move rfl) rfl rfl fun a hF => q_skip hF (wanted_f hF rfl rfl rfl rfl rfl) rfl fun a hF => q_skip hF (wanted_f hF rfl rfl rfl rfl rfl) rfl fun a hF => q_skip hF (wanted_f hF rfl rfl rfl rfl rfl) rfl fun a hF => q_skip hF (wanted_f hF rfl rfl rfl rfl rfl) rfl fun a hF => q_x (v := (.bool false)) hF hS (ex_pick_f rfl rfl rfl) rfl rfl fun a hF => q_x (v := (.bool false)) hF hS (ex_assign rfl) rfl rfl fun a hF => q_end (n_jn ?_)
   obtain rfl := someI hj1
   exact ⟨hF.sub ⟨rfl, trivial⟩, hS.mask [false, false]⟩
  ·have hj1 := cond_t hc2 hj1
   refine q_xg (v := s2.v) hF hS (ex_move rfl) (wanted_t hF rfl rfl rfl hc2) rfl fun a hF => ?_
   obtain ⟨t_8, ht_8, hj1⟩ := bindS hj1
   refine q_callg (vs := [s2.v]) hF hS (wanted_t hF rfl rfl rfl hc2) Try.func56 (by kernel_rfl) rfl rfl rfl (c_impl_IsSchema p_s t_8 ht_8 _ m hS.vis s2 h2) ?_
   rintro a w _ rfl hF hS
   refine q_x (v := (.bool t_8)) hF hS (ex_pick_t rfl rfl hc2) rfl rfl fun a hF => q_x (v := (.bool t_8)) hF hS (ex_move rfl) rfl rfl fun a hF => ?_
   rcases bcase (t_8) with hc3 | hc3
   ·have hj1 := cond_f hc3 hj1
    refine q_skip hF (wanted_f hF rfl rfl rfl hc3 rfl) rfl fun a hF => q_skip hF (wanted_f hF rfl rfl rfl hc3 rfl) rfl fun a hF => q_skip hF (wanted_f hF rfl rfl rfl hc3 rfl) rfl fun a hF => q_skip hF (wanted_f hF rfl rfl rfl hc3 rfl) rfl fun a hF => q_x (v := (.bool false)) hF hS (ex_pick_f rfl rfl hc3) rfl rfl fun a hF => q_x (v := (.bool false)) hF hS (ex_assign rfl) rfl rfl fun a hF => q_end (n_jn ?_)
    obtain rfl := someI hj1
    exact ⟨hF.sub ⟨rfl, trivial⟩, hS.mask [false, false]⟩
   ·have hj1 := cond_t hc3 hj1
    refine q_xg (v := (.agg #[s1.v])) hF hS (ex_loadA (vs := [s1.v]) 1 0 Try.underlying26 rfl sz26 rfl rfl rfl rfl) (wanted_t hF rfl rfl rfl hc3) rfl fun a hF => q_xg (v := s2.v) hF hS (ex_move rfl) (wanted_t hF rfl rfl rfl hc3) rfl fun a hF => q_xg (v := (.agg #[(.int .i64 p_t.Level), s3.v, s4.v, (.int .i64 p_t.Sum)])) hF hS (ex_loadA (vs := [(.int .i64 p_t.Level), s3.v, s4.v, (.int .i64 p_t.Sum)]) 0 0 Try.underlying29 rfl sz29 rfl rfl rfl rfl) (wanted_t hF rfl rfl rfl hc3) rfl fun a hF => ?_
    obtain ⟨t_9, ht_9, hj1⟩ := bindS hj1
    refine q_callg (vs := [(.agg #[s1.v]), s2.v, (.agg #[(.int .i64 p_t.Level), s3.v, s4.v, (.int .i64 p_t.Sum)])]) hF hS (wanted_t hF rfl rfl rfl hc3) Try.func30 (by kernel_rfl) rfl rfl rfl (c_impl_isTable p_g p_s p_t t_9 ht_9 _ m hS.vis s1 h1 s2 h2 s3 h3 s4 h4) ?_
    rintro a w _ rfl hF hS
    refine q_x (v := (.bool t_9)) hF hS (ex_pick_t rfl rfl hc3) rfl rfl fun a hF => q_x (v := (.bool t_9)) hF hS (ex_assign rfl) rfl rfl fun a hF => q_end (n_jn ?_)
    obtain rfl := someI hj1
    exact ⟨hF.sub ⟨rfl, trivial⟩, hS.mask [false, false]⟩
 ·rintro a w ⟨hF, hS⟩
  refine n_sq (q_ret ?_)
  obtain rfl := someI hr
  exact ret_of hF hS rfl (.tmp rfl .nil) rfl

theorem c_impl_FollowsFrom (p_g : impl_Geo) (p_s : List impl_Variable) (p_t : impl_Table) (p_u : impl_Table) (r : Bool × Bool) (hr : impl_FollowsFrom p_g p_s p_t p_u = some r) (w0 : World) (m : Mem) (hv : Vis m w0) (s1 : Sl) (h1 : Rd m s1 p_g.Parents) (s2 : Sl) (h2 : Rd m s2 p_s) (s3 : Sl) (h3 : Rd m s3 p_t.Vars) (s4 : Sl) (h4 : Rd m s4 p_t.Where) (s5 : Sl) (h5 : Rd m s5 p_u.Vars) (s6 : Sl) (h6 : Rd m s6 p_u.Where) :
  Ret Try.prog 10 [(.agg #[s1.v]), s2.v, (.agg #[(.int .i64 p_t.Level), s3.v, s4.v, (.int .i64 p_t.Sum)]), (.agg #[(.int .i64 p_u.Level), s5.v, s6.v, (.int .i64 p_u.Sum)])] w0 (fun v _ => v = (.tuple #[(.bool r.1), (.bool r.2)])) := by
 unfold impl_FollowsFrom at hr
 refine ret_start Try.func10 rfl 27 rfl rfl m hv fun a hF hS => q_seq (q_region (q_box (cs := [s1.v]) hF hS rfl rfl rfl fun a w b7 hF hS => q_box (cs := [(.int .i64 p_t.Level), s3.v, s4.v, (.int .i64 p_t.Sum)]) hF hS rfl rfl rfl fun a w b8 hF hS => q_box (cs := [(.int .i64 p_u.Level), s5.v, s6.v, (.int .i64 p_u.Sum)]) hF hS rfl rfl rfl fun a w b9 hF hS => q_x (v := (.bool false)) hF hS (ex_assign rfl) rfl rfl fun a hF => q_x (v := (.bool false)) hF hS (ex_assign rfl) rfl rfl fun a hF => q_end (n_sq (q_seq (q_seq ?_)))))
 obtain ⟨t_12, hj1, hr⟩ := bindS hr
 refine q_join (fun a w => Fr a 27 [(1, s2.v), (4, (.pointer (some ⟨b7, 0, none⟩))), (6, (.pointer (some ⟨b8, 0, none⟩))), (7, (.pointer (some ⟨b9, 0, none⟩))), (21, (.bool t_12))] ∧ St [] w0 w m [[⟨b9, [(.int .i64 p_u.Level), s5.v, s6.v, (.int .i64 p_u.Sum)], 29⟩], [⟨b8, [(.int .i64 p_t.Level), s3.v, s4.v, (.int .i64 p_t.Sum)], 29⟩], [⟨b7, [s1.v], 26⟩]]) ?_ ?_
 ·refine q_region (q_x (v := (.agg #[s1.v])) hF hS (ex_loadA (vs := [s1.v]) 2 0 Try.underlying26 rfl sz26 rfl rfl rfl rfl) rfl rfl fun a hF => q_x (v := s2.v) hF hS (ex_move rfl) rfl rfl fun a hF => q_x (v := (.agg #[(.int .i64 p_t.Level), s3.v, s4.v, (.int .i64 p_t.Sum)])) hF hS (ex_loadA (vs := [(.int .i64 p_t.Level), s3.v, s4.v, (.int .i64 p_t.Sum)]) 1 0 Try.underlying29 rfl sz29 rfl rfl rfl rfl) rfl rfl fun a hF => ?_)
  obtain ⟨t_10, ht_10, hj1⟩ := bindS hj1
  refine q_call (vs := [(.agg #[s1.v]), s2.v, (.agg #[(.int .i64 p_t.Level), s3.v, s4.v, (.int .i64 p_t.Sum)])]) hF hS Try.func29 (by kernel_rfl) rfl rfl rfl (c_impl_areTabled p_g p_s p_t t_10 ht_10 _ m hS.vis s1 h1 s2 h2 s3 h3 s4 h4) ?_
  rintro a w _ rfl hF hS
  refine q_x (v := (.bool (!t_10))) hF hS (ex_not rfl) rfl rfl fun a hF => q_x (v := (.bool (!t_10))) hF hS (ex_move rfl) rfl rfl fun a hF => ?_
  rcases bcase (!t_10) with hc2 | hc2
  ·have hj1 := cond_f hc2 hj1
   refine q_xg (v := (.agg #[s1.v])) hF hS (ex_loadA (vs := [s1.v]) 2 0 Try.underlying26 rfl sz26 rfl rfl rfl rfl) (wanted_t hF rfl rfl rfl hc2) rfl fun a hF => q_xg (v := s2.v) hF hS (ex_move rfl) (wanted_t hF rfl rfl rfl hc2) rfl fun a hF => q_xg (v := (.agg #[(.int .i64 p_u.Level), s5.v, s6.v, (.int .i64 p_u.Sum)])) hF hS (ex_loadA (vs := [(.int .i64 p_u.Level), s5.v, s6.v, (.int .i64 p_u.Sum)]) 0 0 Try.underlying29 rfl sz29 rfl rfl rfl rfl) (wanted_t hF rfl rfl rfl hc2) rfl fun a hF => ?_
   obtain ⟨t_11, ht_11, hj1⟩ := bindS hj1
   refine q_callg (vs := [(.agg #[s1.v]), s2.v, (.agg #[(.int .i64 p_u.Level), s5.v, s6.v, (.int .i64 p_u.Sum)])]) hF hS (wanted_t hF rfl rfl rfl hc2) Try.func30 (by kernel_rfl) rfl rfl rfl (c_impl_isTable p_g p_s p_u t_11 ht_11 _ m hS.vis s1 h1 s2 h2 s5 h5 s6 h6) ?_
   rintro a w _ rfl hF hS
   refine q_xg (v := (.bool (!t_11))) hF hS (ex_not rfl) (wanted_t hF rfl rfl rfl hc2) rfl fun a hF => q_x (v := (.bool (!t_11))) hF hS (ex_pick_f rfl rfl hc2) rfl rfl fun a hF => q_end (n_jn ?_)
   obtain rfl := someI hj1
   exact ⟨hF.sub ⟨rfl, rfl, rfl, rfl, rfl, trivial⟩, hS⟩
  ·have hj1 := cond_t hc2 hj1
   refine q_skip hF (wanted_f hF rfl rfl rfl hc2 rfl) rfl fun a hF => q_skip hF (wanted_f hF rfl rfl rfl hc2 rfl) rfl fun a hF => q_skip hF (wanted_f hF rfl rfl rfl hc2 rfl) rfl fun a hF => q_skip hF (wanted_f hF rfl rfl rfl hc2 rfl) rfl fun a hF => q_skip hF (wanted_f hF rfl rfl rfl hc2 rfl) rfl fun a hF => q_x (v := (.bool true)) hF hS (ex_pick_t rfl rfl hc2) rfl rfl fun a hF => q_end (n_jn ?_)
   obtain rfl := someI hj1
   exact ⟨hF.sub ⟨rfl, rfl, rfl, rfl, rfl, trivial⟩, hS⟩
 ·rintro a w ⟨hF, hS⟩
  refine n_sq ?_
  rcases bcase (t_12) with hc3 | hc3
  ·have hr := cond_f hc3 hr
   refine q_cond_f hF rfl hc3 (q_skipc (n_sq (q_seq (q_region (q_x (v := (.agg #[s1.v])) hF hS (ex_loadA (vs := [s1.v]) 2 0 Try.underlying26 rfl sz26 rfl rfl rfl rfl) rfl rfl fun a hF => q_x (v := s2.v) hF hS (ex_move rfl) rfl rfl fun a hF => q_x (v := (.agg #[(.int .i64 p_t.Level), s3.v, s4.v, (.int .i64 p_t.Sum)])) hF hS (ex_loadA (vs := [(.int .i64 p_t.Level), s3.v, s4.v, (.int .i64 p_t.Sum)]) 1 0 Try.underlying29 rfl sz29 rfl rfl rfl rfl) rfl rfl fun a hF => q_x (v := (.agg #[(.int .i64 p_u.Level), s5.v, s6.v, (.int .i64 p_u.Sum)])) hF hS (ex_loadA (vs := [(.int .i64 p_u.Level), s5.v, s6.v, (.int .i64 p_u.Sum)]) 0 0 Try.underlying29 rfl sz29 rfl rfl rfl rfl) rfl rfl fun a hF => ?_)))))
   obtain ⟨t_13, ht_13, hr⟩ := bindS hr
   refine q_call (vs := [(.agg #[s1.v]), s2.v, (.agg #[(.int .i64 p_t.Level), s3.v, s4.v, (.int .i64 p_t.Sum)]), (.agg #[(.int .i64 p_u.Level), s5.v, s6.v, (.int .i64 p_u.Sum)])]) hF hS Try.func34 (by kernel_rfl) rfl rfl rfl (c_impl_followsFrom p_g p_s p_t p_u t_13 ht_13 _ m hS.vis s1 h1 s2 h2 s3 h3 s4 h4 s5 h5 s6 h6) ?_
   rintro a w _ rfl hF hS
   refine q_x (v := (.bool t_13)) hF hS (ex_assign rfl) rfl rfl fun a hF => q_x (v := (.bool true)) hF hS (ex_assign rfl) rfl rfl fun a hF => q_end (n_sq (q_ret ?_))
   obtain rfl := someI hr
   exact ret_of hF hS rfl (.tmp rfl (.tmp rfl .nil)) rfl
  ·have hr := cond_t hc3 hr
   refine q_cond_t hF rfl hc3 (q_seq (q_region (q_x (v := (.bool false)) hF hS (ex_assign rfl) rfl rfl fun a hF => q_x (v := (.bool false)) hF hS (ex_assign rfl) rfl rfl fun a hF => q_end (n_sq (q_ret (r_sq ?_))))))
   obtain rfl := someI hr
   exact ret_of hF hS rfl (.tmp rfl (.tmp rfl .nil)) rfl

end Go.Proofs.Ytnmimeojimfogaa
