/- The walks of the functions: each returns what its plain function says. -/
import Derived.Test.YtmlegfogjdhhkaaCWalks3
namespace Go.Proofs.Ytmlegfogjdhhkaa
open Go.Gx Go.Gx.F Go.RowKit
set_option linter.all false
set_option maxRecDepth 10000


theorem c_impl_contribution (p_g : impl_Geo) (p_s : List impl_Variable) (p_t : impl_Table) (p_r : impl_Record) (r : Int × Int) (hr : impl_contribution p_g p_s p_t p_r = some r) (w0 : World) (m : Mem) (hv : Vis m w0) (s1 : Sl) (h1 : Rd m s1 p_g.Parents) (s2 : Sl) (h2 : Rd m s2 p_s) (s3 : Sl) (h3 : Rd m s3 p_t.Vars) (s4 : Sl) (h4 : Rd m s4 p_t.Where) (s5 : Sl) (h5 : Rd m s5 p_r.Values) :
    Ret Try.prog 32 [(.agg #[s1.v]), s2.v, (.agg #[(.int .i64 p_t.Level), s3.v, s4.v, (.int .i64 p_t.Sum)]), (.agg #[(.int .i64 p_r.Area), (.int .i64 p_r.House), s5.v])] w0 (fun v _ => v = (.tuple #[(.int .i64 r.1), (.int .i64 r.2)])) := by
  unfold impl_contribution at hr
  refine ret_start Try.func32 rfl 66 rfl rfl m hv fun a hF hS => ?_
  refine q_seq ?_
  refine q_region ?_
  refine q_box (cs := [s1.v]) hF hS rfl rfl rfl fun a w b6 hF hS => ?_
  refine q_box (cs := [(.int .i64 p_t.Level), s3.v, s4.v, (.int .i64 p_t.Sum)]) hF hS rfl rfl rfl fun a w b7 hF hS => ?_
  refine q_box (cs := [(.int .i64 p_r.Area), (.int .i64 p_r.House), s5.v]) hF hS rfl rfl rfl fun a w b8 hF hS => ?_
  refine q_x (v := (.int .i64 0)) hF hS (ex_assign rfl) rfl rfl fun a hF => ?_
  refine q_x (v := (.int .i64 0)) hF hS (ex_assign rfl) rfl rfl fun a hF => ?_
  refine q_end (n_sq ?_)
  refine q_seq ?_
  refine q_region ?_
  refine q_x (v := (.agg #[s1.v])) hF hS (ex_loadA (vs := [s1.v]) 2 0 Try.underlying25 rfl sz25 rfl rfl rfl rfl) rfl rfl fun a hF => ?_
  refine q_x (v := (.pointer (some ⟨b8, 0, none⟩))) hF hS (ex_fieldAddr Try.underlying41 rfl sz3 rfl rfl) rfl rfl fun a hF => ?_
  refine q_x (v := (.int .i64 p_r.Area)) hF hS (ex_load1 0 0 Try.underlying3 rfl rfl rfl rfl) rfl rfl fun a hF => ?_
  refine q_x (v := (.pointer (some ⟨b7, 0, none⟩))) hF hS (ex_fieldAddr Try.underlying28 rfl sz3 rfl rfl) rfl rfl fun a hF => ?_
  refine q_x (v := (.int .i64 p_t.Level)) hF hS (ex_load1 1 0 Try.underlying3 rfl rfl rfl rfl) rfl rfl fun a hF => ?_
  obtain ⟨t_9, ht_9, hr⟩ := bindS hr
  refine q_call (vs := [(.agg #[s1.v]), (.int .i64 p_r.Area), (.int .i64 p_t.Level)]) hF hS Try.func77 (by kernel_rfl) rfl rfl rfl (c_impl_ancestorAt p_g p_r.Area p_t.Level t_9 ht_9 _ m hS.vis s1 h1) ?_
  rintro a w _ rfl hF hS
  refine q_x (v := (.int .i64 t_9)) hF hS (ex_assign rfl) rfl rfl fun a hF => ?_
  refine q_end (n_sq ?_)
  refine q_seq ?_
  refine q_seq ?_
  obtain ⟨t_11, hj1, hr⟩ := bindS hr
  refine q_join (fun a w => Fr a 66 [(1, s2.v), (4, (.pointer (some ⟨b6, 0, none⟩))), (6, (.pointer (some ⟨b7, 0, none⟩))), (7, (.pointer (some ⟨b8, 0, none⟩))), (10, (.int .i64 t_9)), (28, (.bool t_11))] ∧ St [] w0 w m [[⟨b8, [(.int .i64 p_r.Area), (.int .i64 p_r.House), s5.v], 41⟩], [⟨b7, [(.int .i64 p_t.Level), s3.v, s4.v, (.int .i64 p_t.Sum)], 28⟩], [⟨b6, [s1.v], 25⟩]]) ?_ ?_
  · refine q_region ?_
    refine q_x (v := (.int .i64 t_9)) hF hS (ex_move rfl) rfl rfl fun a hF => ?_
    refine q_x (v := (.bool (decide (t_9 < 0)))) hF hS (ex_ibin rfl rfl rfl) rfl rfl fun a hF => ?_
    refine q_x (v := (.bool (decide (t_9 < 0)))) hF hS (ex_move rfl) rfl rfl fun a hF => ?_
    rcases bcase (decide (t_9 < 0)) with hc2 | hc2
    · have hj1 := cond_f hc2 hj1
      refine q_xg (v := (.agg #[(.int .i64 p_t.Level), s3.v, s4.v, (.int .i64 p_t.Sum)])) hF hS (ex_loadA (vs := [(.int .i64 p_t.Level), s3.v, s4.v, (.int .i64 p_t.Sum)]) 1 0 Try.underlying28 rfl sz28 rfl rfl rfl rfl) (wanted_t hF rfl rfl rfl hc2) rfl fun a hF => ?_
      refine q_xg (v := (.agg #[(.int .i64 p_r.Area), (.int .i64 p_r.House), s5.v])) hF hS (ex_loadA (vs := [(.int .i64 p_r.Area), (.int .i64 p_r.House), s5.v]) 0 0 Try.underlying41 rfl sz41 rfl rfl rfl rfl) (wanted_t hF rfl rfl rfl hc2) rfl fun a hF => ?_
      obtain ⟨t_10, ht_10, hj1⟩ := bindS hj1
      refine q_callg (vs := [(.agg #[(.int .i64 p_t.Level), s3.v, s4.v, (.int .i64 p_t.Sum)]), (.agg #[(.int .i64 p_r.Area), (.int .i64 p_r.House), s5.v])]) hF hS (wanted_t hF rfl rfl rfl hc2) Try.func58 (by kernel_rfl) rfl rfl rfl (c_impl_meetsWhere p_t p_r t_10 ht_10 _ m hS.vis s3 h3 s4 h4 s5 h5) ?_
      rintro a w _ rfl hF hS
      refine q_xg (v := (.bool (!t_10))) hF hS (ex_not rfl) (wanted_t hF rfl rfl rfl hc2) rfl fun a hF => ?_
      refine q_x (v := (.bool (!t_10))) hF hS (ex_pick_f rfl rfl hc2) rfl rfl fun a hF => ?_
      refine q_end (n_jn ?_)
      obtain rfl := someI hj1
      exact ⟨hF.sub ⟨rfl, rfl, rfl, rfl, rfl, rfl, trivial⟩, hS⟩
    · have hj1 := cond_t hc2 hj1
      refine q_skip hF (wanted_f hF rfl rfl rfl hc2 rfl) rfl fun a hF => ?_
      refine q_skip hF (wanted_f hF rfl rfl rfl hc2 rfl) rfl fun a hF => ?_
      refine q_skip hF (wanted_f hF rfl rfl rfl hc2 rfl) rfl fun a hF => ?_
      refine q_skip hF (wanted_f hF rfl rfl rfl hc2 rfl) rfl fun a hF => ?_
      refine q_x (v := (.bool true)) hF hS (ex_pick_t rfl rfl hc2) rfl rfl fun a hF => ?_
      refine q_end (n_jn ?_)
      obtain rfl := someI hj1
      exact ⟨hF.sub ⟨rfl, rfl, rfl, rfl, rfl, rfl, trivial⟩, hS⟩
  · rintro a w ⟨hF, hS⟩
    refine n_sq ?_
    rcases bcase (t_11) with hc3 | hc3
    · have hr := cond_f hc3 hr
      refine q_cond_f hF rfl hc3 ?_
      refine q_skipc (n_sq ?_)
      refine q_seq ?_
      refine q_region ?_
      refine q_x (v := (.pointer (some ⟨b7, 1, none⟩))) hF hS (ex_fieldAddr Try.underlying28 rfl sz23 rfl rfl) rfl rfl fun a hF => ?_
      refine q_x (v := s3.v) hF hS (ex_load1 1 0 Try.underlying23 rfl rfl rfl rfl) rfl rfl fun a hF => ?_
      refine q_x (v := (.int .i64 (goLen p_t.Vars))) hF hS (ex_len Try.underlying23 rfl h3.len) rfl rfl fun a hF => ?_
      obtain ⟨l_12, hl_12, hr⟩ := bindS hr
      refine q_do rfl fun _ hK => wp_make (z := (0 : Int)) hF hS Try.underlying23 inf3 rfl rfl rfl rfl rfl (by decide) hl_12 rfl fun a w q13 s13 hF hS h13 _ => hK _ _ ?_
      refine q_x (v := s13.v) hF hS (ex_assign rfl) rfl rfl fun a hF => ?_
      refine q_end (n_sq ?_)
      refine q_seq ?_
      refine q_seq ?_
      refine q_region ?_
      refine q_x (v := (.pointer (some ⟨b7, 1, none⟩))) hF hS (ex_fieldAddr Try.underlying28 rfl sz23 rfl rfl) rfl rfl fun a hF => ?_
      refine q_x (v := s3.v) hF hS (ex_load1 2 0 Try.underlying23 rfl rfl rfl rfl) rfl rfl fun a hF => ?_
      refine q_x (v := (.int .i64 (goLen p_t.Vars))) hF hS (ex_len Try.underlying23 rfl h3.len) rfl rfl fun a hF => ?_
      refine q_x (v := (.int .i64 0)) hF hS (ex_move rfl) rfl rfl fun a hF => ?_
      refine q_end (n_sq ?_)
      refine q_block ?_
      obtain ⟨values_24, hl4, hr⟩ := bindS hr
      refine q_loop (fun (s : (List Int) × Int) a w => ∃ (q15 : Piece), ∃ values_14, ∃ t_16, s = (values_14, t_16) ∧ Fr a 66 [(1, s2.v), (4, (.pointer (some ⟨b6, 0, none⟩))), (6, (.pointer (some ⟨b7, 0, none⟩))), (7, (.pointer (some ⟨b8, 0, none⟩))), (10, (.int .i64 t_9)), (11, s13.v), (34, s3.v), (35, (.int .i64 (goLen p_t.Vars))), (36, (.int .i64 t_16))] ∧ St [] w0 w m [q15, [⟨b8, [(.int .i64 p_r.Area), (.int .i64 p_r.House), s5.v], 41⟩], [⟨b7, [(.int .i64 p_t.Level), s3.v, s4.v, (.int .i64 p_t.Sum)], 28⟩], [⟨b6, [s1.v], 25⟩]] ∧ OwnL m 3 q15 s13 values_14) (fun (values_24 : (List Int)) e a w => ∃ (q25 : Piece), e = .exit 0 ∧ Fr a 66 [(1, s2.v), (4, (.pointer (some ⟨b6, 0, none⟩))), (6, (.pointer (some ⟨b7, 0, none⟩))), (7, (.pointer (some ⟨b8, 0, none⟩))), (10, (.int .i64 t_9)), (11, s13.v)] ∧ St [] w0 w m [q25, [⟨b8, [(.int .i64 p_r.Area), (.int .i64 p_r.House), s5.v], 41⟩], [⟨b7, [(.int .i64 p_t.Level), s3.v, s4.v, (.int .i64 p_t.Sum)], 28⟩], [⟨b6, [s1.v], 25⟩]] ∧ OwnL m 3 q25 s13 values_24) hl4 ⟨q13, _, _, rfl, hF.sub ⟨rfl, rfl, rfl, rfl, rfl, rfl, rfl, rfl, rfl, trivial⟩, hS, h13⟩ ?_ ?_
      · clear hF hS
        rintro s a w st ⟨q15, values_14, t_16, rfl, hF, hS, h15⟩ hb4
        unfold impl_contribution_l1 at hb4
        refine q_seq ?_
        refine q_region ?_
        refine q_x (v := (.bool (decide (t_16 < (goLen p_t.Vars))))) hF hS (ex_ibin rfl rfl rfl) rfl rfl fun a hF => ?_
        refine q_end (n_sq ?_)
        refine q_seq ?_
        rcases bcase (decide (t_16 < (goLen p_t.Vars))) with hc5 | hc5
        · have hb4 := cond_f hc5 hb4
          refine q_cond_f hF rfl hc5 ?_
          refine q_exit (x_sq ?_)
          obtain rfl := someI hb4
          exact ⟨nofun, .inl ⟨q15, rfl, hF.sub ⟨rfl, rfl, rfl, rfl, rfl, rfl, trivial⟩, hS, h15⟩⟩
        · have hb4 := cond_t hc5 hb4
          refine q_cond_t hF rfl hc5 ?_
          refine q_skipc (n_sq ?_)
          refine q_seq ?_
          refine q_block ?_
          refine q_seq ?_
          refine q_region ?_
          refine q_x (v := (.int .i64 t_16)) hF hS (ex_move rfl) rfl rfl fun a hF => ?_
          obtain ⟨e_17, he_17, hb4⟩ := bindS hb4
          obtain ⟨vs18, at18, d18⟩ := h3.at he_17 1 rfl
          obtain rfl : vs18 = [(.int .i64 e_17)] := d18
          refine q_x (v := (elP s3 (t_16.toNat * 1))) hF hS (ex_indexAddr Try.underlying23 sz3 rfl rfl (h3.idx he_17)) rfl rfl fun a hF => ?_
          refine q_x (v := (.int .i64 e_17)) hF hS (ex_loadE1 0 Try.underlying3 rfl rfl ((at18).at) rfl rfl) rfl rfl fun a hF => ?_
          refine q_x (v := (.int .i64 t_16)) hF hS (ex_assign rfl) rfl rfl fun a hF => ?_
          refine q_x (v := (.int .i64 e_17)) hF hS (ex_assign rfl) rfl rfl fun a hF => ?_
          refine q_end (n_sq ?_)
          refine q_region ?_
          refine q_x (v := s13.v) hF hS (ex_move rfl) rfl rfl fun a hF => ?_
          refine q_x (v := (.int .i64 t_16)) hF hS (ex_move rfl) rfl rfl fun a hF => ?_
          refine q_x (v := (.pointer (some ⟨b8, 2, none⟩))) hF hS (ex_fieldAddr Try.underlying41 rfl sz23 rfl rfl) rfl rfl fun a hF => ?_
          refine q_x (v := s5.v) hF hS (ex_load1 1 0 Try.underlying23 rfl rfl rfl rfl) rfl rfl fun a hF => ?_
          refine q_x (v := (.int .i64 e_17)) hF hS (ex_move rfl) rfl rfl fun a hF => ?_
          obtain ⟨e_19, he_19, hb4⟩ := bindS hb4
          obtain ⟨vs20, at20, d20⟩ := h5.at he_19 1 rfl
          obtain rfl : vs20 = [(.int .i64 e_19)] := d20
          refine q_x (v := (elP s5 (e_17.toNat * 1))) hF hS (ex_indexAddr Try.underlying23 sz3 rfl rfl (h5.idx he_19)) rfl rfl fun a hF => ?_
          refine q_x (v := (.int .i64 e_19)) hF hS (ex_loadE1 0 Try.underlying3 rfl rfl ((at20).at) rfl rfl) rfl rfl fun a hF => ?_
          obtain ⟨e_21, he_21, hb4⟩ := bindS hb4
          obtain ⟨vs22, at22, d22⟩ := h15.at he_21 1 rfl
          obtain rfl : vs22 = [(.int .i64 e_21)] := d22
          refine q_x (v := (elP s13 (t_16.toNat * 1))) hF hS (ex_indexAddr Try.underlying23 sz3 rfl rfl (h15.idx he_21)) rfl rfl fun a hF => ?_
          refine q_do rfl fun _ hK => wp_storeE (e' := e_19) (us := [(.int .i64 e_19)]) (vs := [(.int .i64 e_21)]) 0 hF hS h15 sz3 rfl rfl rfl rfl rfl rfl rfl he_21 at22 rfl rfl rfl fun w q23 hS h23 => hK _ _ ?_
          refine q_end (n_ib (n_sq ?_))
          refine q_region ?_
          refine q_x (v := (.int .i64 (w64 (t_16 + 1)))) hF hS (ex_ibin rfl rfl rfl) rfl rfl fun a hF => ?_
          refine q_x (v := (.int .i64 (w64 (t_16 + 1)))) hF hS (ex_move rfl) rfl rfl fun a hF => ?_
          refine q_end ?_
          obtain rfl := someI hb4
          exact ⟨rfl, q23, _, _, rfl, hF.sub ⟨rfl, rfl, rfl, rfl, rfl, rfl, rfl, rfl, rfl, trivial⟩, hS, h23⟩
      · rintro e a w ⟨q25, rfl, hF, hS, h25⟩
        refine x_ib (n_sq ?_)
        refine q_seq ?_
        refine q_region ?_
        refine q_x (v := (.int .i64 1)) hF hS (ex_assign rfl) rfl rfl fun a hF => ?_
        refine q_end (n_sq ?_)
        refine q_seq ?_
        refine q_seq ?_
        refine q_region ?_
        refine q_x (v := (.pointer (some ⟨b7, 3, none⟩))) hF hS (ex_fieldAddr Try.underlying28 rfl sz3 rfl rfl) rfl rfl fun a hF => ?_
        refine q_x (v := (.int .i64 p_t.Sum)) hF hS (ex_load1 2 0 Try.underlying3 rfl rfl rfl rfl) rfl rfl fun a hF => ?_
        refine q_x (v := (.bool (decide (0 ≤ p_t.Sum)))) hF hS (ex_ibin rfl rfl rfl) rfl rfl fun a hF => ?_
        refine q_end (n_sq ?_)
        obtain ⟨amount_28, hj6, hr⟩ := bindS hr
        refine q_join (fun a w => Fr a 66 [(1, s2.v), (4, (.pointer (some ⟨b6, 0, none⟩))), (6, (.pointer (some ⟨b7, 0, none⟩))), (10, (.int .i64 t_9)), (11, s13.v), (14, (.int .i64 amount_28))] ∧ St [] w0 w m [q25, [⟨b7, [(.int .i64 p_t.Level), s3.v, s4.v, (.int .i64 p_t.Sum)], 28⟩], [⟨b6, [s1.v], 25⟩]]) ?_ ?_
        · rcases bcase (decide (0 ≤ p_t.Sum)) with hc7 | hc7
          · have hj6 := cond_f hc7 hj6
            refine q_cond_f hF rfl hc7 ?_
            refine q_skipc (n_jn ?_)
            obtain rfl := someI hj6
            exact ⟨hF.sub ⟨rfl, rfl, rfl, rfl, rfl, rfl, trivial⟩, hS.mask [true, false, true, true]⟩
          · have hj6 := cond_t hc7 hj6
            refine q_cond_t hF rfl hc7 ?_
            refine q_region ?_
            refine q_x (v := (.pointer (some ⟨b8, 2, none⟩))) hF hS (ex_fieldAddr Try.underlying41 rfl sz23 rfl rfl) rfl rfl fun a hF => ?_
            refine q_x (v := s5.v) hF hS (ex_load1 1 0 Try.underlying23 rfl rfl rfl rfl) rfl rfl fun a hF => ?_
            refine q_x (v := (.pointer (some ⟨b7, 3, none⟩))) hF hS (ex_fieldAddr Try.underlying28 rfl sz3 rfl rfl) rfl rfl fun a hF => ?_
            refine q_x (v := (.int .i64 p_t.Sum)) hF hS (ex_load1 2 0 Try.underlying3 rfl rfl rfl rfl) rfl rfl fun a hF => ?_
            obtain ⟨e_26, he_26, hj6⟩ := bindS hj6
            obtain ⟨vs27, at27, d27⟩ := h5.at he_26 1 rfl
            obtain rfl : vs27 = [(.int .i64 e_26)] := d27
            refine q_x (v := (elP s5 (p_t.Sum.toNat * 1))) hF hS (ex_indexAddr Try.underlying23 sz3 rfl rfl (h5.idx he_26)) rfl rfl fun a hF => ?_
            refine q_x (v := (.int .i64 e_26)) hF hS (ex_loadE1 0 Try.underlying3 rfl rfl ((at27).at) rfl rfl) rfl rfl fun a hF => ?_
            refine q_x (v := (.int .i64 e_26)) hF hS (ex_assign rfl) rfl rfl fun a hF => ?_
            refine q_end (n_jn ?_)
            obtain rfl := someI hj6
            exact ⟨hF.sub ⟨rfl, rfl, rfl, rfl, rfl, rfl, trivial⟩, hS.mask [true, false, true, true]⟩
        · rintro a w ⟨hF, hS⟩
          refine n_sq ?_
          refine q_seq ?_
          refine q_region ?_
          refine q_x (v := (.agg #[s1.v])) hF hS (ex_loadA (vs := [s1.v]) 2 0 Try.underlying25 rfl sz25 rfl rfl rfl rfl) rfl rfl fun a hF => ?_
          refine q_x (v := s2.v) hF hS (ex_move rfl) rfl rfl fun a hF => ?_
          refine q_x (v := (.agg #[(.int .i64 p_t.Level), s3.v, s4.v, (.int .i64 p_t.Sum)])) hF hS (ex_loadA (vs := [(.int .i64 p_t.Level), s3.v, s4.v, (.int .i64 p_t.Sum)]) 1 0 Try.underlying28 rfl sz28 rfl rfl rfl rfl) rfl rfl fun a hF => ?_
          refine q_x (v := (.int .i64 t_9)) hF hS (ex_move rfl) rfl rfl fun a hF => ?_
          refine q_x (v := s13.v) hF hS (ex_move rfl) rfl rfl fun a hF => ?_
          obtain ⟨m30, hl30, hv30, hz30⟩ := hS.lend
          obtain ⟨t_29, ht_29, hr⟩ := bindS hr
          refine q_call (vs := [(.agg #[s1.v]), s2.v, (.agg #[(.int .i64 p_t.Level), s3.v, s4.v, (.int .i64 p_t.Sum)]), (.int .i64 t_9), s13.v]) hF hS Try.func54 (by kernel_rfl) rfl rfl rfl (c_impl_cellIndex p_g p_s p_t t_9 values_24 t_29 ht_29 _ m30 hv30 s1 (h1.mono hl30) s2 (h2.mono hl30) s3 (h3.mono hl30) s4 (h4.mono hl30) s13 (h25.froz hl30 (hz30 0 _ rfl))) ?_
          rintro a w _ rfl hF hS
          refine q_x (v := (.int .i64 amount_28)) hF hS (ex_move rfl) rfl rfl fun a hF => ?_
          refine q_x (v := (.int .i64 t_29)) hF hS (ex_assign rfl) rfl rfl fun a hF => ?_
          refine q_x (v := (.int .i64 amount_28)) hF hS (ex_assign rfl) rfl rfl fun a hF => ?_
          refine q_end (n_sq (q_ret ?_))
          obtain rfl := someI hr
          exact ret_of hF hS rfl (.tmp rfl (.tmp rfl .nil)) rfl
    · have hr := cond_t hc3 hr
      refine q_cond_t hF rfl hc3 ?_
      refine q_seq ?_
      refine q_region ?_
      refine q_x (v := (.int .i64 (-1))) hF hS (ex_assign rfl) rfl rfl fun a hF => ?_
      refine q_x (v := (.int .i64 0)) hF hS (ex_assign rfl) rfl rfl fun a hF => ?_
      refine q_end (n_sq (q_ret (r_sq ?_)))
      obtain rfl := someI hr
      exact ret_of hF hS rfl (.tmp rfl (.tmp rfl .nil)) rfl

theorem c_impl_RecordsIn (p_g : impl_Geo) (p_s : List impl_Variable) (p_t : impl_Table) (p_l : List impl_Record) (p_i : Int) (r : (List Int) × Bool) (hr : impl_RecordsIn p_g p_s p_t p_l p_i = some r) (w0 : World) (m : Mem) (hv : Vis m w0) (s1 : Sl) (h1 : Rd m s1 p_g.Parents) (s2 : Sl) (h2 : Rd m s2 p_s) (s3 : Sl) (h3 : Rd m s3 p_t.Vars) (s4 : Sl) (h4 : Rd m s4 p_t.Where) (s5 : Sl) (h5 : Rd m s5 p_l) :
    Ret Try.prog 6 [(.agg #[s1.v]), s2.v, (.agg #[(.int .i64 p_t.Level), s3.v, s4.v, (.int .i64 p_t.Sum)]), s5.v, (.int .i64 p_i)] w0 (fun v w => ∃ (q0' : Piece) (s0' : Sl), v = (.tuple #[s0'.v, (.bool r.2)]) ∧ St [] w0 w m [q0'] ∧ OwnL m 3 q0' s0' r.1) := by
  unfold impl_RecordsIn at hr
  refine ret_start Try.func6 rfl 65 rfl rfl m hv fun a hF hS => ?_
  refine q_seq ?_
  refine q_region ?_
  refine q_box (cs := [s1.v]) hF hS rfl rfl rfl fun a w b6 hF hS => ?_
  refine q_box (cs := [(.int .i64 p_t.Level), s3.v, s4.v, (.int .i64 p_t.Sum)]) hF hS rfl rfl rfl fun a w b7 hF hS => ?_
  refine q_x (v := nilS.v) hF hS (ex_assign rfl) rfl rfl fun a hF => ?_
  refine q_x (v := (.bool false)) hF hS (ex_assign rfl) rfl rfl fun a hF => ?_
  refine q_end (n_sq ?_)
  refine q_seq ?_
  refine q_seq ?_
  obtain ⟨t_11, hj1, hr⟩ := bindS hr
  refine q_join (fun a w => Fr a 65 [(1, s2.v), (3, s5.v), (4, (.int .i64 p_i)), (5, (.pointer (some ⟨b6, 0, none⟩))), (7, (.pointer (some ⟨b7, 0, none⟩))), (40, (.bool t_11))] ∧ St [] w0 w m [[⟨b7, [(.int .i64 p_t.Level), s3.v, s4.v, (.int .i64 p_t.Sum)], 28⟩], [⟨b6, [s1.v], 25⟩]]) ?_ ?_
  · refine q_region ?_
    refine q_x (v := (.agg #[s1.v])) hF hS (ex_loadA (vs := [s1.v]) 1 0 Try.underlying25 rfl sz25 rfl rfl rfl rfl) rfl rfl fun a hF => ?_
    refine q_x (v := s2.v) hF hS (ex_move rfl) rfl rfl fun a hF => ?_
    refine q_x (v := (.agg #[(.int .i64 p_t.Level), s3.v, s4.v, (.int .i64 p_t.Sum)])) hF hS (ex_loadA (vs := [(.int .i64 p_t.Level), s3.v, s4.v, (.int .i64 p_t.Sum)]) 0 0 Try.underlying28 rfl sz28 rfl rfl rfl rfl) rfl rfl fun a hF => ?_
    obtain ⟨t_8, ht_8, hj1⟩ := bindS hj1
    refine q_call (vs := [(.agg #[s1.v]), s2.v, (.agg #[(.int .i64 p_t.Level), s3.v, s4.v, (.int .i64 p_t.Sum)])]) hF hS Try.func29 (by kernel_rfl) rfl rfl rfl (c_impl_areTabled p_g p_s p_t t_8 ht_8 _ m hS.vis s1 h1 s2 h2 s3 h3 s4 h4) ?_
    rintro a w _ rfl hF hS
    refine q_x (v := (.bool (!t_8))) hF hS (ex_not rfl) rfl rfl fun a hF => ?_
    refine q_x (v := (.bool (!t_8))) hF hS (ex_move rfl) rfl rfl fun a hF => ?_
    rcases bcase (!t_8) with hc2 | hc2
    · have hj1 := cond_f hc2 hj1
      refine q_xg (v := (.agg #[s1.v])) hF hS (ex_loadA (vs := [s1.v]) 1 0 Try.underlying25 rfl sz25 rfl rfl rfl rfl) (wanted_t hF rfl rfl rfl hc2) rfl fun a hF => ?_
      refine q_xg (v := s2.v) hF hS (ex_move rfl) (wanted_t hF rfl rfl rfl hc2) rfl fun a hF => ?_
      refine q_xg (v := s5.v) hF hS (ex_move rfl) (wanted_t hF rfl rfl rfl hc2) rfl fun a hF => ?_
      obtain ⟨t_9, ht_9, hj1⟩ := bindS hj1
      refine q_callg (vs := [(.agg #[s1.v]), s2.v, s5.v]) hF hS (wanted_t hF rfl rfl rfl hc2) Try.func30 (by kernel_rfl) rfl rfl rfl (c_impl_isSurvey p_g p_s p_l t_9 ht_9 _ m hS.vis s1 h1 s2 h2 s5 h5) ?_
      rintro a w _ rfl hF hS
      refine q_xg (v := (.bool (!t_9))) hF hS (ex_not rfl) (wanted_t hF rfl rfl rfl hc2) rfl fun a hF => ?_
      refine q_x (v := (.bool (!t_9))) hF hS (ex_pick_f rfl rfl hc2) rfl rfl fun a hF => ?_
      refine q_x (v := (.bool (!t_9))) hF hS (ex_move rfl) rfl rfl fun a hF => ?_
      rcases bcase (!t_9) with hc3 | hc3
      · have hj1 := cond_f hc3 hj1
        refine q_xg (v := (.int .i64 p_i)) hF hS (ex_move rfl) (wanted_t hF rfl rfl rfl hc3) rfl fun a hF => ?_
        refine q_xg (v := (.bool (decide (p_i < 0)))) hF hS (ex_ibin rfl rfl rfl) (wanted_t hF rfl rfl rfl hc3) rfl fun a hF => ?_
        refine q_x (v := (.bool (decide (p_i < 0)))) hF hS (ex_pick_f rfl rfl hc3) rfl rfl fun a hF => ?_
        refine q_x (v := (.bool (decide (p_i < 0)))) hF hS (ex_move rfl) rfl rfl fun a hF => ?_
        rcases bcase (decide (p_i < 0)) with hc4 | hc4
        · have hj1 := cond_f hc4 hj1
          refine q_xg (v := (.int .i64 p_i)) hF hS (ex_move rfl) (wanted_t hF rfl rfl rfl hc4) rfl fun a hF => ?_
          refine q_xg (v := (.agg #[s1.v])) hF hS (ex_loadA (vs := [s1.v]) 1 0 Try.underlying25 rfl sz25 rfl rfl rfl rfl) (wanted_t hF rfl rfl rfl hc4) rfl fun a hF => ?_
          refine q_xg (v := s2.v) hF hS (ex_move rfl) (wanted_t hF rfl rfl rfl hc4) rfl fun a hF => ?_
          refine q_xg (v := (.agg #[(.int .i64 p_t.Level), s3.v, s4.v, (.int .i64 p_t.Sum)])) hF hS (ex_loadA (vs := [(.int .i64 p_t.Level), s3.v, s4.v, (.int .i64 p_t.Sum)]) 0 0 Try.underlying28 rfl sz28 rfl rfl rfl rfl) (wanted_t hF rfl rfl rfl hc4) rfl fun a hF => ?_
          obtain ⟨t_10, ht_10, hj1⟩ := bindS hj1
          refine q_callg (vs := [(.agg #[s1.v]), s2.v, (.agg #[(.int .i64 p_t.Level), s3.v, s4.v, (.int .i64 p_t.Sum)])]) hF hS (wanted_t hF rfl rfl rfl hc4) Try.func31 (by kernel_rfl) rfl rfl rfl (c_impl_cellCount p_g p_s p_t t_10 ht_10 _ m hS.vis s1 h1 s2 h2 s3 h3 s4 h4) ?_
          rintro a w _ rfl hF hS
          refine q_xg (v := (.bool (decide (t_10 ≤ p_i)))) hF hS (ex_ibin rfl rfl rfl) (wanted_t hF rfl rfl rfl hc4) rfl fun a hF => ?_
          refine q_x (v := (.bool (decide (t_10 ≤ p_i)))) hF hS (ex_pick_f rfl rfl hc4) rfl rfl fun a hF => ?_
          refine q_end (n_jn ?_)
          obtain rfl := someI hj1
          exact ⟨hF.sub ⟨rfl, rfl, rfl, rfl, rfl, rfl, trivial⟩, hS⟩
        · have hj1 := cond_t hc4 hj1
          refine q_skip hF (wanted_f hF rfl rfl rfl hc4 rfl) rfl fun a hF => ?_
          refine q_skip hF (wanted_f hF rfl rfl rfl hc4 rfl) rfl fun a hF => ?_
          refine q_skip hF (wanted_f hF rfl rfl rfl hc4 rfl) rfl fun a hF => ?_
          refine q_skip hF (wanted_f hF rfl rfl rfl hc4 rfl) rfl fun a hF => ?_
          refine q_skip hF (wanted_f hF rfl rfl rfl hc4 rfl) rfl fun a hF => ?_
          refine q_skip hF (wanted_f hF rfl rfl rfl hc4 rfl) rfl fun a hF => ?_
          refine q_x (v := (.bool true)) hF hS (ex_pick_t rfl rfl hc4) rfl rfl fun a hF => ?_
          refine q_end (n_jn ?_)
          obtain rfl := someI hj1
          exact ⟨hF.sub ⟨rfl, rfl, rfl, rfl, rfl, rfl, trivial⟩, hS⟩
      · have hj1 := cond_t hc3 hj1
        refine q_skip hF (wanted_f hF rfl rfl rfl hc3 rfl) rfl fun a hF => ?_
        refine q_skip hF (wanted_f hF rfl rfl rfl hc3 rfl) rfl fun a hF => ?_
        refine q_x (v := (.bool true)) hF hS (ex_pick_t rfl rfl hc3) rfl rfl fun a hF => ?_
        refine q_x (v := (.bool true)) hF hS (ex_move rfl) rfl rfl fun a hF => ?_
        refine q_skip hF (wanted_f hF rfl rfl rfl rfl rfl) rfl fun a hF => ?_
        refine q_skip hF (wanted_f hF rfl rfl rfl rfl rfl) rfl fun a hF => ?_
        refine q_skip hF (wanted_f hF rfl rfl rfl rfl rfl) rfl fun a hF => ?_
        refine q_skip hF (wanted_f hF rfl rfl rfl rfl rfl) rfl fun a hF => ?_
        refine q_skip hF (wanted_f hF rfl rfl rfl rfl rfl) rfl fun a hF => ?_
        refine q_skip hF (wanted_f hF rfl rfl rfl rfl rfl) rfl fun a hF => ?_
        refine q_x (v := (.bool true)) hF hS (ex_pick_t rfl rfl rfl) rfl rfl fun a hF => ?_
        refine q_end (n_jn ?_)
        obtain rfl := someI hj1
        exact ⟨hF.sub ⟨rfl, rfl, rfl, rfl, rfl, rfl, trivial⟩, hS⟩
    · have hj1 := cond_t hc2 hj1
      refine q_skip hF (wanted_f hF rfl rfl rfl hc2 rfl) rfl fun a hF => ?_
      refine q_skip hF (wanted_f hF rfl rfl rfl hc2 rfl) rfl fun a hF => ?_
      refine q_skip hF (wanted_f hF rfl rfl rfl hc2 rfl) rfl fun a hF => ?_
      refine q_skip hF (wanted_f hF rfl rfl rfl hc2 rfl) rfl fun a hF => ?_
      refine q_skip hF (wanted_f hF rfl rfl rfl hc2 rfl) rfl fun a hF => ?_
      refine q_x (v := (.bool true)) hF hS (ex_pick_t rfl rfl hc2) rfl rfl fun a hF => ?_
      refine q_x (v := (.bool true)) hF hS (ex_move rfl) rfl rfl fun a hF => ?_
      refine q_skip hF (wanted_f hF rfl rfl rfl rfl rfl) rfl fun a hF => ?_
      refine q_skip hF (wanted_f hF rfl rfl rfl rfl rfl) rfl fun a hF => ?_
      refine q_x (v := (.bool true)) hF hS (ex_pick_t rfl rfl rfl) rfl rfl fun a hF => ?_
      refine q_x (v := (.bool true)) hF hS (ex_move rfl) rfl rfl fun a hF => ?_
      refine q_skip hF (wanted_f hF rfl rfl rfl rfl rfl) rfl fun a hF => ?_
      refine q_skip hF (wanted_f hF rfl rfl rfl rfl rfl) rfl fun a hF => ?_
      refine q_skip hF (wanted_f hF rfl rfl rfl rfl rfl) rfl fun a hF => ?_
      refine q_skip hF (wanted_f hF rfl rfl rfl rfl rfl) rfl fun a hF => ?_
      refine q_skip hF (wanted_f hF rfl rfl rfl rfl rfl) rfl fun a hF => ?_
      refine q_skip hF (wanted_f hF rfl rfl rfl rfl rfl) rfl fun a hF => ?_
      refine q_x (v := (.bool true)) hF hS (ex_pick_t rfl rfl rfl) rfl rfl fun a hF => ?_
      refine q_end (n_jn ?_)
      obtain rfl := someI hj1
      exact ⟨hF.sub ⟨rfl, rfl, rfl, rfl, rfl, rfl, trivial⟩, hS⟩
  · rintro a w ⟨hF, hS⟩
    refine n_sq ?_
    rcases bcase (t_11) with hc5 | hc5
    · have hr := cond_f hc5 hr
      refine q_cond_f hF rfl hc5 ?_
      refine q_skipc (n_sq ?_)
      refine q_seq ?_
      refine q_region ?_
      refine q_x (v := nilS.v) hF hS (ex_assign rfl) rfl rfl fun a hF => ?_
      refine q_end (n_sq ?_)
      refine q_seq ?_
      refine q_seq ?_
      refine q_region ?_
      refine q_x (v := s5.v) hF hS (ex_move rfl) rfl rfl fun a hF => ?_
      refine q_x (v := (.int .i64 (goLen p_l))) hF hS (ex_len Try.underlying29 rfl h5.len) rfl rfl fun a hF => ?_
      refine q_x (v := (.int .i64 0)) hF hS (ex_move rfl) rfl rfl fun a hF => ?_
      refine q_end (n_sq ?_)
      refine q_block ?_
      obtain ⟨out_25, hl6, hr⟩ := bindS hr
      refine q_loop (fun (s : (List Int) × Int) a w => ∃ (q13 : Piece), ∃ (s13 : Sl), ∃ out_12, ∃ t_14, s = (out_12, t_14) ∧ Fr a 65 [(1, s2.v), (4, (.int .i64 p_i)), (5, (.pointer (some ⟨b6, 0, none⟩))), (7, (.pointer (some ⟨b7, 0, none⟩))), (12, s13.v), (41, s5.v), (42, (.int .i64 (goLen p_l))), (43, (.int .i64 t_14))] ∧ St [] w0 w m [q13, [⟨b7, [(.int .i64 p_t.Level), s3.v, s4.v, (.int .i64 p_t.Sum)], 28⟩], [⟨b6, [s1.v], 25⟩]] ∧ OwnL m 3 q13 s13 out_12) (fun (out_25 : (List Int)) e a w => ∃ (q26 : Piece), ∃ (s26 : Sl), e = .exit 0 ∧ Fr a 65 [(12, s26.v)] ∧ St [] w0 w m [q26] ∧ OwnL m 3 q26 s26 out_25) hl6 ⟨[], nilS, _, _, rfl, hF.sub ⟨rfl, rfl, rfl, rfl, rfl, rfl, rfl, rfl, trivial⟩, hS.sel [2, 0, 1] (by decide), (OwnL.nil (α := Int) m 3)⟩ ?_ ?_
      · clear hF hS
        rintro s a w st ⟨q13, s13, out_12, t_14, rfl, hF, hS, h13⟩ hb6
        unfold impl_RecordsIn_l1 at hb6
        refine q_seq ?_
        refine q_region ?_
        refine q_x (v := (.bool (decide (t_14 < (goLen p_l))))) hF hS (ex_ibin rfl rfl rfl) rfl rfl fun a hF => ?_
        refine q_end (n_sq ?_)
        refine q_seq ?_
        rcases bcase (decide (t_14 < (goLen p_l))) with hc7 | hc7
        · have hb6 := cond_f hc7 hb6
          refine q_cond_f hF rfl hc7 ?_
          refine q_exit (x_sq ?_)
          obtain rfl := someI hb6
          exact ⟨nofun, .inl ⟨q13, s13, rfl, hF.sub ⟨rfl, trivial⟩, hS.mask [true, false, false], h13⟩⟩
        · have hb6 := cond_t hc7 hb6
          refine q_cond_t hF rfl hc7 ?_
          refine q_skipc (n_sq ?_)
          refine q_seq ?_
          refine q_block ?_
          refine q_seq ?_
          refine q_region ?_
          refine q_x (v := (.int .i64 t_14)) hF hS (ex_move rfl) rfl rfl fun a hF => ?_
          obtain ⟨e_15, he_15, hb6⟩ := bindS hb6
          obtain ⟨vs16, at16, d16⟩ := h5.at he_15 3 rfl
          obtain ⟨s17, rfl, h17⟩ : ∃ s17 : Sl, vs16 = [(.int .i64 e_15.Area), (.int .i64 e_15.House), s17.v] ∧ Rd m s17 e_15.Values := d16
          refine q_x (v := (elP s5 (t_14.toNat * 3))) hF hS (ex_indexAddr Try.underlying29 sz41 rfl rfl (h5.idx he_15)) rfl rfl fun a hF => ?_
          refine q_x (v := (.agg #[(.int .i64 e_15.Area), (.int .i64 e_15.House), s17.v])) hF hS (ex_loadEA (us := [(.int .i64 e_15.Area), (.int .i64 e_15.House), s17.v]) 0 Try.underlying41 rfl sz41 rfl ((at16).at) rfl rfl rfl) rfl rfl fun a hF => ?_
          refine q_alloc (cs := [(.int .i64 0), (.int .i64 0), nilS.v]) hF hS rfl rfl rfl fun a w b18 hF hS => ?_
          refine q_x (v := (.int .i64 t_14)) hF hS (ex_assign rfl) rfl rfl fun a hF => ?_
          refine q_store (vs := [(.int .i64 e_15.Area), (.int .i64 e_15.House), s17.v]) (cs' := [(.int .i64 e_15.Area), (.int .i64 e_15.House), s17.v]) 0 0 hF hS sz41 rfl rfl rfl rfl rfl rfl rfl rfl fun a w hF hS => ?_
          refine q_end (n_sq ?_)
          refine q_seq ?_
          refine q_region ?_
          refine q_x (v := (.agg #[s1.v])) hF hS (ex_loadA (vs := [s1.v]) 3 0 Try.underlying25 rfl sz25 rfl rfl rfl rfl) rfl rfl fun a hF => ?_
          refine q_x (v := s2.v) hF hS (ex_move rfl) rfl rfl fun a hF => ?_
          refine q_x (v := (.agg #[(.int .i64 p_t.Level), s3.v, s4.v, (.int .i64 p_t.Sum)])) hF hS (ex_loadA (vs := [(.int .i64 p_t.Level), s3.v, s4.v, (.int .i64 p_t.Sum)]) 2 0 Try.underlying28 rfl sz28 rfl rfl rfl rfl) rfl rfl fun a hF => ?_
          refine q_x (v := (.agg #[(.int .i64 e_15.Area), (.int .i64 e_15.House), s17.v])) hF hS (ex_loadA (vs := [(.int .i64 e_15.Area), (.int .i64 e_15.House), s17.v]) 0 0 Try.underlying41 rfl sz41 rfl rfl rfl rfl) rfl rfl fun a hF => ?_
          obtain ⟨t_19, ht_19, hb6⟩ := bindS hb6
          refine q_call (vs := [(.agg #[s1.v]), s2.v, (.agg #[(.int .i64 p_t.Level), s3.v, s4.v, (.int .i64 p_t.Sum)]), (.agg #[(.int .i64 e_15.Area), (.int .i64 e_15.House), s17.v])]) hF hS Try.func32 (by kernel_rfl) rfl rfl rfl (c_impl_contribution p_g p_s p_t e_15 t_19 ht_19 _ m hS.vis s1 h1 s2 h2 s3 h3 s4 h4 s17 h17) ?_
          rintro a w _ rfl hF hS
          refine q_x (v := (.tuple #[(.int .i64 t_19.1), (.int .i64 t_19.2)])) hF hS (ex_move rfl) rfl rfl fun a hF => ?_
          refine q_x (v := (.int .i64 t_19.1)) hF hS (ex_extract rfl rfl) rfl rfl fun a hF => ?_
          refine q_x (v := (.int .i64 t_19.2)) hF hS (ex_extract rfl rfl) rfl rfl fun a hF => ?_
          refine q_x (v := (.int .i64 t_19.1)) hF hS (ex_assign rfl) rfl rfl fun a hF => ?_
          refine q_x (v := (.int .i64 t_19.2)) hF hS (ex_assign rfl) rfl rfl fun a hF => ?_
          refine q_end (n_sq ?_)
          refine q_seq ?_
          refine q_region ?_
          refine q_x (v := (.int .i64 t_19.1)) hF hS (ex_move rfl) rfl rfl fun a hF => ?_
          refine q_x (v := (.int .i64 p_i)) hF hS (ex_move rfl) rfl rfl fun a hF => ?_
          refine q_x (v := (.bool (t_19.1 == p_i))) hF hS (ex_ibin rfl rfl rfl) rfl rfl fun a hF => ?_
          refine q_end (n_sq ?_)
          obtain ⟨out_23, hj8, hb6⟩ := bindS hb6
          refine q_join (fun a w => ∃ (q24 : Piece), ∃ (s24 : Sl), Fr a 65 [(1, s2.v), (4, (.int .i64 p_i)), (5, (.pointer (some ⟨b6, 0, none⟩))), (7, (.pointer (some ⟨b7, 0, none⟩))), (12, s24.v), (41, s5.v), (42, (.int .i64 (goLen p_l))), (43, (.int .i64 t_14))] ∧ St [] w0 w m [q24, [⟨b7, [(.int .i64 p_t.Level), s3.v, s4.v, (.int .i64 p_t.Sum)], 28⟩], [⟨b6, [s1.v], 25⟩]] ∧ OwnL m 3 q24 s24 out_23) ?_ ?_
          · rcases bcase (t_19.1 == p_i) with hc9 | hc9
            · have hj8 := cond_f hc9 hj8
              refine q_cond_f hF rfl hc9 ?_
              refine q_skipc (n_jn ?_)
              obtain rfl := someI hj8
              exact ⟨q13, s13, hF.sub ⟨rfl, rfl, rfl, rfl, rfl, rfl, rfl, rfl, trivial⟩, hS.mask [false, true, true, true], h13⟩
            · have hj8 := cond_t hc9 hj8
              refine q_cond_t hF rfl hc9 ?_
              refine q_region ?_
              refine q_x (v := s13.v) hF hS (ex_move rfl) rfl rfl fun a hF => ?_
              refine q_x (v := (.int .i64 t_14)) hF hS (ex_move rfl) rfl rfl fun a hF => ?_
              refine q_do rfl fun _ hK => wp_buildSlice' (l := ([t_14] : List Int)) (cells := [(.int .i64 t_14)]) hF hS Try.underlying23 inf3 rfl rfl (by kernel_rfl) rfl rfl rfl ⟨rfl, rfl⟩ rfl rfl fun a w q20 s20 hF hS h20 _ => hK _ _ ?_
              have hS : St _ _ _ _ [q13, q20, [⟨b18, [(.int .i64 e_15.Area), (.int .i64 e_15.House), s17.v], 41⟩], [⟨b7, [(.int .i64 p_t.Level), s3.v, s4.v, (.int .i64 p_t.Sum)], 28⟩], [⟨b6, [s1.v], 25⟩]] := hS.sel [2, 0, 1, 3, 4] (by decide)
              obtain ⟨l_21, hl_21, hj8⟩ := bindS hj8
              refine q_do rfl fun _ hK => wp_append hF hS h13 Try.underlying23 inf3 rfl rfl rfl rfl (h20.vw hS (j := 1) rfl) rfl (by decide) hl_21 rfl fun a w q22 s22 hF hS h22 => hK _ _ ?_
              refine q_x (v := s22.v) hF hS (ex_assign rfl) rfl rfl fun a hF => ?_
              refine q_end (n_jn ?_)
              obtain rfl := someI hj8
              exact ⟨q22, s22, hF.sub ⟨rfl, rfl, rfl, rfl, rfl, rfl, rfl, rfl, trivial⟩, hS.mask [true, false, false, true, true], h22⟩
          · rintro a w ⟨q24, s24, hF, hS, h24⟩
            refine n_ib (n_sq ?_)
            refine q_region ?_
            refine q_x (v := (.int .i64 (w64 (t_14 + 1)))) hF hS (ex_ibin rfl rfl rfl) rfl rfl fun a hF => ?_
            refine q_x (v := (.int .i64 (w64 (t_14 + 1)))) hF hS (ex_move rfl) rfl rfl fun a hF => ?_
            refine q_end ?_
            obtain rfl := someI hb6
            exact ⟨rfl, q24, s24, _, _, rfl, hF.sub ⟨rfl, rfl, rfl, rfl, rfl, rfl, rfl, rfl, trivial⟩, hS, h24⟩
      · rintro e a w ⟨q26, s26, rfl, hF, hS, h26⟩
        refine x_ib (n_sq ?_)
        refine q_seq ?_
        refine q_region ?_
        refine q_x (v := s26.v) hF hS (ex_move rfl) rfl rfl fun a hF => ?_
        refine q_x (v := s26.v) hF hS (ex_assign rfl) rfl rfl fun a hF => ?_
        refine q_x (v := (.bool true)) hF hS (ex_assign rfl) rfl rfl fun a hF => ?_
        refine q_end (n_sq (q_ret ?_))
        obtain rfl := someI hr
        exact ret_of hF hS rfl (.tmp rfl (.tmp rfl .nil)) ⟨q26, s26, rfl, hS.sel [0] (by decide), h26⟩
    · have hr := cond_t hc5 hr
      refine q_cond_t hF rfl hc5 ?_
      refine q_seq ?_
      refine q_region ?_
      refine q_x (v := nilS.v) hF hS (ex_assign rfl) rfl rfl fun a hF => ?_
      refine q_x (v := (.bool false)) hF hS (ex_assign rfl) rfl rfl fun a hF => ?_
      refine q_end (n_sq (q_ret (r_sq ?_)))
      obtain rfl := someI hr
      exact ret_of hF hS rfl (.tmp rfl (.tmp rfl .nil)) ⟨[], nilS, rfl, hS.sel [2] (by decide), (OwnL.nil (α := Int) m 3)⟩

theorem c_spec_RecordsIn (p_g : impl_Geo) (p_s : List impl_Variable) (p_t : impl_Table) (p_l : List impl_Record) (p_i : Int) (r : (List Int) × Bool) (hr : spec_RecordsIn p_g p_s p_t p_l p_i = some r) (w0 : World) (m : Mem) (hv : Vis m w0) (s1 : Sl) (h1 : Rd m s1 p_g.Parents) (s2 : Sl) (h2 : Rd m s2 p_s) (s3 : Sl) (h3 : Rd m s3 p_t.Vars) (s4 : Sl) (h4 : Rd m s4 p_t.Where) (s5 : Sl) (h5 : Rd m s5 p_l) :
    Ret Try.prog 7 [(.agg #[s1.v]), s2.v, (.agg #[(.int .i64 p_t.Level), s3.v, s4.v, (.int .i64 p_t.Sum)]), s5.v, (.int .i64 p_i)] w0 (fun v w => ∃ (q0' : Piece) (s0' : Sl), v = (.tuple #[s0'.v, (.bool r.2)]) ∧ St [] w0 w m [q0'] ∧ OwnL m 3 q0' s0' r.1) := by
  unfold spec_RecordsIn at hr
  refine ret_start Try.func7 rfl 63 rfl rfl m hv fun a hF hS => ?_
  refine q_seq ?_
  refine q_region ?_
  refine q_box (cs := [s1.v]) hF hS rfl rfl rfl fun a w b6 hF hS => ?_
  refine q_box (cs := [(.int .i64 p_t.Level), s3.v, s4.v, (.int .i64 p_t.Sum)]) hF hS rfl rfl rfl fun a w b7 hF hS => ?_
  refine q_x (v := nilS.v) hF hS (ex_assign rfl) rfl rfl fun a hF => ?_
  refine q_x (v := (.bool false)) hF hS (ex_assign rfl) rfl rfl fun a hF => ?_
  refine q_end (n_sq ?_)
  refine q_seq ?_
  refine q_seq ?_
  obtain ⟨t_12, hj1, hr⟩ := bindS hr
  refine q_join (fun a w => Fr a 63 [(1, s2.v), (3, s5.v), (4, (.int .i64 p_i)), (5, (.pointer (some ⟨b6, 0, none⟩))), (7, (.pointer (some ⟨b7, 0, none⟩))), (38, (.bool t_12))] ∧ St [] w0 w m [[⟨b7, [(.int .i64 p_t.Level), s3.v, s4.v, (.int .i64 p_t.Sum)], 28⟩], [⟨b6, [s1.v], 25⟩]]) ?_ ?_
  · refine q_region ?_
    refine q_x (v := (.agg #[s1.v])) hF hS (ex_loadA (vs := [s1.v]) 1 0 Try.underlying25 rfl sz25 rfl rfl rfl rfl) rfl rfl fun a hF => ?_
    refine q_x (v := s2.v) hF hS (ex_move rfl) rfl rfl fun a hF => ?_
    refine q_x (v := (.agg #[(.int .i64 p_t.Level), s3.v, s4.v, (.int .i64 p_t.Sum)])) hF hS (ex_loadA (vs := [(.int .i64 p_t.Level), s3.v, s4.v, (.int .i64 p_t.Sum)]) 0 0 Try.underlying28 rfl sz28 rfl rfl rfl rfl) rfl rfl fun a hF => ?_
    obtain ⟨t_8, ht_8, hj1⟩ := bindS hj1
    refine q_call (vs := [(.agg #[s1.v]), s2.v, (.agg #[(.int .i64 p_t.Level), s3.v, s4.v, (.int .i64 p_t.Sum)])]) hF hS Try.func23 (by kernel_rfl) rfl rfl rfl (c_spec_uGood p_g p_s p_t t_8 ht_8 _ m hS.vis s1 h1 s2 h2 s3 h3 s4 h4) ?_
    rintro a w _ rfl hF hS
    refine q_x (v := (.bool (!t_8))) hF hS (ex_not rfl) rfl rfl fun a hF => ?_
    refine q_x (v := (.bool (!t_8))) hF hS (ex_move rfl) rfl rfl fun a hF => ?_
    rcases bcase (!t_8) with hc2 | hc2
    · have hj1 := cond_f hc2 hj1
      refine q_xg (v := (.agg #[s1.v])) hF hS (ex_loadA (vs := [s1.v]) 1 0 Try.underlying25 rfl sz25 rfl rfl rfl rfl) (wanted_t hF rfl rfl rfl hc2) rfl fun a hF => ?_
      refine q_xg (v := s2.v) hF hS (ex_move rfl) (wanted_t hF rfl rfl rfl hc2) rfl fun a hF => ?_
      refine q_xg (v := s5.v) hF hS (ex_move rfl) (wanted_t hF rfl rfl rfl hc2) rfl fun a hF => ?_
      obtain ⟨t_9, ht_9, hj1⟩ := bindS hj1
      refine q_callg (vs := [(.agg #[s1.v]), s2.v, s5.v]) hF hS (wanted_t hF rfl rfl rfl hc2) Try.func24 (by kernel_rfl) rfl rfl rfl (c_spec_uSurvey p_g p_s p_l t_9 ht_9 _ m hS.vis s1 h1 s2 h2 s5 h5) ?_
      rintro a w _ rfl hF hS
      refine q_xg (v := (.bool (!t_9))) hF hS (ex_not rfl) (wanted_t hF rfl rfl rfl hc2) rfl fun a hF => ?_
      refine q_x (v := (.bool (!t_9))) hF hS (ex_pick_f rfl rfl hc2) rfl rfl fun a hF => ?_
      refine q_x (v := (.bool (!t_9))) hF hS (ex_move rfl) rfl rfl fun a hF => ?_
      rcases bcase (!t_9) with hc3 | hc3
      · have hj1 := cond_f hc3 hj1
        refine q_xg (v := (.int .i64 p_i)) hF hS (ex_move rfl) (wanted_t hF rfl rfl rfl hc3) rfl fun a hF => ?_
        refine q_xg (v := (.agg #[s1.v])) hF hS (ex_loadA (vs := [s1.v]) 1 0 Try.underlying25 rfl sz25 rfl rfl rfl rfl) (wanted_t hF rfl rfl rfl hc3) rfl fun a hF => ?_
        refine q_xg (v := s2.v) hF hS (ex_move rfl) (wanted_t hF rfl rfl rfl hc3) rfl fun a hF => ?_
        refine q_xg (v := (.agg #[(.int .i64 p_t.Level), s3.v, s4.v, (.int .i64 p_t.Sum)])) hF hS (ex_loadA (vs := [(.int .i64 p_t.Level), s3.v, s4.v, (.int .i64 p_t.Sum)]) 0 0 Try.underlying28 rfl sz28 rfl rfl rfl rfl) (wanted_t hF rfl rfl rfl hc3) rfl fun a hF => ?_
        obtain ⟨t_10, ht_10, hj1⟩ := bindS hj1
        refine q_callg (vs := [(.agg #[s1.v]), s2.v, (.agg #[(.int .i64 p_t.Level), s3.v, s4.v, (.int .i64 p_t.Sum)])]) hF hS (wanted_t hF rfl rfl rfl hc3) Try.func28 (by kernel_rfl) rfl rfl rfl (c_spec_uCount p_g p_s p_t t_10 ht_10 _ m hS.vis s1 h1 s2 h2 s3 h3 s4 h4) ?_
        rintro a w _ rfl hF hS
        refine q_xg (v := (.int .i64 (w64 (t_10 - 1)))) hF hS (ex_ibin rfl rfl rfl) (wanted_t hF rfl rfl rfl hc3) rfl fun a hF => ?_
        obtain ⟨t_11, ht_11, hj1⟩ := bindS hj1
        refine q_callg (vs := [(.int .i64 p_i), (.int .i64 0), (.int .i64 (w64 (t_10 - 1)))]) hF hS (wanted_t hF rfl rfl rfl hc3) Try.func33 (by kernel_rfl) rfl rfl rfl (c_spec_l1In p_i 0 (w64 (t_10 - 1)) t_11 ht_11 _ m hS.vis) ?_
        rintro a w _ rfl hF hS
        refine q_xg (v := (.bool (!t_11))) hF hS (ex_not rfl) (wanted_t hF rfl rfl rfl hc3) rfl fun a hF => ?_
        refine q_x (v := (.bool (!t_11))) hF hS (ex_pick_f rfl rfl hc3) rfl rfl fun a hF => ?_
        refine q_end (n_jn ?_)
        obtain rfl := someI hj1
        exact ⟨hF.sub ⟨rfl, rfl, rfl, rfl, rfl, rfl, trivial⟩, hS⟩
      · have hj1 := cond_t hc3 hj1
        refine q_skip hF (wanted_f hF rfl rfl rfl hc3 rfl) rfl fun a hF => ?_
        refine q_skip hF (wanted_f hF rfl rfl rfl hc3 rfl) rfl fun a hF => ?_
        refine q_skip hF (wanted_f hF rfl rfl rfl hc3 rfl) rfl fun a hF => ?_
        refine q_skip hF (wanted_f hF rfl rfl rfl hc3 rfl) rfl fun a hF => ?_
        refine q_skip hF (wanted_f hF rfl rfl rfl hc3 rfl) rfl fun a hF => ?_
        refine q_skip hF (wanted_f hF rfl rfl rfl hc3 rfl) rfl fun a hF => ?_
        refine q_skip hF (wanted_f hF rfl rfl rfl hc3 rfl) rfl fun a hF => ?_
        refine q_skip hF (wanted_f hF rfl rfl rfl hc3 rfl) rfl fun a hF => ?_
        refine q_x (v := (.bool true)) hF hS (ex_pick_t rfl rfl hc3) rfl rfl fun a hF => ?_
        refine q_end (n_jn ?_)
        obtain rfl := someI hj1
        exact ⟨hF.sub ⟨rfl, rfl, rfl, rfl, rfl, rfl, trivial⟩, hS⟩
    · have hj1 := cond_t hc2 hj1
      refine q_skip hF (wanted_f hF rfl rfl rfl hc2 rfl) rfl fun a hF => ?_
      refine q_skip hF (wanted_f hF rfl rfl rfl hc2 rfl) rfl fun a hF => ?_
      refine q_skip hF (wanted_f hF rfl rfl rfl hc2 rfl) rfl fun a hF => ?_
      refine q_skip hF (wanted_f hF rfl rfl rfl hc2 rfl) rfl fun a hF => ?_
      refine q_skip hF (wanted_f hF rfl rfl rfl hc2 rfl) rfl fun a hF => ?_
      refine q_x (v := (.bool true)) hF hS (ex_pick_t rfl rfl hc2) rfl rfl fun a hF => ?_
      refine q_x (v := (.bool true)) hF hS (ex_move rfl) rfl rfl fun a hF => ?_
      refine q_skip hF (wanted_f hF rfl rfl rfl rfl rfl) rfl fun a hF => ?_
      refine q_skip hF (wanted_f hF rfl rfl rfl rfl rfl) rfl fun a hF => ?_
      refine q_skip hF (wanted_f hF rfl rfl rfl rfl rfl) rfl fun a hF => ?_
      refine q_skip hF (wanted_f hF rfl rfl rfl rfl rfl) rfl fun a hF => ?_
      refine q_skip hF (wanted_f hF rfl rfl rfl rfl rfl) rfl fun a hF => ?_
      refine q_skip hF (wanted_f hF rfl rfl rfl rfl rfl) rfl fun a hF => ?_
      refine q_skip hF (wanted_f hF rfl rfl rfl rfl rfl) rfl fun a hF => ?_
      refine q_skip hF (wanted_f hF rfl rfl rfl rfl rfl) rfl fun a hF => ?_
      refine q_x (v := (.bool true)) hF hS (ex_pick_t rfl rfl rfl) rfl rfl fun a hF => ?_
      refine q_end (n_jn ?_)
      obtain rfl := someI hj1
      exact ⟨hF.sub ⟨rfl, rfl, rfl, rfl, rfl, rfl, trivial⟩, hS⟩
  · rintro a w ⟨hF, hS⟩
    refine n_sq ?_
    rcases bcase (t_12) with hc4 | hc4
    · have hr := cond_f hc4 hr
      refine q_cond_f hF rfl hc4 ?_
      refine q_skipc (n_sq ?_)
      refine q_seq ?_
      refine q_region ?_
      refine q_x (v := nilS.v) hF hS (ex_assign rfl) rfl rfl fun a hF => ?_
      refine q_end (n_sq ?_)
      refine q_seq ?_
      refine q_seq ?_
      refine q_region ?_
      refine q_x (v := s5.v) hF hS (ex_move rfl) rfl rfl fun a hF => ?_
      refine q_x (v := (.int .i64 (goLen p_l))) hF hS (ex_len Try.underlying29 rfl h5.len) rfl rfl fun a hF => ?_
      refine q_x (v := (.int .i64 0)) hF hS (ex_move rfl) rfl rfl fun a hF => ?_
      refine q_end (n_sq ?_)
      refine q_block ?_
      obtain ⟨out_26, hl5, hr⟩ := bindS hr
      refine q_loop (fun (s : (List Int) × Int) a w => ∃ (q14 : Piece), ∃ (s14 : Sl), ∃ out_13, ∃ t_15, s = (out_13, t_15) ∧ Fr a 63 [(1, s2.v), (4, (.int .i64 p_i)), (5, (.pointer (some ⟨b6, 0, none⟩))), (7, (.pointer (some ⟨b7, 0, none⟩))), (12, s14.v), (39, s5.v), (40, (.int .i64 (goLen p_l))), (41, (.int .i64 t_15))] ∧ St [] w0 w m [q14, [⟨b7, [(.int .i64 p_t.Level), s3.v, s4.v, (.int .i64 p_t.Sum)], 28⟩], [⟨b6, [s1.v], 25⟩]] ∧ OwnL m 3 q14 s14 out_13) (fun (out_26 : (List Int)) e a w => ∃ (q27 : Piece), ∃ (s27 : Sl), e = .exit 0 ∧ Fr a 63 [(12, s27.v)] ∧ St [] w0 w m [q27] ∧ OwnL m 3 q27 s27 out_26) hl5 ⟨[], nilS, _, _, rfl, hF.sub ⟨rfl, rfl, rfl, rfl, rfl, rfl, rfl, rfl, trivial⟩, hS.sel [2, 0, 1] (by decide), (OwnL.nil (α := Int) m 3)⟩ ?_ ?_
      · clear hF hS
        rintro s a w st ⟨q14, s14, out_13, t_15, rfl, hF, hS, h14⟩ hb5
        unfold spec_RecordsIn_l1 at hb5
        refine q_seq ?_
        refine q_region ?_
        refine q_x (v := (.bool (decide (t_15 < (goLen p_l))))) hF hS (ex_ibin rfl rfl rfl) rfl rfl fun a hF => ?_
        refine q_end (n_sq ?_)
        refine q_seq ?_
        rcases bcase (decide (t_15 < (goLen p_l))) with hc6 | hc6
        · have hb5 := cond_f hc6 hb5
          refine q_cond_f hF rfl hc6 ?_
          refine q_exit (x_sq ?_)
          obtain rfl := someI hb5
          exact ⟨nofun, .inl ⟨q14, s14, rfl, hF.sub ⟨rfl, trivial⟩, hS.mask [true, false, false], h14⟩⟩
        · have hb5 := cond_t hc6 hb5
          refine q_cond_t hF rfl hc6 ?_
          refine q_skipc (n_sq ?_)
          refine q_seq ?_
          refine q_block ?_
          refine q_seq ?_
          refine q_region ?_
          refine q_x (v := (.int .i64 t_15)) hF hS (ex_move rfl) rfl rfl fun a hF => ?_
          obtain ⟨e_16, he_16, hb5⟩ := bindS hb5
          obtain ⟨vs17, at17, d17⟩ := h5.at he_16 3 rfl
          obtain ⟨s18, rfl, h18⟩ : ∃ s18 : Sl, vs17 = [(.int .i64 e_16.Area), (.int .i64 e_16.House), s18.v] ∧ Rd m s18 e_16.Values := d17
          refine q_x (v := (elP s5 (t_15.toNat * 3))) hF hS (ex_indexAddr Try.underlying29 sz41 rfl rfl (h5.idx he_16)) rfl rfl fun a hF => ?_
          refine q_x (v := (.agg #[(.int .i64 e_16.Area), (.int .i64 e_16.House), s18.v])) hF hS (ex_loadEA (us := [(.int .i64 e_16.Area), (.int .i64 e_16.House), s18.v]) 0 Try.underlying41 rfl sz41 rfl ((at17).at) rfl rfl rfl) rfl rfl fun a hF => ?_
          refine q_alloc (cs := [(.int .i64 0), (.int .i64 0), nilS.v]) hF hS rfl rfl rfl fun a w b19 hF hS => ?_
          refine q_x (v := (.int .i64 t_15)) hF hS (ex_assign rfl) rfl rfl fun a hF => ?_
          refine q_store (vs := [(.int .i64 e_16.Area), (.int .i64 e_16.House), s18.v]) (cs' := [(.int .i64 e_16.Area), (.int .i64 e_16.House), s18.v]) 0 0 hF hS sz41 rfl rfl rfl rfl rfl rfl rfl rfl fun a w hF hS => ?_
          refine q_end (n_sq ?_)
          refine q_seq ?_
          refine q_region ?_
          refine q_x (v := (.agg #[s1.v])) hF hS (ex_loadA (vs := [s1.v]) 3 0 Try.underlying25 rfl sz25 rfl rfl rfl rfl) rfl rfl fun a hF => ?_
          refine q_x (v := s2.v) hF hS (ex_move rfl) rfl rfl fun a hF => ?_
          refine q_x (v := (.agg #[(.int .i64 p_t.Level), s3.v, s4.v, (.int .i64 p_t.Sum)])) hF hS (ex_loadA (vs := [(.int .i64 p_t.Level), s3.v, s4.v, (.int .i64 p_t.Sum)]) 2 0 Try.underlying28 rfl sz28 rfl rfl rfl rfl) rfl rfl fun a hF => ?_
          refine q_x (v := (.agg #[(.int .i64 e_16.Area), (.int .i64 e_16.House), s18.v])) hF hS (ex_loadA (vs := [(.int .i64 e_16.Area), (.int .i64 e_16.House), s18.v]) 0 0 Try.underlying41 rfl sz41 rfl rfl rfl rfl) rfl rfl fun a hF => ?_
          obtain ⟨t_20, ht_20, hb5⟩ := bindS hb5
          refine q_call (vs := [(.agg #[s1.v]), s2.v, (.agg #[(.int .i64 p_t.Level), s3.v, s4.v, (.int .i64 p_t.Sum)]), (.agg #[(.int .i64 e_16.Area), (.int .i64 e_16.House), s18.v])]) hF hS Try.func26 (by kernel_rfl) rfl rfl rfl (c_spec_uCell p_g p_s p_t e_16 t_20 ht_20 _ m hS.vis s1 h1 s2 h2 s3 h3 s4 h4 s18 h18) ?_
          rintro a w _ rfl hF hS
          refine q_x (v := (.tuple #[(.int .i64 t_20.1), (.int .i64 t_20.2)])) hF hS (ex_move rfl) rfl rfl fun a hF => ?_
          refine q_x (v := (.int .i64 t_20.1)) hF hS (ex_extract rfl rfl) rfl rfl fun a hF => ?_
          refine q_x (v := (.int .i64 t_20.2)) hF hS (ex_extract rfl rfl) rfl rfl fun a hF => ?_
          refine q_x (v := (.int .i64 t_20.1)) hF hS (ex_assign rfl) rfl rfl fun a hF => ?_
          refine q_x (v := (.int .i64 t_20.2)) hF hS (ex_assign rfl) rfl rfl fun a hF => ?_
          refine q_end (n_sq ?_)
          refine q_seq ?_
          refine q_region ?_
          refine q_x (v := (.int .i64 t_20.1)) hF hS (ex_move rfl) rfl rfl fun a hF => ?_
          refine q_x (v := (.int .i64 p_i)) hF hS (ex_move rfl) rfl rfl fun a hF => ?_
          refine q_x (v := (.bool (t_20.1 == p_i))) hF hS (ex_ibin rfl rfl rfl) rfl rfl fun a hF => ?_
          refine q_end (n_sq ?_)
          obtain ⟨out_24, hj7, hb5⟩ := bindS hb5
          refine q_join (fun a w => ∃ (q25 : Piece), ∃ (s25 : Sl), Fr a 63 [(1, s2.v), (4, (.int .i64 p_i)), (5, (.pointer (some ⟨b6, 0, none⟩))), (7, (.pointer (some ⟨b7, 0, none⟩))), (12, s25.v), (39, s5.v), (40, (.int .i64 (goLen p_l))), (41, (.int .i64 t_15))] ∧ St [] w0 w m [q25, [⟨b7, [(.int .i64 p_t.Level), s3.v, s4.v, (.int .i64 p_t.Sum)], 28⟩], [⟨b6, [s1.v], 25⟩]] ∧ OwnL m 3 q25 s25 out_24) ?_ ?_
          · rcases bcase (t_20.1 == p_i) with hc8 | hc8
            · have hj7 := cond_f hc8 hj7
              refine q_cond_f hF rfl hc8 ?_
              refine q_skipc (n_jn ?_)
              obtain rfl := someI hj7
              exact ⟨q14, s14, hF.sub ⟨rfl, rfl, rfl, rfl, rfl, rfl, rfl, rfl, trivial⟩, hS.mask [false, true, true, true], h14⟩
            · have hj7 := cond_t hc8 hj7
              refine q_cond_t hF rfl hc8 ?_
              refine q_region ?_
              refine q_x (v := s14.v) hF hS (ex_move rfl) rfl rfl fun a hF => ?_
              refine q_x (v := (.int .i64 t_15)) hF hS (ex_move rfl) rfl rfl fun a hF => ?_
              refine q_do rfl fun _ hK => wp_buildSlice' (l := ([t_15] : List Int)) (cells := [(.int .i64 t_15)]) hF hS Try.underlying23 inf3 rfl rfl (by kernel_rfl) rfl rfl rfl ⟨rfl, rfl⟩ rfl rfl fun a w q21 s21 hF hS h21 _ => hK _ _ ?_
              have hS : St _ _ _ _ [q14, q21, [⟨b19, [(.int .i64 e_16.Area), (.int .i64 e_16.House), s18.v], 41⟩], [⟨b7, [(.int .i64 p_t.Level), s3.v, s4.v, (.int .i64 p_t.Sum)], 28⟩], [⟨b6, [s1.v], 25⟩]] := hS.sel [2, 0, 1, 3, 4] (by decide)
              obtain ⟨l_22, hl_22, hj7⟩ := bindS hj7
              refine q_do rfl fun _ hK => wp_append hF hS h14 Try.underlying23 inf3 rfl rfl rfl rfl (h21.vw hS (j := 1) rfl) rfl (by decide) hl_22 rfl fun a w q23 s23 hF hS h23 => hK _ _ ?_
              refine q_x (v := s23.v) hF hS (ex_assign rfl) rfl rfl fun a hF => ?_
              refine q_end (n_jn ?_)
              obtain rfl := someI hj7
              exact ⟨q23, s23, hF.sub ⟨rfl, rfl, rfl, rfl, rfl, rfl, rfl, rfl, trivial⟩, hS.mask [true, false, false, true, true], h23⟩
          · rintro a w ⟨q25, s25, hF, hS, h25⟩
            refine n_ib (n_sq ?_)
            refine q_region ?_
            refine q_x (v := (.int .i64 (w64 (t_15 + 1)))) hF hS (ex_ibin rfl rfl rfl) rfl rfl fun a hF => ?_
            refine q_x (v := (.int .i64 (w64 (t_15 + 1)))) hF hS (ex_move rfl) rfl rfl fun a hF => ?_
            refine q_end ?_
            obtain rfl := someI hb5
            exact ⟨rfl, q25, s25, _, _, rfl, hF.sub ⟨rfl, rfl, rfl, rfl, rfl, rfl, rfl, rfl, trivial⟩, hS, h25⟩
      · rintro e a w ⟨q27, s27, rfl, hF, hS, h27⟩
        refine x_ib (n_sq ?_)
        refine q_seq ?_
        refine q_region ?_
        refine q_x (v := s27.v) hF hS (ex_move rfl) rfl rfl fun a hF => ?_
        refine q_x (v := s27.v) hF hS (ex_assign rfl) rfl rfl fun a hF => ?_
        refine q_x (v := (.bool true)) hF hS (ex_assign rfl) rfl rfl fun a hF => ?_
        refine q_end (n_sq (q_ret ?_))
        obtain rfl := someI hr
        exact ret_of hF hS rfl (.tmp rfl (.tmp rfl .nil)) ⟨q27, s27, rfl, hS.sel [0] (by decide), h27⟩
    · have hr := cond_t hc4 hr
      refine q_cond_t hF rfl hc4 ?_
      refine q_seq ?_
      refine q_region ?_
      refine q_x (v := nilS.v) hF hS (ex_assign rfl) rfl rfl fun a hF => ?_
      refine q_x (v := (.bool false)) hF hS (ex_assign rfl) rfl rfl fun a hF => ?_
      refine q_end (n_sq (q_ret (r_sq ?_)))
      obtain rfl := someI hr
      exact ret_of hF hS rfl (.tmp rfl (.tmp rfl .nil)) ⟨[], nilS, rfl, hS.sel [2] (by decide), (OwnL.nil (α := Int) m 3)⟩

theorem c_spec_DrawAddCells (p_code : List (K .u8)) (r : (List Int) × (List Int)) (hr : spec_DrawAddCells p_code = some r) (w0 : World) (m : Mem) (hv : Vis m w0) (s1 : Sl) (h1 : Rd m s1 p_code) :
    Ret Try.prog 8 [s1.v] w0 (fun v w => ∃ (q0' : Piece) (q1' : Piece) (s0' : Sl) (s1' : Sl), v = (.tuple #[s0'.v, s1'.v]) ∧ St [] w0 w m [q0', q1'] ∧ OwnL m 3 q0' s0' r.1 ∧ OwnL m 3 q1' s1' r.2) := by
  unfold spec_DrawAddCells at hr
  refine ret_start Try.func8 rfl 58 rfl rfl m hv fun a hF hS => ?_
  refine q_seq ?_
  refine q_region ?_
  refine q_x (v := nilS.v) hF hS (ex_assign rfl) rfl rfl fun a hF => ?_
  refine q_x (v := nilS.v) hF hS (ex_assign rfl) rfl rfl fun a hF => ?_
  refine q_end (n_sq ?_)
  refine q_seq ?_
  refine q_region ?_
  refine q_x (v := s1.v) hF hS (ex_move rfl) rfl rfl fun a hF => ?_
  refine q_x (v := (.agg #[s1.v, (.int .i64 0), (.int .u64 0)])) hF hS (ex_build (cells := [s1.v, (.int .i64 0), (.int .u64 0)]) rfl (by kernel_rfl)) rfl rfl fun a hF => ?_
  refine q_box (cs := [s1.v, (.int .i64 0), (.int .u64 0)]) hF hS rfl rfl rfl fun a w b2 hF hS => ?_
  refine q_x (v := (.pointer (some ⟨b2, 0, none⟩))) hF hS (ex_assign rfl) rfl rfl fun a hF => ?_
  refine q_end (n_sq ?_)
  refine q_seq ?_
  refine q_region ?_
  refine q_x (v := nilS.v) hF hS (ex_assign rfl) rfl rfl fun a hF => ?_
  refine q_x (v := nilS.v) hF hS (ex_assign rfl) rfl rfl fun a hF => ?_
  refine q_end (n_sq ?_)
  refine q_seq ?_
  refine q_seq ?_
  refine q_region ?_
  refine q_x (v := (.pointer (some ⟨b2, 0, none⟩))) hF hS (ex_move rfl) rfl rfl fun a hF => ?_
  have hS3 : St _ _ _ _ ([[⟨b2, [s1.v, (.int .i64 0), (.int .u64 0)], 58⟩]] ++ []) := hS
  have hE3 := hS3.enter
  obtain ⟨t_4, ht_4, hr⟩ := bindS hr
  refine q_do rfl fun _ hK => wp_callX (vs := [(.pointer (some ⟨b2, 0, none⟩)), (.int .i64 6)]) hF Try.func27 (by kernel_rfl) rfl rfl rfl (c_spec_l1Cur_pick (spec_l1Cur.mk p_code 0 (⟨0⟩ : K .u64)) 6 t_4 ht_4 _ m b2 s1 h1 _ hE3) fun a w _ hR hF => hK _ _ ?_
  obtain ⟨rfl, hR3, hk5⟩ := hR
  have hS : St _ _ _ _ [[⟨b2, [s1.v, (.int .i64 t_4.2.at_), (.int .u64 t_4.2.seed.v)], 58⟩]] := hS3.leaveF hR3
  have h5 : Rd m s1 t_4.2.code := by rw [hk5]; exact h1
  refine q_x (v := (.int .i64 t_4.1)) hF hS (ex_assign rfl) rfl rfl fun a hF => ?_
  refine q_end (n_sq ?_)
  refine q_block ?_
  obtain ⟨o1, hl1, hr⟩ := bindS hr
  refine q_loop (fun (s : (List Int) × (List Int) × Int × spec_l1Cur) a w => ∃ (q7 : Piece), ∃ (s7 : Sl), ∃ (q9 : Piece), ∃ (s9 : Sl), ∃ a_6, ∃ b_8, ∃ k_10, ∃ t_11, s = (a_6, b_8, k_10, t_11) ∧ Fr a 58 [(4, (.pointer (some ⟨b2, 0, none⟩))), (5, s7.v), (6, s9.v), (7, (.int .i64 k_10))] ∧ St [] w0 w m [q7, q9, [⟨b2, [s1.v, (.int .i64 t_11.at_), (.int .u64 t_11.seed.v)], 58⟩]] ∧ OwnL m 3 q7 s7 a_6 ∧ OwnL m 3 q9 s9 b_8 ∧ Rd m s1 t_11.code ∧ t_11.code = p_code) (fun (o : (List Int) × (List Int) × spec_l1Cur) e a w => ∃ (q26 : Piece), ∃ (s26 : Sl), ∃ (q28 : Piece), ∃ (s28 : Sl), ∃ a_25, ∃ b_27, ∃ t_29, o = (a_25, b_27, t_29) ∧ e = .exit 0 ∧ Fr a 58 [(4, (.pointer (some ⟨b2, 0, none⟩))), (5, s26.v), (6, s28.v)] ∧ St [] w0 w m [q26, q28, [⟨b2, [s1.v, (.int .i64 t_29.at_), (.int .u64 t_29.seed.v)], 58⟩]] ∧ OwnL m 3 q26 s26 a_25 ∧ OwnL m 3 q28 s28 b_27 ∧ Rd m s1 t_29.code ∧ t_29.code = p_code) hl1 ⟨[], nilS, [], nilS, _, _, _, _, rfl, hF.sub ⟨rfl, rfl, rfl, rfl, trivial⟩, hS.sel [1, 2, 0] (by decide), (OwnL.nil (α := Int) m 3), (OwnL.nil (α := Int) m 3), h5, hk5⟩ ?_ ?_
  · clear hF hS
    rintro s a w st ⟨q7, s7, q9, s9, a_6, b_8, k_10, t_11, rfl, hF, hS, h7, h9, h12, h12k⟩ hb1
    unfold spec_DrawAddCells_l1 at hb1
    refine q_seq ?_
    refine q_seq ?_
    refine q_region ?_
    refine q_x (v := (.int .i64 k_10)) hF hS (ex_move rfl) rfl rfl fun a hF => ?_
    refine q_x (v := (.bool (decide (0 < k_10)))) hF hS (ex_ibin rfl rfl rfl) rfl rfl fun a hF => ?_
    refine q_end (n_sq ?_)
    rcases bcase (decide (0 < k_10)) with hc2 | hc2
    · have hb1 := cond_f hc2 hb1
      refine q_cond_f hF rfl hc2 ?_
      refine q_exit (x_sq ?_)
      obtain rfl := someI hb1
      exact ⟨nofun, .inl ⟨q7, s7, q9, s9, _, _, _, rfl, rfl, hF.sub ⟨rfl, rfl, rfl, trivial⟩, hS, h7, h9, h12, h12k⟩⟩
    · have hb1 := cond_t hc2 hb1
      refine q_cond_t hF rfl hc2 ?_
      refine q_skipc (n_sq ?_)
      refine q_seq ?_
      refine q_block ?_
      refine q_seq ?_
      refine q_region ?_
      refine q_x (v := s7.v) hF hS (ex_move rfl) rfl rfl fun a hF => ?_
      refine q_x (v := (.pointer (some ⟨b2, 0, none⟩))) hF hS (ex_move rfl) rfl rfl fun a hF => ?_
      have hS : St _ _ _ _ [[⟨b2, [s1.v, (.int .i64 t_11.at_), (.int .u64 t_11.seed.v)], 58⟩], q7, q9] := hS.sel [2, 0, 1] (by decide)
      have hS13 : St _ _ _ _ ([[⟨b2, [s1.v, (.int .i64 t_11.at_), (.int .u64 t_11.seed.v)], 58⟩]] ++ [q7, q9]) := hS
      have hE13 := hS13.enter
      obtain ⟨t_14, ht_14, hb1⟩ := bindS hb1
      refine q_do rfl fun _ hK => wp_callX (vs := [(.pointer (some ⟨b2, 0, none⟩)), (.int .i64 40)]) hF Try.func27 (by kernel_rfl) rfl rfl rfl (c_spec_l1Cur_pick t_11 40 t_14 ht_14 _ m b2 s1 h12 _ hE13) fun a w _ hR hF => hK _ _ ?_
      obtain ⟨rfl, hR13, hk15⟩ := hR
      have hS : St _ _ _ _ [[⟨b2, [s1.v, (.int .i64 t_14.2.at_), (.int .u64 t_14.2.seed.v)], 58⟩], q7, q9] := hS13.leaveF hR13
      have h15 : Rd m s1 t_14.2.code := by rw [hk15]; exact h12
      refine q_x (v := (.int .i64 (w64 (t_14.1 - 9)))) hF hS (ex_ibin rfl rfl rfl) rfl rfl fun a hF => ?_
      refine q_do rfl fun _ hK => wp_buildSlice' (l := ([(w64 (t_14.1 - 9))] : List Int)) (cells := [(.int .i64 (w64 (t_14.1 - 9)))]) hF hS Try.underlying23 inf3 rfl rfl (by kernel_rfl) rfl rfl rfl ⟨rfl, rfl⟩ rfl rfl fun a w q16 s16 hF hS h16 _ => hK _ _ ?_
      have hS : St _ _ _ _ [q7, q16, [⟨b2, [s1.v, (.int .i64 t_14.2.at_), (.int .u64 t_14.2.seed.v)], 58⟩], q9] := hS.sel [2, 0, 1, 3] (by decide)
      obtain ⟨l_17, hl_17, hb1⟩ := bindS hb1
      refine q_do rfl fun _ hK => wp_append hF hS h7 Try.underlying23 inf3 rfl rfl rfl rfl (h16.vw hS (j := 1) rfl) rfl (by decide) hl_17 rfl fun a w q18 s18 hF hS h18 => hK _ _ ?_
      refine q_x (v := s18.v) hF hS (ex_assign rfl) rfl rfl fun a hF => ?_
      refine q_end (n_sq ?_)
      refine q_region ?_
      refine q_x (v := s9.v) hF hS (ex_move rfl) rfl rfl fun a hF => ?_
      refine q_x (v := (.pointer (some ⟨b2, 0, none⟩))) hF hS (ex_move rfl) rfl rfl fun a hF => ?_
      have hS : St _ _ _ _ [[⟨b2, [s1.v, (.int .i64 t_14.2.at_), (.int .u64 t_14.2.seed.v)], 58⟩], q18, q16, q9] := hS.sel [2, 0, 1, 3] (by decide)
      have hS19 : St _ _ _ _ ([[⟨b2, [s1.v, (.int .i64 t_14.2.at_), (.int .u64 t_14.2.seed.v)], 58⟩]] ++ [q18, q16, q9]) := hS
      have hE19 := hS19.enter
      obtain ⟨t_20, ht_20, hb1⟩ := bindS hb1
      refine q_do rfl fun _ hK => wp_callX (vs := [(.pointer (some ⟨b2, 0, none⟩)), (.int .i64 40)]) hF Try.func27 (by kernel_rfl) rfl rfl rfl (c_spec_l1Cur_pick t_14.2 40 t_20 ht_20 _ m b2 s1 h15 _ hE19) fun a w _ hR hF => hK _ _ ?_
      obtain ⟨rfl, hR19, hk21⟩ := hR
      have hS : St _ _ _ _ [[⟨b2, [s1.v, (.int .i64 t_20.2.at_), (.int .u64 t_20.2.seed.v)], 58⟩], q18, q16, q9] := hS19.leaveF hR19
      have h21 : Rd m s1 t_20.2.code := by rw [hk21]; exact h15
      refine q_x (v := (.int .i64 (w64 (t_20.1 - 9)))) hF hS (ex_ibin rfl rfl rfl) rfl rfl fun a hF => ?_
      refine q_do rfl fun _ hK => wp_buildSlice' (l := ([(w64 (t_20.1 - 9))] : List Int)) (cells := [(.int .i64 (w64 (t_20.1 - 9)))]) hF hS Try.underlying23 inf3 rfl rfl (by kernel_rfl) rfl rfl rfl ⟨rfl, rfl⟩ rfl rfl fun a w q22 s22 hF hS h22 _ => hK _ _ ?_
      have hS : St _ _ _ _ [q9, q22, [⟨b2, [s1.v, (.int .i64 t_20.2.at_), (.int .u64 t_20.2.seed.v)], 58⟩], q18, q16] := hS.sel [4, 0, 1, 2, 3] (by decide)
      obtain ⟨l_23, hl_23, hb1⟩ := bindS hb1
      refine q_do rfl fun _ hK => wp_append hF hS h9 Try.underlying23 inf3 rfl rfl rfl rfl (h22.vw hS (j := 1) rfl) rfl (by decide) hl_23 rfl fun a w q24 s24 hF hS h24 => hK _ _ ?_
      refine q_x (v := s24.v) hF hS (ex_assign rfl) rfl rfl fun a hF => ?_
      refine q_end (n_ib (n_sq ?_))
      refine q_region ?_
      refine q_x (v := (.int .i64 k_10)) hF hS (ex_move rfl) rfl rfl fun a hF => ?_
      refine q_x (v := (.int .i64 (w64 (k_10 - 1)))) hF hS (ex_ibin rfl rfl rfl) rfl rfl fun a hF => ?_
      refine q_x (v := (.int .i64 (w64 (k_10 - 1)))) hF hS (ex_assign rfl) rfl rfl fun a hF => ?_
      refine q_end ?_
      obtain rfl := someI hb1
      exact ⟨rfl, q18, s18, q24, s24, _, _, _, _, rfl, hF.sub ⟨rfl, rfl, rfl, rfl, trivial⟩, hS.sel [3, 0, 2] (by decide), h18, h24, h21, (hk21.trans (hk15.trans h12k))⟩
  · rintro e a w ⟨q26, s26, q28, s28, a_25, b_27, t_29, rfl, rfl, hF, hS, h26, h28, h30, h30k⟩
    refine x_ib (n_sq ?_)
    refine q_seq ?_
    refine q_seq ?_
    refine q_region ?_
    refine q_x (v := (.pointer (some ⟨b2, 0, none⟩))) hF hS (ex_move rfl) rfl rfl fun a hF => ?_
    have hS : St _ _ _ _ [[⟨b2, [s1.v, (.int .i64 t_29.at_), (.int .u64 t_29.seed.v)], 58⟩], q26, q28] := hS.sel [2, 0, 1] (by decide)
    have hS31 : St _ _ _ _ ([[⟨b2, [s1.v, (.int .i64 t_29.at_), (.int .u64 t_29.seed.v)], 58⟩]] ++ [q26, q28]) := hS
    have hE31 := hS31.enter
    obtain ⟨t_32, ht_32, hr⟩ := bindS hr
    refine q_do rfl fun _ hK => wp_callX (vs := [(.pointer (some ⟨b2, 0, none⟩)), (.int .i64 16)]) hF Try.func27 (by kernel_rfl) rfl rfl rfl (c_spec_l1Cur_pick t_29 16 t_32 ht_32 _ m b2 s1 h30 _ hE31) fun a w _ hR hF => hK _ _ ?_
    obtain ⟨rfl, hR31, hk33⟩ := hR
    have hS : St _ _ _ _ [[⟨b2, [s1.v, (.int .i64 t_32.2.at_), (.int .u64 t_32.2.seed.v)], 58⟩], q26, q28] := hS31.leaveF hR31
    have h33 : Rd m s1 t_32.2.code := by rw [hk33]; exact h30
    refine q_end (n_sq ?_)
    refine q_block ?_
    refine q_seq ?_
    refine q_region ?_
    refine q_x (v := (.bool (t_32.1 == 0))) hF hS (ex_ibin rfl rfl rfl) rfl rfl fun a hF => ?_
    refine q_x (v := (.bool (t_32.1 == 0))) hF hS (ex_assign rfl) rfl rfl fun a hF => ?_
    refine q_end (n_sq ?_)
    obtain ⟨j3, hj3, hr⟩ := bindS hr
    refine q_join (fun a w => ∃ (q63 : Piece), ∃ (s63 : Sl), ∃ (q65 : Piece), ∃ (s65 : Sl), ∃ a_62, ∃ b_64, j3 = (a_62, b_64) ∧ Fr a 58 [(5, s63.v), (6, s65.v)] ∧ St [] w0 w m [q63, q65] ∧ OwnL m 3 q63 s63 a_62 ∧ OwnL m 3 q65 s65 b_64) ?_ ?_
    · rcases bcase (t_32.1 == 0) with hc4 | hc4
      · have hj3 := cond_f hc4 hj3
        refine q_cond_f hF rfl hc4 ?_
        refine q_seq ?_
        refine q_region ?_
        refine q_x (v := (.bool (t_32.1 == 1))) hF hS (ex_ibin rfl rfl rfl) rfl rfl fun a hF => ?_
        refine q_x (v := (.bool (t_32.1 == 1))) hF hS (ex_assign rfl) rfl rfl fun a hF => ?_
        refine q_end (n_sq ?_)
        obtain ⟨j5, hj5, hj3⟩ := bindS hj3
        refine q_join (fun a w => ∃ (q49 : Piece), ∃ (s49 : Sl), ∃ (q51 : Piece), ∃ (s51 : Sl), ∃ a_48, ∃ b_50, j5 = (a_48, b_50) ∧ Fr a 58 [(5, s49.v), (6, s51.v)] ∧ St [] w0 w m [q49, q51] ∧ OwnL m 3 q49 s49 a_48 ∧ OwnL m 3 q51 s51 b_50) ?_ ?_
        · rcases bcase (t_32.1 == 1) with hc6 | hc6
          · have hj5 := cond_f hc6 hj5
            refine q_cond_f hF rfl hc6 ?_
            refine q_seq ?_
            refine q_region ?_
            refine q_x (v := (.bool (t_32.1 == 2))) hF hS (ex_ibin rfl rfl rfl) rfl rfl fun a hF => ?_
            refine q_x (v := (.bool (t_32.1 == 2))) hF hS (ex_assign rfl) rfl rfl fun a hF => ?_
            refine q_end (n_sq ?_)
            obtain ⟨j7, hj7, hj5⟩ := bindS hj5
            refine q_join (fun a w => ∃ (q42 : Piece), ∃ (s42 : Sl), ∃ (q44 : Piece), ∃ (s44 : Sl), ∃ a_41, ∃ b_43, j7 = (a_41, b_43) ∧ Fr a 58 [(5, s42.v), (6, s44.v)] ∧ St [] w0 w m [q42, q44] ∧ OwnL m 3 q42 s42 a_41 ∧ OwnL m 3 q44 s44 b_43) ?_ ?_
            · rcases bcase (t_32.1 == 2) with hc8 | hc8
              · have hj7 := cond_f hc8 hj7
                refine q_cond_f hF rfl hc8 ?_
                refine q_skipc (n_jn ?_)
                obtain rfl := someI hj7
                exact ⟨q26, s26, q28, s28, _, _, rfl, hF.sub ⟨rfl, rfl, trivial⟩, hS.mask [false, true, true], h26, h28⟩
              · have hj7 := cond_t hc8 hj7
                refine q_cond_t hF rfl hc8 ?_
                refine q_seq ?_
                refine q_region ?_
                refine q_x (v := (.pointer (some ⟨b2, 0, none⟩))) hF hS (ex_move rfl) rfl rfl fun a hF => ?_
                have hS34 : St _ _ _ _ ([[⟨b2, [s1.v, (.int .i64 t_32.2.at_), (.int .u64 t_32.2.seed.v)], 58⟩]] ++ [q26, q28]) := hS
                have hE34 := hS34.enter
                obtain ⟨t_35, ht_35, hj7⟩ := bindS hj7
                refine q_do rfl fun _ hK => wp_callX (vs := [(.pointer (some ⟨b2, 0, none⟩)), (.int .i64 2)]) hF Try.func27 (by kernel_rfl) rfl rfl rfl (c_spec_l1Cur_pick t_32.2 2 t_35 ht_35 _ m b2 s1 h33 _ hE34) fun a w _ hR hF => hK _ _ ?_
                obtain ⟨rfl, hR34, hk36⟩ := hR
                have hS : St _ _ _ _ [[⟨b2, [s1.v, (.int .i64 t_35.2.at_), (.int .u64 t_35.2.seed.v)], 58⟩], q26, q28] := hS34.leaveF hR34
                have h36 : Rd m s1 t_35.2.code := by rw [hk36]; exact h33
                refine q_x (v := (.int .i64 (w64 (600 + t_35.1)))) hF hS (ex_ibin rfl rfl rfl) rfl rfl fun a hF => ?_
                obtain ⟨l_37, hl_37, hj7⟩ := bindS hj7
                refine q_do rfl fun _ hK => wp_make (z := (0 : Int)) hF hS Try.underlying23 inf3 rfl rfl rfl rfl rfl (by decide) hl_37 rfl fun a w q38 s38 hF hS h38 _ => hK _ _ ?_
                refine q_x (v := s38.v) hF hS (ex_assign rfl) rfl rfl fun a hF => ?_
                refine q_end (n_sq ?_)
                refine q_region ?_
                refine q_x (v := s38.v) hF hS (ex_move rfl) rfl rfl fun a hF => ?_
                refine q_x (v := (.int .i64 (goLen l_37))) hF hS (ex_len Try.underlying23 rfl h38.len) rfl rfl fun a hF => ?_
                obtain ⟨l_39, hl_39, hj7⟩ := bindS hj7
                refine q_do rfl fun _ hK => wp_make (z := (0 : Int)) hF hS Try.underlying23 inf3 rfl rfl rfl rfl rfl (by decide) hl_39 rfl fun a w q40 s40 hF hS h40 _ => hK _ _ ?_
                refine q_x (v := s40.v) hF hS (ex_assign rfl) rfl rfl fun a hF => ?_
                refine q_end (n_jn ?_)
                obtain rfl := someI hj7
                exact ⟨q38, s38, q40, s40, _, _, rfl, hF.sub ⟨rfl, rfl, trivial⟩, hS.sel [1, 0] (by decide), h38, h40⟩
            · rintro a w ⟨q42, s42, q44, s44, a_41, b_43, rfl, hF, hS, h42, h44⟩
              refine n_jn ?_
              obtain rfl := someI hj5
              exact ⟨q42, s42, q44, s44, _, _, rfl, hF.sub ⟨rfl, rfl, trivial⟩, hS, h42, h44⟩
          · have hj5 := cond_t hc6 hj5
            refine q_cond_t hF rfl hc6 ?_
            refine q_region ?_
            refine q_x (v := s28.v) hF hS (ex_move rfl) rfl rfl fun a hF => ?_
            refine q_do rfl fun _ hK => wp_buildSlice' (l := ([0] : List Int)) (cells := [(.int .i64 0)]) hF hS Try.underlying23 inf3 rfl rfl (by kernel_rfl) rfl rfl rfl ⟨rfl, rfl⟩ rfl rfl fun a w q45 s45 hF hS h45 _ => hK _ _ ?_
            have hS : St _ _ _ _ [q28, q45, [⟨b2, [s1.v, (.int .i64 t_32.2.at_), (.int .u64 t_32.2.seed.v)], 58⟩], q26] := hS.sel [3, 0, 1, 2] (by decide)
            obtain ⟨l_46, hl_46, hj5⟩ := bindS hj5
            refine q_do rfl fun _ hK => wp_append hF hS h28 Try.underlying23 inf3 rfl rfl rfl rfl (h45.vw hS (j := 1) rfl) rfl (by decide) hl_46 rfl fun a w q47 s47 hF hS h47 => hK _ _ ?_
            refine q_x (v := s47.v) hF hS (ex_assign rfl) rfl rfl fun a hF => ?_
            refine q_end (n_jn ?_)
            obtain rfl := someI hj5
            exact ⟨q26, s26, q47, s47, _, _, rfl, hF.sub ⟨rfl, rfl, trivial⟩, hS.sel [3, 0] (by decide), h26, h47⟩
        · rintro a w ⟨q49, s49, q51, s51, a_48, b_50, rfl, hF, hS, h49, h51⟩
          refine n_jn ?_
          obtain rfl := someI hj3
          exact ⟨q49, s49, q51, s51, _, _, rfl, hF.sub ⟨rfl, rfl, trivial⟩, hS, h49, h51⟩
      · have hj3 := cond_t hc4 hj3
        refine q_cond_t hF rfl hc4 ?_
        refine q_seq ?_
        refine q_region ?_
        refine q_x (v := s26.v) hF hS (ex_move rfl) rfl rfl fun a hF => ?_
        refine q_x (v := (.pointer (some ⟨b2, 0, none⟩))) hF hS (ex_move rfl) rfl rfl fun a hF => ?_
        refine q_do rfl fun _ hK => wp_buildSlice' (l := ([1000000, 1000001, -1000001] : List Int)) (cells := [(.int .i64 1000000), (.int .i64 1000001), (.int .i64 (-1000001))]) hF hS Try.underlying23 inf3 rfl rfl (by kernel_rfl) rfl rfl rfl ⟨rfl, rfl, rfl, rfl⟩ rfl rfl fun a w q52 s52 hF hS h52 _ => hK _ _ ?_
        have hS : St _ _ _ _ [[⟨b2, [s1.v, (.int .i64 t_32.2.at_), (.int .u64 t_32.2.seed.v)], 58⟩], q52, q26, q28] := hS.sel [1, 0, 2, 3] (by decide)
        have hS53 : St _ _ _ _ ([[⟨b2, [s1.v, (.int .i64 t_32.2.at_), (.int .u64 t_32.2.seed.v)], 58⟩]] ++ [q52, q26, q28]) := hS
        obtain ⟨m53, hl53, hE53, hz53⟩ := hS53.lendX
        obtain ⟨t_54, ht_54, hj3⟩ := bindS hj3
        refine q_do rfl fun _ hK => wp_callX (vs := [(.pointer (some ⟨b2, 0, none⟩)), s52.v]) hF Try.func34 (by kernel_rfl) rfl rfl rfl (c_spec_l1Cur_among t_32.2 ([1000000, 1000001, -1000001] : List Int) t_54 ht_54 _ m53 b2 s1 (h33.mono hl53) s52 (h52.froz hl53 (hz53 0 _ rfl)) _ hE53) fun a w _ hR hF => hK _ _ ?_
        obtain ⟨rfl, hR53, hk55⟩ := hR
        have hS : St _ _ _ _ [[⟨b2, [s1.v, (.int .i64 t_54.2.at_), (.int .u64 t_54.2.seed.v)], 58⟩], q52, q26, q28] := hS53.leaveF hR53
        have h55 : Rd m s1 t_54.2.code := by rw [hk55]; exact h33
        refine q_do rfl fun _ hK => wp_buildSlice' (l := ([t_54.1] : List Int)) (cells := [(.int .i64 t_54.1)]) hF hS Try.underlying23 inf3 rfl rfl (by kernel_rfl) rfl rfl rfl ⟨rfl, rfl⟩ rfl rfl fun a w q56 s56 hF hS h56 _ => hK _ _ ?_
        have hS : St _ _ _ _ [q26, q56, [⟨b2, [s1.v, (.int .i64 t_54.2.at_), (.int .u64 t_54.2.seed.v)], 58⟩], q52, q28] := hS.sel [3, 0, 1, 2, 4] (by decide)
        obtain ⟨l_57, hl_57, hj3⟩ := bindS hj3
        refine q_do rfl fun _ hK => wp_append hF hS h26 Try.underlying23 inf3 rfl rfl rfl rfl (h56.vw hS (j := 1) rfl) rfl (by decide) hl_57 rfl fun a w q58 s58 hF hS h58 => hK _ _ ?_
        refine q_x (v := s58.v) hF hS (ex_assign rfl) rfl rfl fun a hF => ?_
        refine q_end (n_sq ?_)
        refine q_region ?_
        refine q_x (v := s28.v) hF hS (ex_move rfl) rfl rfl fun a hF => ?_
        refine q_do rfl fun _ hK => wp_buildSlice' (l := ([1] : List Int)) (cells := [(.int .i64 1)]) hF hS Try.underlying23 inf3 rfl rfl (by kernel_rfl) rfl rfl rfl ⟨rfl, rfl⟩ rfl rfl fun a w q59 s59 hF hS h59 _ => hK _ _ ?_
        have hS : St _ _ _ _ [q28, q59, q58, q56, [⟨b2, [s1.v, (.int .i64 t_54.2.at_), (.int .u64 t_54.2.seed.v)], 58⟩], q52] := hS.sel [5, 0, 1, 2, 3, 4] (by decide)
        obtain ⟨l_60, hl_60, hj3⟩ := bindS hj3
        refine q_do rfl fun _ hK => wp_append hF hS h28 Try.underlying23 inf3 rfl rfl rfl rfl (h59.vw hS (j := 1) rfl) rfl (by decide) hl_60 rfl fun a w q61 s61 hF hS h61 => hK _ _ ?_
        refine q_x (v := s61.v) hF hS (ex_assign rfl) rfl rfl fun a hF => ?_
        refine q_end (n_jn ?_)
        obtain rfl := someI hj3
        exact ⟨q58, s58, q61, s61, _, _, rfl, hF.sub ⟨rfl, rfl, trivial⟩, hS.sel [2, 0] (by decide), h58, h61⟩
    · rintro a w ⟨q63, s63, q65, s65, a_62, b_64, rfl, hF, hS, h63, h65⟩
      refine n_ib (n_sq ?_)
      refine q_seq ?_
      refine q_region ?_
      refine q_x (v := s63.v) hF hS (ex_move rfl) rfl rfl fun a hF => ?_
      refine q_x (v := s65.v) hF hS (ex_move rfl) rfl rfl fun a hF => ?_
      refine q_x (v := s63.v) hF hS (ex_assign rfl) rfl rfl fun a hF => ?_
      refine q_x (v := s65.v) hF hS (ex_assign rfl) rfl rfl fun a hF => ?_
      refine q_end (n_sq (q_ret ?_))
      obtain rfl := someI hr
      exact ret_of hF hS rfl (.tmp rfl (.tmp rfl .nil)) ⟨q63, q65, s63, s65, rfl, hS.sel [0, 1] (by decide), h63, h65⟩

theorem c_impl_areSmallIntegers (p_list : List Int) (p_n : Int) (r : Bool) (hr : impl_areSmallIntegers p_list p_n = some r) (w0 : World) (m : Mem) (hv : Vis m w0) (s1 : Sl) (h1 : Rd m s1 p_list) :
    Ret Try.prog 35 [s1.v, (.int .i64 p_n)] w0 (fun v _ => v = (.bool r)) := by
  unfold impl_areSmallIntegers at hr
  refine ret_start Try.func35 rfl 24 rfl rfl m hv fun a hF hS => ?_
  refine q_seq ?_
  refine q_region ?_
  refine q_x (v := (.bool false)) hF hS (ex_assign rfl) rfl rfl fun a hF => ?_
  refine q_end (n_sq ?_)
  refine q_seq ?_
  refine q_seq ?_
  refine q_region ?_
  refine q_x (v := s1.v) hF hS (ex_move rfl) rfl rfl fun a hF => ?_
  refine q_x (v := (.int .i64 (goLen p_list))) hF hS (ex_len Try.underlying23 rfl h1.len) rfl rfl fun a hF => ?_
  refine q_x (v := (.int .i64 p_n)) hF hS (ex_move rfl) rfl rfl fun a hF => ?_
  refine q_x (v := (.bool ((goLen p_list) != p_n))) hF hS (ex_ibin rfl rfl rfl) rfl rfl fun a hF => ?_
  refine q_end (n_sq ?_)
  rcases bcase ((goLen p_list) != p_n) with hc1 | hc1
  · have hr := cond_f hc1 hr
    refine q_cond_f hF rfl hc1 ?_
    refine q_skipc (n_sq ?_)
    refine q_seq ?_
    refine q_seq ?_
    refine q_region ?_
    refine q_x (v := s1.v) hF hS (ex_move rfl) rfl rfl fun a hF => ?_
    refine q_x (v := (.int .i64 (goLen p_list))) hF hS (ex_len Try.underlying23 rfl h1.len) rfl rfl fun a hF => ?_
    refine q_x (v := (.int .i64 0)) hF hS (ex_move rfl) rfl rfl fun a hF => ?_
    refine q_end (n_sq ?_)
    refine q_block ?_
    obtain ⟨o2, hl2, hr⟩ := bindS hr
    refine q_loop (fun (t_2 : Int) a w => Fr a 24 [(11, s1.v), (12, (.int .i64 (goLen p_list))), (13, (.int .i64 t_2))] ∧ St [] w0 w m []) (fun (o : (Unit) ⊕ (Bool)) e a w => o = .inl () ∧ e = .exit 0 ∧ Fr a 24 [] ∧ St [] w0 w m []) hl2 ⟨hF.sub ⟨rfl, rfl, rfl, trivial⟩, hS⟩ ?_ ?_
    · clear hF hS
      rintro t_2 a w st ⟨hF, hS⟩ hb2
      unfold impl_areSmallIntegers_l1 at hb2
      refine q_seq ?_
      refine q_region ?_
      refine q_x (v := (.bool (decide (t_2 < (goLen p_list))))) hF hS (ex_ibin rfl rfl rfl) rfl rfl fun a hF => ?_
      refine q_end (n_sq ?_)
      refine q_seq ?_
      rcases bcase (decide (t_2 < (goLen p_list))) with hc3 | hc3
      · have hb2 := cond_f hc3 hb2
        refine q_cond_f hF rfl hc3 ?_
        refine q_exit (x_sq ?_)
        obtain rfl := someI hb2
        exact ⟨nofun, .inl ⟨rfl, rfl, hF.sub trivial, hS⟩⟩
      · have hb2 := cond_t hc3 hb2
        refine q_cond_t hF rfl hc3 ?_
        refine q_skipc (n_sq ?_)
        refine q_seq ?_
        refine q_block ?_
        refine q_seq ?_
        refine q_region ?_
        obtain ⟨e_3, he_3, hb2⟩ := bindS hb2
        obtain ⟨vs4, at4, d4⟩ := h1.at he_3 1 rfl
        obtain rfl : vs4 = [(.int .i64 e_3)] := d4
        refine q_x (v := (elP s1 (t_2.toNat * 1))) hF hS (ex_indexAddr Try.underlying23 sz3 rfl rfl (h1.idx he_3)) rfl rfl fun a hF => ?_
        refine q_x (v := (.int .i64 e_3)) hF hS (ex_loadE1 0 Try.underlying3 rfl rfl ((at4).at) rfl rfl) rfl rfl fun a hF => ?_
        refine q_x (v := (.int .i64 e_3)) hF hS (ex_assign rfl) rfl rfl fun a hF => ?_
        refine q_end (n_sq ?_)
        refine q_seq ?_
        obtain ⟨t_5, hj4, hb2⟩ := bindS hb2
        refine q_join (fun a w => Fr a 24 [(11, s1.v), (12, (.int .i64 (goLen p_list))), (13, (.int .i64 t_2)), (22, (.bool t_5))] ∧ St [] w0 w m []) ?_ ?_
        · refine q_region ?_
          refine q_x (v := (.int .i64 e_3)) hF hS (ex_move rfl) rfl rfl fun a hF => ?_
          refine q_x (v := (.bool (decide (e_3 < (-1000000))))) hF hS (ex_ibin rfl rfl rfl) rfl rfl fun a hF => ?_
          refine q_x (v := (.bool (decide (e_3 < (-1000000))))) hF hS (ex_move rfl) rfl rfl fun a hF => ?_
          rcases bcase (decide (e_3 < (-1000000))) with hc5 | hc5
          · have hj4 := cond_f hc5 hj4
            refine q_xg (v := (.int .i64 e_3)) hF hS (ex_move rfl) (wanted_t hF rfl rfl rfl hc5) rfl fun a hF => ?_
            refine q_xg (v := (.bool (decide (1000000 < e_3)))) hF hS (ex_ibin rfl rfl rfl) (wanted_t hF rfl rfl rfl hc5) rfl fun a hF => ?_
            refine q_x (v := (.bool (decide (1000000 < e_3)))) hF hS (ex_pick_f rfl rfl hc5) rfl rfl fun a hF => ?_
            refine q_end (n_jn ?_)
            obtain rfl := someI hj4
            exact ⟨hF.sub ⟨rfl, rfl, rfl, rfl, trivial⟩, hS⟩
          · have hj4 := cond_t hc5 hj4
            refine q_skip hF (wanted_f hF rfl rfl rfl hc5 rfl) rfl fun a hF => ?_
            refine q_skip hF (wanted_f hF rfl rfl rfl hc5 rfl) rfl fun a hF => ?_
            refine q_x (v := (.bool true)) hF hS (ex_pick_t rfl rfl hc5) rfl rfl fun a hF => ?_
            refine q_end (n_jn ?_)
            obtain rfl := someI hj4
            exact ⟨hF.sub ⟨rfl, rfl, rfl, rfl, trivial⟩, hS⟩
        · rintro a w ⟨hF, hS⟩
          refine n_sq ?_
          rcases bcase (t_5) with hc6 | hc6
          · have hb2 := cond_f hc6 hb2
            refine q_cond_f hF rfl hc6 ?_
            refine q_skipc (n_ib (n_sq ?_))
            refine q_region ?_
            refine q_x (v := (.int .i64 (w64 (t_2 + 1)))) hF hS (ex_ibin rfl rfl rfl) rfl rfl fun a hF => ?_
            refine q_x (v := (.int .i64 (w64 (t_2 + 1)))) hF hS (ex_move rfl) rfl rfl fun a hF => ?_
            refine q_end ?_
            obtain rfl := someI hb2
            exact ⟨rfl, hF.sub ⟨rfl, rfl, rfl, trivial⟩, hS⟩
          · have hb2 := cond_t hc6 hb2
            refine q_cond_t hF rfl hc6 ?_
            refine q_seq ?_
            refine q_region ?_
            refine q_x (v := (.bool false)) hF hS (ex_assign rfl) rfl rfl fun a hF => ?_
            refine q_end (n_sq (q_ret (r_ib (r_sq ?_))))
            obtain rfl := someI hb2
            refine ⟨nofun, .inr fun ho => ?_⟩
            subst ho
            refine r_ib (r_sq ?_)
            obtain rfl := someI hr
            exact ret_of hF hS rfl (.tmp rfl .nil) rfl
    · rintro e a w ⟨rfl, rfl, hF, hS⟩
      refine x_ib (n_sq ?_)
      refine q_seq ?_
      refine q_region ?_
      refine q_x (v := (.bool true)) hF hS (ex_assign rfl) rfl rfl fun a hF => ?_
      refine q_end (n_sq (q_ret ?_))
      obtain rfl := someI hr
      exact ret_of hF hS rfl (.tmp rfl .nil) rfl
  · have hr := cond_t hc1 hr
    refine q_cond_t hF rfl hc1 ?_
    refine q_seq ?_
    refine q_region ?_
    refine q_x (v := (.bool false)) hF hS (ex_assign rfl) rfl rfl fun a hF => ?_
    refine q_end (n_sq (q_ret (r_sq ?_)))
    obtain rfl := someI hr
    exact ret_of hF hS rfl (.tmp rfl .nil) rfl

theorem c_slices_Clone_int_int (p_s : List Int) (r : (List Int)) (hr : slices_Clone_int_int p_s = some r) (w0 : World) (m : Mem) (hv : Vis m w0) (s1 : Sl) (h1 : Rd m s1 p_s) :
    Ret Try.prog 36 [s1.v] w0 (fun v w => ∃ (q0' : Piece) (s0' : Sl), v = s0'.v ∧ St [] w0 w m [q0'] ∧ OwnL m 3 q0' s0' r) := by
  unfold slices_Clone_int_int at hr
  refine ret_start Try.func36 rfl 8 rfl rfl m hv fun a hF hS => ?_
  refine q_seq ?_
  refine q_region ?_
  refine q_x (v := nilS.v) hF hS (ex_assign rfl) rfl rfl fun a hF => ?_
  refine q_end (n_sq ?_)
  refine q_seq ?_
  refine q_seq ?_
  refine q_region ?_
  refine q_x (v := s1.v) hF hS (ex_move rfl) rfl rfl fun a hF => ?_
  refine q_x (v := (.bool s1.p.isNone)) hF hS (ex_eqNil Try.underlying23 rfl rfl) rfl rfl fun a hF => ?_
  refine q_end (n_sq ?_)
  rcases bcase (s1.p.isNone) with hc1 | hc1
  · refine q_cond_f hF rfl hc1 ?_
    refine q_skipc (n_sq ?_)
    refine q_seq ?_
    refine q_region ?_
    refine q_do rfl fun _ hK => wp_build0 (α := Int) hF hS Try.underlying23 inf3 rfl fun a w q2 s2 hF hS h2 _ => hK _ _ ?_
    refine q_x (v := s1.v) hF hS (ex_move rfl) rfl rfl fun a hF => ?_
    obtain ⟨l_3, hl_3, hr⟩ := bindS hr
    refine q_do rfl fun _ hK => wp_append hF hS h2 Try.underlying23 inf3 rfl rfl rfl rfl (h1.vw hS.vis) rfl (by decide) hl_3 rfl fun a w q4 s4 hF hS h4 => hK _ _ ?_
    refine q_x (v := s4.v) hF hS (ex_assign rfl) rfl rfl fun a hF => ?_
    refine q_end (n_sq (q_ret ?_))
    obtain rfl := someI hr
    exact ret_of hF hS rfl (.tmp rfl .nil) ⟨q4, s4, rfl, hS.sel [0] (by decide), h4⟩
  · have hnhc1 := h1.nilE hc1
    have hr : (some ([] : List Int)) = some r := by rw [hnhc1] at hr; exact hr
    refine q_cond_t hF rfl hc1 ?_
    refine q_seq ?_
    refine q_region ?_
    refine q_x (v := nilS.v) hF hS (ex_assign rfl) rfl rfl fun a hF => ?_
    refine q_end (n_sq (q_ret (r_sq ?_)))
    obtain rfl := someI hr
    exact ret_of hF hS rfl (.tmp rfl .nil) ⟨[], nilS, rfl, hS.sel [0] (by decide), (OwnL.nil (α := Int) m 3)⟩

theorem c_impl_AddCells (p_a : List Int) (p_b : List Int) (r : (List Int) × Bool) (hr : impl_AddCells p_a p_b = some r) (w0 : World) (m : Mem) (hv : Vis m w0) (s1 : Sl) (h1 : Rd m s1 p_a) (s2 : Sl) (h2 : Rd m s2 p_b) :
    Ret Try.prog 9 [s1.v, s2.v] w0 (fun v w => ∃ (q0' : Piece) (s0' : Sl), v = (.tuple #[s0'.v, (.bool r.2)]) ∧ St [] w0 w m [q0'] ∧ OwnL m 3 q0' s0' r.1) := by
  unfold impl_AddCells at hr
  refine ret_start Try.func9 rfl 44 rfl rfl m hv fun a hF hS => ?_
  refine q_seq ?_
  refine q_region ?_
  refine q_x (v := nilS.v) hF hS (ex_assign rfl) rfl rfl fun a hF => ?_
  refine q_x (v := (.bool false)) hF hS (ex_assign rfl) rfl rfl fun a hF => ?_
  refine q_end (n_sq ?_)
  refine q_seq ?_
  refine q_seq ?_
  obtain ⟨t_5, hj1, hr⟩ := bindS hr
  refine q_join (fun a w => Fr a 44 [(0, s1.v), (1, s2.v), (25, (.bool t_5))] ∧ St [] w0 w m []) ?_ ?_
  · refine q_region ?_
    refine q_x (v := s1.v) hF hS (ex_move rfl) rfl rfl fun a hF => ?_
    refine q_x (v := (.int .i64 (goLen p_a))) hF hS (ex_len Try.underlying23 rfl h1.len) rfl rfl fun a hF => ?_
    refine q_x (v := (.bool (decide (600 < (goLen p_a))))) hF hS (ex_ibin rfl rfl rfl) rfl rfl fun a hF => ?_
    refine q_x (v := (.bool (decide (600 < (goLen p_a))))) hF hS (ex_move rfl) rfl rfl fun a hF => ?_
    rcases bcase (decide (600 < (goLen p_a))) with hc2 | hc2
    · have hj1 := cond_f hc2 hj1
      refine q_xg (v := s1.v) hF hS (ex_move rfl) (wanted_t hF rfl rfl rfl hc2) rfl fun a hF => ?_
      refine q_xg (v := s1.v) hF hS (ex_move rfl) (wanted_t hF rfl rfl rfl hc2) rfl fun a hF => ?_
      refine q_xg (v := (.int .i64 (goLen p_a))) hF hS (ex_len Try.underlying23 rfl h1.len) (wanted_t hF rfl rfl rfl hc2) rfl fun a hF => ?_
      obtain ⟨t_3, ht_3, hj1⟩ := bindS hj1
      refine q_callg (vs := [s1.v, (.int .i64 (goLen p_a))]) hF hS (wanted_t hF rfl rfl rfl hc2) Try.func35 (by kernel_rfl) rfl rfl rfl (c_impl_areSmallIntegers p_a (goLen p_a) t_3 ht_3 _ m hS.vis s1 h1) ?_
      rintro a w _ rfl hF hS
      refine q_xg (v := (.bool (!t_3))) hF hS (ex_not rfl) (wanted_t hF rfl rfl rfl hc2) rfl fun a hF => ?_
      refine q_x (v := (.bool (!t_3))) hF hS (ex_pick_f rfl rfl hc2) rfl rfl fun a hF => ?_
      refine q_x (v := (.bool (!t_3))) hF hS (ex_move rfl) rfl rfl fun a hF => ?_
      rcases bcase (!t_3) with hc3 | hc3
      · have hj1 := cond_f hc3 hj1
        refine q_xg (v := s2.v) hF hS (ex_move rfl) (wanted_t hF rfl rfl rfl hc3) rfl fun a hF => ?_
        refine q_xg (v := s1.v) hF hS (ex_move rfl) (wanted_t hF rfl rfl rfl hc3) rfl fun a hF => ?_
        refine q_xg (v := (.int .i64 (goLen p_a))) hF hS (ex_len Try.underlying23 rfl h1.len) (wanted_t hF rfl rfl rfl hc3) rfl fun a hF => ?_
        obtain ⟨t_4, ht_4, hj1⟩ := bindS hj1
        refine q_callg (vs := [s2.v, (.int .i64 (goLen p_a))]) hF hS (wanted_t hF rfl rfl rfl hc3) Try.func35 (by kernel_rfl) rfl rfl rfl (c_impl_areSmallIntegers p_b (goLen p_a) t_4 ht_4 _ m hS.vis s2 h2) ?_
        rintro a w _ rfl hF hS
        refine q_xg (v := (.bool (!t_4))) hF hS (ex_not rfl) (wanted_t hF rfl rfl rfl hc3) rfl fun a hF => ?_
        refine q_x (v := (.bool (!t_4))) hF hS (ex_pick_f rfl rfl hc3) rfl rfl fun a hF => ?_
        refine q_end (n_jn ?_)
        obtain rfl := someI hj1
        exact ⟨hF.sub ⟨rfl, rfl, rfl, trivial⟩, hS⟩
      · have hj1 := cond_t hc3 hj1
        refine q_skip hF (wanted_f hF rfl rfl rfl hc3 rfl) rfl fun a hF => ?_
        refine q_skip hF (wanted_f hF rfl rfl rfl hc3 rfl) rfl fun a hF => ?_
        refine q_skip hF (wanted_f hF rfl rfl rfl hc3 rfl) rfl fun a hF => ?_
        refine q_skip hF (wanted_f hF rfl rfl rfl hc3 rfl) rfl fun a hF => ?_
        refine q_skip hF (wanted_f hF rfl rfl rfl hc3 rfl) rfl fun a hF => ?_
        refine q_x (v := (.bool true)) hF hS (ex_pick_t rfl rfl hc3) rfl rfl fun a hF => ?_
        refine q_end (n_jn ?_)
        obtain rfl := someI hj1
        exact ⟨hF.sub ⟨rfl, rfl, rfl, trivial⟩, hS⟩
    · have hj1 := cond_t hc2 hj1
      refine q_skip hF (wanted_f hF rfl rfl rfl hc2 rfl) rfl fun a hF => ?_
      refine q_skip hF (wanted_f hF rfl rfl rfl hc2 rfl) rfl fun a hF => ?_
      refine q_skip hF (wanted_f hF rfl rfl rfl hc2 rfl) rfl fun a hF => ?_
      refine q_skip hF (wanted_f hF rfl rfl rfl hc2 rfl) rfl fun a hF => ?_
      refine q_skip hF (wanted_f hF rfl rfl rfl hc2 rfl) rfl fun a hF => ?_
      refine q_x (v := (.bool true)) hF hS (ex_pick_t rfl rfl hc2) rfl rfl fun a hF => ?_
      refine q_x (v := (.bool true)) hF hS (ex_move rfl) rfl rfl fun a hF => ?_
      refine q_skip hF (wanted_f hF rfl rfl rfl rfl rfl) rfl fun a hF => ?_
      refine q_skip hF (wanted_f hF rfl rfl rfl rfl rfl) rfl fun a hF => ?_
      refine q_skip hF (wanted_f hF rfl rfl rfl rfl rfl) rfl fun a hF => ?_
      refine q_skip hF (wanted_f hF rfl rfl rfl rfl rfl) rfl fun a hF => ?_
      refine q_skip hF (wanted_f hF rfl rfl rfl rfl rfl) rfl fun a hF => ?_
      refine q_x (v := (.bool true)) hF hS (ex_pick_t rfl rfl rfl) rfl rfl fun a hF => ?_
      refine q_end (n_jn ?_)
      obtain rfl := someI hj1
      exact ⟨hF.sub ⟨rfl, rfl, rfl, trivial⟩, hS⟩
  · rintro a w ⟨hF, hS⟩
    refine n_sq ?_
    rcases bcase (t_5) with hc4 | hc4
    · have hr := cond_f hc4 hr
      refine q_cond_f hF rfl hc4 ?_
      refine q_skipc (n_sq ?_)
      refine q_seq ?_
      refine q_region ?_
      refine q_x (v := s1.v) hF hS (ex_move rfl) rfl rfl fun a hF => ?_
      obtain ⟨t_6, ht_6, hr⟩ := bindS hr
      refine q_call (vs := [s1.v]) hF hS Try.func36 (by kernel_rfl) rfl rfl rfl (c_slices_Clone_int_int p_a t_6 ht_6 _ m hS.vis s1 h1) ?_
      rintro a w _ ⟨q8, s8, rfl, hR7, h8⟩ hF hS2
      have hS : St _ _ _ _ [q8] := hS.joinF hR7
      refine q_x (v := s8.v) hF hS (ex_assign rfl) rfl rfl fun a hF => ?_
      refine q_end (n_sq ?_)
      refine q_seq ?_
      refine q_seq ?_
      refine q_region ?_
      refine q_x (v := s2.v) hF hS (ex_move rfl) rfl rfl fun a hF => ?_
      refine q_x (v := (.int .i64 (goLen p_b))) hF hS (ex_len Try.underlying23 rfl h2.len) rfl rfl fun a hF => ?_
      refine q_x (v := (.int .i64 0)) hF hS (ex_move rfl) rfl rfl fun a hF => ?_
      refine q_end (n_sq ?_)
      refine q_block ?_
      obtain ⟨out_19, hl5, hr⟩ := bindS hr
      refine q_loop (fun (s : (List Int) × Int) a w => ∃ (q10 : Piece), ∃ out_9, ∃ t_11, s = (out_9, t_11) ∧ Fr a 44 [(6, s8.v), (28, s2.v), (29, (.int .i64 (goLen p_b))), (30, (.int .i64 t_11))] ∧ St [] w0 w m [q10] ∧ OwnL m 3 q10 s8 out_9) (fun (out_19 : (List Int)) e a w => ∃ (q20 : Piece), e = .exit 0 ∧ Fr a 44 [(6, s8.v)] ∧ St [] w0 w m [q20] ∧ OwnL m 3 q20 s8 out_19) hl5 ⟨q8, _, _, rfl, hF.sub ⟨rfl, rfl, rfl, rfl, trivial⟩, hS, h8⟩ ?_ ?_
      · clear hF hS
        rintro s a w st ⟨q10, out_9, t_11, rfl, hF, hS, h10⟩ hb5
        unfold impl_AddCells_l1 at hb5
        refine q_seq ?_
        refine q_region ?_
        refine q_x (v := (.bool (decide (t_11 < (goLen p_b))))) hF hS (ex_ibin rfl rfl rfl) rfl rfl fun a hF => ?_
        refine q_end (n_sq ?_)
        refine q_seq ?_
        rcases bcase (decide (t_11 < (goLen p_b))) with hc6 | hc6
        · have hb5 := cond_f hc6 hb5
          refine q_cond_f hF rfl hc6 ?_
          refine q_exit (x_sq ?_)
          obtain rfl := someI hb5
          exact ⟨nofun, .inl ⟨q10, rfl, hF.sub ⟨rfl, trivial⟩, hS, h10⟩⟩
        · have hb5 := cond_t hc6 hb5
          refine q_cond_t hF rfl hc6 ?_
          refine q_skipc (n_sq ?_)
          refine q_seq ?_
          refine q_block ?_
          refine q_seq ?_
          refine q_region ?_
          refine q_x (v := (.int .i64 t_11)) hF hS (ex_move rfl) rfl rfl fun a hF => ?_
          obtain ⟨e_12, he_12, hb5⟩ := bindS hb5
          obtain ⟨vs13, at13, d13⟩ := h2.at he_12 1 rfl
          obtain rfl : vs13 = [(.int .i64 e_12)] := d13
          refine q_x (v := (elP s2 (t_11.toNat * 1))) hF hS (ex_indexAddr Try.underlying23 sz3 rfl rfl (h2.idx he_12)) rfl rfl fun a hF => ?_
          refine q_x (v := (.int .i64 e_12)) hF hS (ex_loadE1 0 Try.underlying3 rfl rfl ((at13).at) rfl rfl) rfl rfl fun a hF => ?_
          refine q_x (v := (.int .i64 t_11)) hF hS (ex_assign rfl) rfl rfl fun a hF => ?_
          refine q_x (v := (.int .i64 e_12)) hF hS (ex_assign rfl) rfl rfl fun a hF => ?_
          refine q_end (n_sq ?_)
          refine q_region ?_
          refine q_x (v := s8.v) hF hS (ex_move rfl) rfl rfl fun a hF => ?_
          refine q_x (v := (.int .i64 t_11)) hF hS (ex_move rfl) rfl rfl fun a hF => ?_
          obtain ⟨e_14, he_14, hb5⟩ := bindS hb5
          obtain ⟨vs15, at15, d15⟩ := h10.at he_14 1 rfl
          obtain rfl : vs15 = [(.int .i64 e_14)] := d15
          refine q_x (v := (elP s8 (t_11.toNat * 1))) hF hS (ex_indexAddr Try.underlying23 sz3 rfl rfl (h10.idx he_14)) rfl rfl fun a hF => ?_
          refine q_x (v := (.int .i64 e_14)) hF hS (ex_loadE1 0 Try.underlying3 rfl rfl (at15.at 0 rfl) rfl rfl) rfl rfl fun a hF => ?_
          refine q_x (v := (.int .i64 e_12)) hF hS (ex_move rfl) rfl rfl fun a hF => ?_
          refine q_x (v := (.int .i64 (w64 (e_14 + e_12)))) hF hS (ex_ibin rfl rfl rfl) rfl rfl fun a hF => ?_
          obtain ⟨e_16, he_16, hb5⟩ := bindS hb5
          obtain ⟨vs17, at17, d17⟩ := h10.at he_16 1 rfl
          obtain rfl : vs17 = [(.int .i64 e_16)] := d17
          refine q_x (v := (elP s8 (t_11.toNat * 1))) hF hS (ex_indexAddr Try.underlying23 sz3 rfl rfl (h10.idx he_16)) rfl rfl fun a hF => ?_
          refine q_do rfl fun _ hK => wp_storeE (e' := (w64 (e_14 + e_12))) (us := [(.int .i64 (w64 (e_14 + e_12)))]) (vs := [(.int .i64 e_16)]) 0 hF hS h10 sz3 rfl rfl rfl rfl rfl rfl rfl he_16 at17 rfl rfl rfl fun w q18 hS h18 => hK _ _ ?_
          refine q_end (n_ib (n_sq ?_))
          refine q_region ?_
          refine q_x (v := (.int .i64 (w64 (t_11 + 1)))) hF hS (ex_ibin rfl rfl rfl) rfl rfl fun a hF => ?_
          refine q_x (v := (.int .i64 (w64 (t_11 + 1)))) hF hS (ex_move rfl) rfl rfl fun a hF => ?_
          refine q_end ?_
          obtain rfl := someI hb5
          exact ⟨rfl, q18, _, _, rfl, hF.sub ⟨rfl, rfl, rfl, rfl, trivial⟩, hS, h18⟩
      · rintro e a w ⟨q20, rfl, hF, hS, h20⟩
        refine x_ib (n_sq ?_)
        refine q_seq ?_
        refine q_region ?_
        refine q_x (v := s8.v) hF hS (ex_move rfl) rfl rfl fun a hF => ?_
        refine q_x (v := s8.v) hF hS (ex_assign rfl) rfl rfl fun a hF => ?_
        refine q_x (v := (.bool true)) hF hS (ex_assign rfl) rfl rfl fun a hF => ?_
        refine q_end (n_sq (q_ret ?_))
        obtain rfl := someI hr
        exact ret_of hF hS rfl (.tmp rfl (.tmp rfl .nil)) ⟨q20, s8, rfl, hS.sel [0] (by decide), h20⟩
    · have hr := cond_t hc4 hr
      refine q_cond_t hF rfl hc4 ?_
      refine q_seq ?_
      refine q_region ?_
      refine q_x (v := nilS.v) hF hS (ex_assign rfl) rfl rfl fun a hF => ?_
      refine q_x (v := (.bool false)) hF hS (ex_assign rfl) rfl rfl fun a hF => ?_
      refine q_end (n_sq (q_ret (r_sq ?_)))
      obtain rfl := someI hr
      exact ret_of hF hS rfl (.tmp rfl (.tmp rfl .nil)) ⟨[], nilS, rfl, hS.sel [0] (by decide), (OwnL.nil (α := Int) m 3)⟩

theorem c_spec_l1All (p_l : List Int) (p_lo : Int) (p_hi : Int) (r : Bool) (hr : spec_l1All p_l p_lo p_hi = some r) (w0 : World) (m : Mem) (hv : Vis m w0) (s1 : Sl) (h1 : Rd m s1 p_l) :
    Ret Try.prog 37 [s1.v, (.int .i64 p_lo), (.int .i64 p_hi)] w0 (fun v _ => v = (.bool r)) := by
  unfold spec_l1All at hr
  refine ret_start Try.func37 rfl 21 rfl rfl m hv fun a hF hS => ?_
  refine q_seq ?_
  refine q_region ?_
  refine q_x (v := (.bool false)) hF hS (ex_assign rfl) rfl rfl fun a hF => ?_
  refine q_end (n_sq ?_)
  refine q_seq ?_
  refine q_seq ?_
  refine q_region ?_
  refine q_x (v := s1.v) hF hS (ex_move rfl) rfl rfl fun a hF => ?_
  refine q_x (v := (.int .i64 (goLen p_l))) hF hS (ex_len Try.underlying23 rfl h1.len) rfl rfl fun a hF => ?_
  refine q_x (v := (.int .i64 0)) hF hS (ex_move rfl) rfl rfl fun a hF => ?_
  refine q_end (n_sq ?_)
  refine q_block ?_
  obtain ⟨o1, hl1, hr⟩ := bindS hr
  refine q_loop (fun (t_2 : Int) a w => Fr a 21 [(1, (.int .i64 p_lo)), (2, (.int .i64 p_hi)), (9, s1.v), (10, (.int .i64 (goLen p_l))), (11, (.int .i64 t_2))] ∧ St [] w0 w m []) (fun (o : (Unit) ⊕ (Bool)) e a w => o = .inl () ∧ e = .exit 0 ∧ Fr a 21 [] ∧ St [] w0 w m []) hl1 ⟨hF.sub ⟨rfl, rfl, rfl, rfl, rfl, trivial⟩, hS⟩ ?_ ?_
  · clear hF hS
    rintro t_2 a w st ⟨hF, hS⟩ hb1
    unfold spec_l1All_l1 at hb1
    refine q_seq ?_
    refine q_region ?_
    refine q_x (v := (.bool (decide (t_2 < (goLen p_l))))) hF hS (ex_ibin rfl rfl rfl) rfl rfl fun a hF => ?_
    refine q_end (n_sq ?_)
    refine q_seq ?_
    rcases bcase (decide (t_2 < (goLen p_l))) with hc2 | hc2
    · have hb1 := cond_f hc2 hb1
      refine q_cond_f hF rfl hc2 ?_
      refine q_exit (x_sq ?_)
      obtain rfl := someI hb1
      exact ⟨nofun, .inl ⟨rfl, rfl, hF.sub trivial, hS⟩⟩
    · have hb1 := cond_t hc2 hb1
      refine q_cond_t hF rfl hc2 ?_
      refine q_skipc (n_sq ?_)
      refine q_seq ?_
      refine q_block ?_
      refine q_seq ?_
      refine q_region ?_
      obtain ⟨e_3, he_3, hb1⟩ := bindS hb1
      obtain ⟨vs4, at4, d4⟩ := h1.at he_3 1 rfl
      obtain rfl : vs4 = [(.int .i64 e_3)] := d4
      refine q_x (v := (elP s1 (t_2.toNat * 1))) hF hS (ex_indexAddr Try.underlying23 sz3 rfl rfl (h1.idx he_3)) rfl rfl fun a hF => ?_
      refine q_x (v := (.int .i64 e_3)) hF hS (ex_loadE1 0 Try.underlying3 rfl rfl ((at4).at) rfl rfl) rfl rfl fun a hF => ?_
      refine q_x (v := (.int .i64 e_3)) hF hS (ex_assign rfl) rfl rfl fun a hF => ?_
      refine q_end (n_sq ?_)
      refine q_seq ?_
      refine q_region ?_
      refine q_x (v := (.int .i64 e_3)) hF hS (ex_move rfl) rfl rfl fun a hF => ?_
      refine q_x (v := (.int .i64 p_lo)) hF hS (ex_move rfl) rfl rfl fun a hF => ?_
      refine q_x (v := (.int .i64 p_hi)) hF hS (ex_move rfl) rfl rfl fun a hF => ?_
      obtain ⟨t_5, ht_5, hb1⟩ := bindS hb1
      refine q_call (vs := [(.int .i64 e_3), (.int .i64 p_lo), (.int .i64 p_hi)]) hF hS Try.func33 (by kernel_rfl) rfl rfl rfl (c_spec_l1In e_3 p_lo p_hi t_5 ht_5 _ m hS.vis) ?_
      rintro a w _ rfl hF hS
      refine q_x (v := (.bool (!t_5))) hF hS (ex_not rfl) rfl rfl fun a hF => ?_
      refine q_end (n_sq ?_)
      rcases bcase (!t_5) with hc3 | hc3
      · have hb1 := cond_f hc3 hb1
        refine q_cond_f hF rfl hc3 ?_
        refine q_skipc (n_ib (n_sq ?_))
        refine q_region ?_
        refine q_x (v := (.int .i64 (w64 (t_2 + 1)))) hF hS (ex_ibin rfl rfl rfl) rfl rfl fun a hF => ?_
        refine q_x (v := (.int .i64 (w64 (t_2 + 1)))) hF hS (ex_move rfl) rfl rfl fun a hF => ?_
        refine q_end ?_
        obtain rfl := someI hb1
        exact ⟨rfl, hF.sub ⟨rfl, rfl, rfl, rfl, rfl, trivial⟩, hS⟩
      · have hb1 := cond_t hc3 hb1
        refine q_cond_t hF rfl hc3 ?_
        refine q_seq ?_
        refine q_region ?_
        refine q_x (v := (.bool false)) hF hS (ex_assign rfl) rfl rfl fun a hF => ?_
        refine q_end (n_sq (q_ret (r_ib (r_sq ?_))))
        obtain rfl := someI hb1
        refine ⟨nofun, .inr fun ho => ?_⟩
        subst ho
        refine r_ib (r_sq ?_)
        obtain rfl := someI hr
        exact ret_of hF hS rfl (.tmp rfl .nil) rfl
  · rintro e a w ⟨rfl, rfl, hF, hS⟩
    refine x_ib (n_sq ?_)
    refine q_seq ?_
    refine q_region ?_
    refine q_x (v := (.bool true)) hF hS (ex_assign rfl) rfl rfl fun a hF => ?_
    refine q_end (n_sq (q_ret ?_))
    obtain rfl := someI hr
    exact ret_of hF hS rfl (.tmp rfl .nil) rfl

theorem c_spec_AddCells (p_a : List Int) (p_b : List Int) (r : (List Int) × Bool) (hr : spec_AddCells p_a p_b = some r) (w0 : World) (m : Mem) (hv : Vis m w0) (s1 : Sl) (h1 : Rd m s1 p_a) (s2 : Sl) (h2 : Rd m s2 p_b) :
    Ret Try.prog 10 [s1.v, s2.v] w0 (fun v w => ∃ (q0' : Piece) (s0' : Sl), v = (.tuple #[s0'.v, (.bool r.2)]) ∧ St [] w0 w m [q0'] ∧ OwnL m 3 q0' s0' r.1) := by
  unfold spec_AddCells at hr
  refine ret_start Try.func10 rfl 47 rfl rfl m hv fun a hF hS => ?_
  refine q_seq ?_
  refine q_region ?_
  refine q_x (v := nilS.v) hF hS (ex_assign rfl) rfl rfl fun a hF => ?_
  refine q_x (v := (.bool false)) hF hS (ex_assign rfl) rfl rfl fun a hF => ?_
  refine q_end (n_sq ?_)
  refine q_seq ?_
  refine q_seq ?_
  obtain ⟨t_5, hj1, hr⟩ := bindS hr
  refine q_join (fun a w => Fr a 47 [(0, s1.v), (1, s2.v), (28, (.bool t_5))] ∧ St [] w0 w m []) ?_ ?_
  · refine q_region ?_
    refine q_x (v := s1.v) hF hS (ex_move rfl) rfl rfl fun a hF => ?_
    refine q_x (v := (.int .i64 (goLen p_a))) hF hS (ex_len Try.underlying23 rfl h1.len) rfl rfl fun a hF => ?_
    refine q_x (v := s2.v) hF hS (ex_move rfl) rfl rfl fun a hF => ?_
    refine q_x (v := (.int .i64 (goLen p_b))) hF hS (ex_len Try.underlying23 rfl h2.len) rfl rfl fun a hF => ?_
    refine q_x (v := (.bool ((goLen p_a) != (goLen p_b)))) hF hS (ex_ibin rfl rfl rfl) rfl rfl fun a hF => ?_
    refine q_x (v := (.bool ((goLen p_a) != (goLen p_b)))) hF hS (ex_move rfl) rfl rfl fun a hF => ?_
    rcases bcase ((goLen p_a) != (goLen p_b)) with hc2 | hc2
    · have hj1 := cond_f hc2 hj1
      refine q_xg (v := s1.v) hF hS (ex_move rfl) (wanted_t hF rfl rfl rfl hc2) rfl fun a hF => ?_
      refine q_xg (v := (.int .i64 (goLen p_a))) hF hS (ex_len Try.underlying23 rfl h1.len) (wanted_t hF rfl rfl rfl hc2) rfl fun a hF => ?_
      refine q_xg (v := (.bool (decide (600 < (goLen p_a))))) hF hS (ex_ibin rfl rfl rfl) (wanted_t hF rfl rfl rfl hc2) rfl fun a hF => ?_
      refine q_x (v := (.bool (decide (600 < (goLen p_a))))) hF hS (ex_pick_f rfl rfl hc2) rfl rfl fun a hF => ?_
      refine q_x (v := (.bool (decide (600 < (goLen p_a))))) hF hS (ex_move rfl) rfl rfl fun a hF => ?_
      rcases bcase (decide (600 < (goLen p_a))) with hc3 | hc3
      · have hj1 := cond_f hc3 hj1
        refine q_xg (v := s1.v) hF hS (ex_move rfl) (wanted_t hF rfl rfl rfl hc3) rfl fun a hF => ?_
        obtain ⟨t_3, ht_3, hj1⟩ := bindS hj1
        refine q_callg (vs := [s1.v, (.int .i64 (-1000000)), (.int .i64 1000000)]) hF hS (wanted_t hF rfl rfl rfl hc3) Try.func37 (by kernel_rfl) rfl rfl rfl (c_spec_l1All p_a (-1000000) 1000000 t_3 ht_3 _ m hS.vis s1 h1) ?_
        rintro a w _ rfl hF hS
        refine q_xg (v := (.bool (!t_3))) hF hS (ex_not rfl) (wanted_t hF rfl rfl rfl hc3) rfl fun a hF => ?_
        refine q_x (v := (.bool (!t_3))) hF hS (ex_pick_f rfl rfl hc3) rfl rfl fun a hF => ?_
        refine q_x (v := (.bool (!t_3))) hF hS (ex_move rfl) rfl rfl fun a hF => ?_
        rcases bcase (!t_3) with hc4 | hc4
        · have hj1 := cond_f hc4 hj1
          refine q_xg (v := s2.v) hF hS (ex_move rfl) (wanted_t hF rfl rfl rfl hc4) rfl fun a hF => ?_
          obtain ⟨t_4, ht_4, hj1⟩ := bindS hj1
          refine q_callg (vs := [s2.v, (.int .i64 (-1000000)), (.int .i64 1000000)]) hF hS (wanted_t hF rfl rfl rfl hc4) Try.func37 (by kernel_rfl) rfl rfl rfl (c_spec_l1All p_b (-1000000) 1000000 t_4 ht_4 _ m hS.vis s2 h2) ?_
          rintro a w _ rfl hF hS
          refine q_xg (v := (.bool (!t_4))) hF hS (ex_not rfl) (wanted_t hF rfl rfl rfl hc4) rfl fun a hF => ?_
          refine q_x (v := (.bool (!t_4))) hF hS (ex_pick_f rfl rfl hc4) rfl rfl fun a hF => ?_
          refine q_end (n_jn ?_)
          obtain rfl := someI hj1
          exact ⟨hF.sub ⟨rfl, rfl, rfl, trivial⟩, hS⟩
        · have hj1 := cond_t hc4 hj1
          refine q_skip hF (wanted_f hF rfl rfl rfl hc4 rfl) rfl fun a hF => ?_
          refine q_skip hF (wanted_f hF rfl rfl rfl hc4 rfl) rfl fun a hF => ?_
          refine q_skip hF (wanted_f hF rfl rfl rfl hc4 rfl) rfl fun a hF => ?_
          refine q_x (v := (.bool true)) hF hS (ex_pick_t rfl rfl hc4) rfl rfl fun a hF => ?_
          refine q_end (n_jn ?_)
          obtain rfl := someI hj1
          exact ⟨hF.sub ⟨rfl, rfl, rfl, trivial⟩, hS⟩
      · have hj1 := cond_t hc3 hj1
        refine q_skip hF (wanted_f hF rfl rfl rfl hc3 rfl) rfl fun a hF => ?_
        refine q_skip hF (wanted_f hF rfl rfl rfl hc3 rfl) rfl fun a hF => ?_
        refine q_skip hF (wanted_f hF rfl rfl rfl hc3 rfl) rfl fun a hF => ?_
        refine q_x (v := (.bool true)) hF hS (ex_pick_t rfl rfl hc3) rfl rfl fun a hF => ?_
        refine q_x (v := (.bool true)) hF hS (ex_move rfl) rfl rfl fun a hF => ?_
        refine q_skip hF (wanted_f hF rfl rfl rfl rfl rfl) rfl fun a hF => ?_
        refine q_skip hF (wanted_f hF rfl rfl rfl rfl rfl) rfl fun a hF => ?_
        refine q_skip hF (wanted_f hF rfl rfl rfl rfl rfl) rfl fun a hF => ?_
        refine q_x (v := (.bool true)) hF hS (ex_pick_t rfl rfl rfl) rfl rfl fun a hF => ?_
        refine q_end (n_jn ?_)
        obtain rfl := someI hj1
        exact ⟨hF.sub ⟨rfl, rfl, rfl, trivial⟩, hS⟩
    · have hj1 := cond_t hc2 hj1
      refine q_skip hF (wanted_f hF rfl rfl rfl hc2 rfl) rfl fun a hF => ?_
      refine q_skip hF (wanted_f hF rfl rfl rfl hc2 rfl) rfl fun a hF => ?_
      refine q_skip hF (wanted_f hF rfl rfl rfl hc2 rfl) rfl fun a hF => ?_
      refine q_x (v := (.bool true)) hF hS (ex_pick_t rfl rfl hc2) rfl rfl fun a hF => ?_
      refine q_x (v := (.bool true)) hF hS (ex_move rfl) rfl rfl fun a hF => ?_
      refine q_skip hF (wanted_f hF rfl rfl rfl rfl rfl) rfl fun a hF => ?_
      refine q_skip hF (wanted_f hF rfl rfl rfl rfl rfl) rfl fun a hF => ?_
      refine q_skip hF (wanted_f hF rfl rfl rfl rfl rfl) rfl fun a hF => ?_
      refine q_x (v := (.bool true)) hF hS (ex_pick_t rfl rfl rfl) rfl rfl fun a hF => ?_
      refine q_x (v := (.bool true)) hF hS (ex_move rfl) rfl rfl fun a hF => ?_
      refine q_skip hF (wanted_f hF rfl rfl rfl rfl rfl) rfl fun a hF => ?_
      refine q_skip hF (wanted_f hF rfl rfl rfl rfl rfl) rfl fun a hF => ?_
      refine q_skip hF (wanted_f hF rfl rfl rfl rfl rfl) rfl fun a hF => ?_
      refine q_x (v := (.bool true)) hF hS (ex_pick_t rfl rfl rfl) rfl rfl fun a hF => ?_
      refine q_end (n_jn ?_)
      obtain rfl := someI hj1
      exact ⟨hF.sub ⟨rfl, rfl, rfl, trivial⟩, hS⟩
  · rintro a w ⟨hF, hS⟩
    refine n_sq ?_
    rcases bcase (t_5) with hc5 | hc5
    · have hr := cond_f hc5 hr
      refine q_cond_f hF rfl hc5 ?_
      refine q_skipc (n_sq ?_)
      refine q_seq ?_
      refine q_region ?_
      refine q_x (v := s1.v) hF hS (ex_move rfl) rfl rfl fun a hF => ?_
      obtain ⟨t_6, ht_6, hr⟩ := bindS hr
      refine q_call (vs := [s1.v]) hF hS Try.func38 (by kernel_rfl) rfl rfl rfl (c_spec_l1Own p_a t_6 ht_6 _ m hS.vis s1 h1) ?_
      rintro a w _ ⟨q8, s8, rfl, hR7, h8⟩ hF hS2
      have hS : St _ _ _ _ [q8] := hS.joinF hR7
      refine q_x (v := s8.v) hF hS (ex_assign rfl) rfl rfl fun a hF => ?_
      refine q_end (n_sq ?_)
      refine q_seq ?_
      refine q_seq ?_
      refine q_region ?_
      refine q_x (v := s2.v) hF hS (ex_move rfl) rfl rfl fun a hF => ?_
      refine q_x (v := (.int .i64 (goLen p_b))) hF hS (ex_len Try.underlying23 rfl h2.len) rfl rfl fun a hF => ?_
      refine q_x (v := (.int .i64 0)) hF hS (ex_move rfl) rfl rfl fun a hF => ?_
      refine q_end (n_sq ?_)
      refine q_block ?_
      obtain ⟨out_19, hl6, hr⟩ := bindS hr
      refine q_loop (fun (s : (List Int) × Int) a w => ∃ (q10 : Piece), ∃ out_9, ∃ t_11, s = (out_9, t_11) ∧ Fr a 47 [(6, s8.v), (31, s2.v), (32, (.int .i64 (goLen p_b))), (33, (.int .i64 t_11))] ∧ St [] w0 w m [q10] ∧ OwnL m 3 q10 s8 out_9) (fun (out_19 : (List Int)) e a w => ∃ (q20 : Piece), e = .exit 0 ∧ Fr a 47 [(6, s8.v)] ∧ St [] w0 w m [q20] ∧ OwnL m 3 q20 s8 out_19) hl6 ⟨q8, _, _, rfl, hF.sub ⟨rfl, rfl, rfl, rfl, trivial⟩, hS, h8⟩ ?_ ?_
      · clear hF hS
        rintro s a w st ⟨q10, out_9, t_11, rfl, hF, hS, h10⟩ hb6
        unfold spec_AddCells_l1 at hb6
        refine q_seq ?_
        refine q_region ?_
        refine q_x (v := (.bool (decide (t_11 < (goLen p_b))))) hF hS (ex_ibin rfl rfl rfl) rfl rfl fun a hF => ?_
        refine q_end (n_sq ?_)
        refine q_seq ?_
        rcases bcase (decide (t_11 < (goLen p_b))) with hc7 | hc7
        · have hb6 := cond_f hc7 hb6
          refine q_cond_f hF rfl hc7 ?_
          refine q_exit (x_sq ?_)
          obtain rfl := someI hb6
          exact ⟨nofun, .inl ⟨q10, rfl, hF.sub ⟨rfl, trivial⟩, hS, h10⟩⟩
        · have hb6 := cond_t hc7 hb6
          refine q_cond_t hF rfl hc7 ?_
          refine q_skipc (n_sq ?_)
          refine q_seq ?_
          refine q_block ?_
          refine q_seq ?_
          refine q_region ?_
          refine q_x (v := (.int .i64 t_11)) hF hS (ex_move rfl) rfl rfl fun a hF => ?_
          obtain ⟨e_12, he_12, hb6⟩ := bindS hb6
          obtain ⟨vs13, at13, d13⟩ := h2.at he_12 1 rfl
          obtain rfl : vs13 = [(.int .i64 e_12)] := d13
          refine q_x (v := (elP s2 (t_11.toNat * 1))) hF hS (ex_indexAddr Try.underlying23 sz3 rfl rfl (h2.idx he_12)) rfl rfl fun a hF => ?_
          refine q_x (v := (.int .i64 e_12)) hF hS (ex_loadE1 0 Try.underlying3 rfl rfl ((at13).at) rfl rfl) rfl rfl fun a hF => ?_
          refine q_x (v := (.int .i64 t_11)) hF hS (ex_assign rfl) rfl rfl fun a hF => ?_
          refine q_x (v := (.int .i64 e_12)) hF hS (ex_assign rfl) rfl rfl fun a hF => ?_
          refine q_end (n_sq ?_)
          refine q_region ?_
          refine q_x (v := s8.v) hF hS (ex_move rfl) rfl rfl fun a hF => ?_
          refine q_x (v := (.int .i64 t_11)) hF hS (ex_move rfl) rfl rfl fun a hF => ?_
          obtain ⟨e_14, he_14, hb6⟩ := bindS hb6
          obtain ⟨vs15, at15, d15⟩ := h10.at he_14 1 rfl
          obtain rfl : vs15 = [(.int .i64 e_14)] := d15
          refine q_x (v := (elP s8 (t_11.toNat * 1))) hF hS (ex_indexAddr Try.underlying23 sz3 rfl rfl (h10.idx he_14)) rfl rfl fun a hF => ?_
          refine q_x (v := (.int .i64 e_14)) hF hS (ex_loadE1 0 Try.underlying3 rfl rfl (at15.at 0 rfl) rfl rfl) rfl rfl fun a hF => ?_
          refine q_x (v := (.int .i64 e_12)) hF hS (ex_move rfl) rfl rfl fun a hF => ?_
          refine q_x (v := (.int .i64 (w64 (e_14 + e_12)))) hF hS (ex_ibin rfl rfl rfl) rfl rfl fun a hF => ?_
          obtain ⟨e_16, he_16, hb6⟩ := bindS hb6
          obtain ⟨vs17, at17, d17⟩ := h10.at he_16 1 rfl
          obtain rfl : vs17 = [(.int .i64 e_16)] := d17
          refine q_x (v := (elP s8 (t_11.toNat * 1))) hF hS (ex_indexAddr Try.underlying23 sz3 rfl rfl (h10.idx he_16)) rfl rfl fun a hF => ?_
          refine q_do rfl fun _ hK => wp_storeE (e' := (w64 (e_14 + e_12))) (us := [(.int .i64 (w64 (e_14 + e_12)))]) (vs := [(.int .i64 e_16)]) 0 hF hS h10 sz3 rfl rfl rfl rfl rfl rfl rfl he_16 at17 rfl rfl rfl fun w q18 hS h18 => hK _ _ ?_
          refine q_end (n_ib (n_sq ?_))
          refine q_region ?_
          refine q_x (v := (.int .i64 (w64 (t_11 + 1)))) hF hS (ex_ibin rfl rfl rfl) rfl rfl fun a hF => ?_
          refine q_x (v := (.int .i64 (w64 (t_11 + 1)))) hF hS (ex_move rfl) rfl rfl fun a hF => ?_
          refine q_end ?_
          obtain rfl := someI hb6
          exact ⟨rfl, q18, _, _, rfl, hF.sub ⟨rfl, rfl, rfl, rfl, trivial⟩, hS, h18⟩
      · rintro e a w ⟨q20, rfl, hF, hS, h20⟩
        refine x_ib (n_sq ?_)
        refine q_seq ?_
        refine q_region ?_
        refine q_x (v := s8.v) hF hS (ex_move rfl) rfl rfl fun a hF => ?_
        refine q_x (v := s8.v) hF hS (ex_assign rfl) rfl rfl fun a hF => ?_
        refine q_x (v := (.bool true)) hF hS (ex_assign rfl) rfl rfl fun a hF => ?_
        refine q_end (n_sq (q_ret ?_))
        obtain rfl := someI hr
        exact ret_of hF hS rfl (.tmp rfl (.tmp rfl .nil)) ⟨q20, s8, rfl, hS.sel [0] (by decide), h20⟩
    · have hr := cond_t hc5 hr
      refine q_cond_t hF rfl hc5 ?_
      refine q_seq ?_
      refine q_region ?_
      refine q_x (v := nilS.v) hF hS (ex_assign rfl) rfl rfl fun a hF => ?_
      refine q_x (v := (.bool false)) hF hS (ex_assign rfl) rfl rfl fun a hF => ?_
      refine q_end (n_sq (q_ret (r_sq ?_)))
      obtain rfl := someI hr
      exact ret_of hF hS rfl (.tmp rfl (.tmp rfl .nil)) ⟨[], nilS, rfl, hS.sel [0] (by decide), (OwnL.nil (α := Int) m 3)⟩

theorem c_laws_qInts (p_a : List Int) (p_b : List Int) (r : Bool) (hr : laws_qInts p_a p_b = some r) (w0 : World) (m : Mem) (hv : Vis m w0) (s1 : Sl) (h1 : Rd m s1 p_a) (s2 : Sl) (h2 : Rd m s2 p_b) :
    Ret Try.prog 11 [s1.v, s2.v] w0 (fun v _ => v = (.bool r)) := by
  unfold laws_qInts at hr
  refine ret_start Try.func11 rfl 26 rfl rfl m hv fun a hF hS => ?_
  refine q_seq ?_
  refine q_region ?_
  refine q_x (v := (.bool false)) hF hS (ex_assign rfl) rfl rfl fun a hF => ?_
  refine q_end (n_sq ?_)
  refine q_seq ?_
  refine q_seq ?_
  refine q_region ?_
  refine q_x (v := s1.v) hF hS (ex_move rfl) rfl rfl fun a hF => ?_
  refine q_x (v := (.int .i64 (goLen p_a))) hF hS (ex_len Try.underlying23 rfl h1.len) rfl rfl fun a hF => ?_
  refine q_x (v := s2.v) hF hS (ex_move rfl) rfl rfl fun a hF => ?_
  refine q_x (v := (.int .i64 (goLen p_b))) hF hS (ex_len Try.underlying23 rfl h2.len) rfl rfl fun a hF => ?_
  refine q_x (v := (.bool ((goLen p_a) != (goLen p_b)))) hF hS (ex_ibin rfl rfl rfl) rfl rfl fun a hF => ?_
  refine q_end (n_sq ?_)
  rcases bcase ((goLen p_a) != (goLen p_b)) with hc1 | hc1
  · have hr := cond_f hc1 hr
    refine q_cond_f hF rfl hc1 ?_
    refine q_skipc (n_sq ?_)
    refine q_seq ?_
    refine q_seq ?_
    refine q_region ?_
    refine q_x (v := s1.v) hF hS (ex_move rfl) rfl rfl fun a hF => ?_
    refine q_x (v := (.int .i64 (goLen p_a))) hF hS (ex_len Try.underlying23 rfl h1.len) rfl rfl fun a hF => ?_
    refine q_x (v := (.int .i64 0)) hF hS (ex_move rfl) rfl rfl fun a hF => ?_
    refine q_end (n_sq ?_)
    refine q_block ?_
    obtain ⟨o2, hl2, hr⟩ := bindS hr
    refine q_loop (fun (t_3 : Int) a w => Fr a 26 [(0, s1.v), (1, s2.v), (12, (.int .i64 (goLen p_a))), (13, (.int .i64 t_3))] ∧ St [] w0 w m []) (fun (o : (Unit) ⊕ (Bool)) e a w => o = .inl () ∧ e = .exit 0 ∧ Fr a 26 [] ∧ St [] w0 w m []) hl2 ⟨hF.sub ⟨rfl, rfl, rfl, rfl, trivial⟩, hS⟩ ?_ ?_
    · clear hF hS
      rintro t_3 a w st ⟨hF, hS⟩ hb2
      unfold laws_qInts_l1 at hb2
      refine q_seq ?_
      refine q_region ?_
      refine q_x (v := (.bool (decide (t_3 < (goLen p_a))))) hF hS (ex_ibin rfl rfl rfl) rfl rfl fun a hF => ?_
      refine q_end (n_sq ?_)
      refine q_seq ?_
      rcases bcase (decide (t_3 < (goLen p_a))) with hc3 | hc3
      · have hb2 := cond_f hc3 hb2
        refine q_cond_f hF rfl hc3 ?_
        refine q_exit (x_sq ?_)
        obtain rfl := someI hb2
        exact ⟨nofun, .inl ⟨rfl, rfl, hF.sub trivial, hS⟩⟩
      · have hb2 := cond_t hc3 hb2
        refine q_cond_t hF rfl hc3 ?_
        refine q_skipc (n_sq ?_)
        refine q_seq ?_
        refine q_block ?_
        refine q_seq ?_
        refine q_region ?_
        refine q_x (v := (.int .i64 t_3)) hF hS (ex_move rfl) rfl rfl fun a hF => ?_
        refine q_x (v := (.int .i64 t_3)) hF hS (ex_assign rfl) rfl rfl fun a hF => ?_
        refine q_end (n_sq ?_)
        refine q_seq ?_
        refine e_region ⟨[], []⟩ mixed fun w' hw' => ?_
        have hS := hS.below hw'
        refine e_p (v := s1.v) 0 hF rfl (ex_move rfl) rfl rfl (by kernel_rfl) (by kernel_rfl) (by kernel_rfl) fun a hF => ?_
        refine e_p (v := (.int .i64 t_3)) 1 hF rfl (ex_move rfl) rfl rfl (by kernel_rfl) (by kernel_rfl) (by kernel_rfl) fun a hF => ?_
        obtain ⟨e_4, he_4, hb2⟩ := bindS hb2
        obtain ⟨vs5, at5, d5⟩ := h1.at he_4 1 rfl
        obtain rfl : vs5 = [(.int .i64 e_4)] := d5
        refine e_p (v := (elP s1 (t_3.toNat * 1))) 2 hF rfl (ex_indexAddr Try.underlying23 sz3 rfl rfl (h1.idx he_4)) rfl rfl (by kernel_rfl) (by kernel_rfl) (by kernel_rfl) fun a hF => ?_
        refine e_x (v := (.int .i64 e_4)) 3 hF hS rfl (ex_loadE1 0 Try.underlying3 rfl rfl ((at5).at) rfl rfl) rfl rfl (by kernel_rfl) (by kernel_rfl) (by kernel_rfl) (by kernel_rfl) fun a hF => ?_
        refine e_p (v := s2.v) 4 hF rfl (ex_move rfl) rfl rfl (by kernel_rfl) (by kernel_rfl) (by kernel_rfl) fun a hF => ?_
        refine e_p (v := (.int .i64 t_3)) 5 hF rfl (ex_move rfl) rfl rfl (by kernel_rfl) (by kernel_rfl) (by kernel_rfl) fun a hF => ?_
        obtain ⟨e_6, he_6, hb2⟩ := bindS hb2
        obtain ⟨vs7, at7, d7⟩ := h2.at he_6 1 rfl
        obtain rfl : vs7 = [(.int .i64 e_6)] := d7
        refine e_p (v := (elP s2 (t_3.toNat * 1))) 6 hF rfl (ex_indexAddr Try.underlying23 sz3 rfl rfl (h2.idx he_6)) rfl rfl (by kernel_rfl) (by kernel_rfl) (by kernel_rfl) fun a hF => ?_
        refine e_x (v := (.int .i64 e_6)) 7 hF hS rfl (ex_loadE1 0 Try.underlying3 rfl rfl ((at7).at) rfl rfl) rfl rfl (by kernel_rfl) (by kernel_rfl) (by kernel_rfl) (by kernel_rfl) fun a hF => ?_
        refine e_p (v := (.bool (e_4 != e_6))) 8 hF rfl (ex_ibin rfl rfl rfl) rfl rfl (by kernel_rfl) (by kernel_rfl) (by kernel_rfl) fun a hF => ?_
        refine e_end (by kernel_rfl) (n_sq ?_) _
        rcases bcase (e_4 != e_6) with hc4 | hc4
        · have hb2 := cond_f hc4 hb2
          refine q_cond_f hF rfl hc4 ?_
          refine q_skipc (n_ib (n_sq ?_))
          refine q_region ?_
          refine q_x (v := (.int .i64 (w64 (t_3 + 1)))) hF hS (ex_ibin rfl rfl rfl) rfl rfl fun a hF => ?_
          refine q_x (v := (.int .i64 (w64 (t_3 + 1)))) hF hS (ex_move rfl) rfl rfl fun a hF => ?_
          refine q_end ?_
          obtain rfl := someI hb2
          exact ⟨rfl, hF.sub ⟨rfl, rfl, rfl, rfl, trivial⟩, hS⟩
        · have hb2 := cond_t hc4 hb2
          refine q_cond_t hF rfl hc4 ?_
          refine q_seq ?_
          refine q_region ?_
          refine q_x (v := (.bool false)) hF hS (ex_assign rfl) rfl rfl fun a hF => ?_
          refine q_end (n_sq (q_ret (r_ib (r_sq ?_))))
          obtain rfl := someI hb2
          refine ⟨nofun, .inr fun ho => ?_⟩
          subst ho
          refine r_ib (r_sq ?_)
          obtain rfl := someI hr
          exact ret_of hF hS rfl (.tmp rfl .nil) rfl
    · rintro e a w ⟨rfl, rfl, hF, hS⟩
      refine x_ib (n_sq ?_)
      refine q_seq ?_
      refine q_region ?_
      refine q_x (v := (.bool true)) hF hS (ex_assign rfl) rfl rfl fun a hF => ?_
      refine q_end (n_sq (q_ret ?_))
      obtain rfl := someI hr
      exact ret_of hF hS rfl (.tmp rfl .nil) rfl
  · have hr := cond_t hc1 hr
    refine q_cond_t hF rfl hc1 ?_
    refine q_seq ?_
    refine q_region ?_
    refine q_x (v := (.bool false)) hF hS (ex_assign rfl) rfl rfl fun a hF => ?_
    refine q_end (n_sq (q_ret (r_sq ?_)))
    obtain rfl := someI hr
    exact ret_of hF hS rfl (.tmp rfl .nil) rfl

theorem c_impl_ContributionOf (p_g : impl_Geo) (p_s : List impl_Variable) (p_t : impl_Table) (p_r : impl_Record) (r : Int × Int × Bool) (hr : impl_ContributionOf p_g p_s p_t p_r = some r) (w0 : World) (m : Mem) (hv : Vis m w0) (s1 : Sl) (h1 : Rd m s1 p_g.Parents) (s2 : Sl) (h2 : Rd m s2 p_s) (s3 : Sl) (h3 : Rd m s3 p_t.Vars) (s4 : Sl) (h4 : Rd m s4 p_t.Where) (s5 : Sl) (h5 : Rd m s5 p_r.Values) :
    Ret Try.prog 12 [(.agg #[s1.v]), s2.v, (.agg #[(.int .i64 p_t.Level), s3.v, s4.v, (.int .i64 p_t.Sum)]), (.agg #[(.int .i64 p_r.Area), (.int .i64 p_r.House), s5.v])] w0 (fun v _ => v = (.tuple #[(.int .i64 r.1), (.int .i64 r.2.1), (.bool r.2.2)])) := by
  unfold impl_ContributionOf at hr
  refine ret_start Try.func12 rfl 48 rfl rfl m hv fun a hF hS => ?_
  refine q_seq ?_
  refine q_region ?_
  refine q_box (cs := [s1.v]) hF hS rfl rfl rfl fun a w b6 hF hS => ?_
  refine q_box (cs := [(.int .i64 p_t.Level), s3.v, s4.v, (.int .i64 p_t.Sum)]) hF hS rfl rfl rfl fun a w b7 hF hS => ?_
  refine q_box (cs := [(.int .i64 p_r.Area), (.int .i64 p_r.House), s5.v]) hF hS rfl rfl rfl fun a w b8 hF hS => ?_
  refine q_x (v := (.int .i64 0)) hF hS (ex_assign rfl) rfl rfl fun a hF => ?_
  refine q_x (v := (.int .i64 0)) hF hS (ex_assign rfl) rfl rfl fun a hF => ?_
  refine q_x (v := (.bool false)) hF hS (ex_assign rfl) rfl rfl fun a hF => ?_
  refine q_end (n_sq ?_)
  refine q_seq ?_
  refine q_seq ?_
  obtain ⟨t_13, hj1, hr⟩ := bindS hr
  refine q_join (fun a w => Fr a 48 [(1, s2.v), (4, (.pointer (some ⟨b6, 0, none⟩))), (6, (.pointer (some ⟨b7, 0, none⟩))), (7, (.pointer (some ⟨b8, 0, none⟩))), (37, (.bool t_13))] ∧ St [] w0 w m [[⟨b8, [(.int .i64 p_r.Area), (.int .i64 p_r.House), s5.v], 41⟩], [⟨b7, [(.int .i64 p_t.Level), s3.v, s4.v, (.int .i64 p_t.Sum)], 28⟩], [⟨b6, [s1.v], 25⟩]]) ?_ ?_
  · refine q_region ?_
    refine q_x (v := (.agg #[s1.v])) hF hS (ex_loadA (vs := [s1.v]) 2 0 Try.underlying25 rfl sz25 rfl rfl rfl rfl) rfl rfl fun a hF => ?_
    refine q_x (v := s2.v) hF hS (ex_move rfl) rfl rfl fun a hF => ?_
    refine q_x (v := (.agg #[(.int .i64 p_t.Level), s3.v, s4.v, (.int .i64 p_t.Sum)])) hF hS (ex_loadA (vs := [(.int .i64 p_t.Level), s3.v, s4.v, (.int .i64 p_t.Sum)]) 1 0 Try.underlying28 rfl sz28 rfl rfl rfl rfl) rfl rfl fun a hF => ?_
    obtain ⟨t_9, ht_9, hj1⟩ := bindS hj1
    refine q_call (vs := [(.agg #[s1.v]), s2.v, (.agg #[(.int .i64 p_t.Level), s3.v, s4.v, (.int .i64 p_t.Sum)])]) hF hS Try.func29 (by kernel_rfl) rfl rfl rfl (c_impl_areTabled p_g p_s p_t t_9 ht_9 _ m hS.vis s1 h1 s2 h2 s3 h3 s4 h4) ?_
    rintro a w _ rfl hF hS
    refine q_x (v := (.bool (!t_9))) hF hS (ex_not rfl) rfl rfl fun a hF => ?_
    refine q_x (v := (.bool (!t_9))) hF hS (ex_move rfl) rfl rfl fun a hF => ?_
    rcases bcase (!t_9) with hc2 | hc2
    · have hj1 := cond_f hc2 hj1
      refine q_xg (v := s2.v) hF hS (ex_move rfl) (wanted_t hF rfl rfl rfl hc2) rfl fun a hF => ?_
      refine q_xg (v := (.agg #[(.int .i64 p_r.Area), (.int .i64 p_r.House), s5.v])) hF hS (ex_loadA (vs := [(.int .i64 p_r.Area), (.int .i64 p_r.House), s5.v]) 0 0 Try.underlying41 rfl sz41 rfl rfl rfl rfl) (wanted_t hF rfl rfl rfl hc2) rfl fun a hF => ?_
      obtain ⟨t_10, ht_10, hj1⟩ := bindS hj1
      refine q_callg (vs := [s2.v, (.agg #[(.int .i64 p_r.Area), (.int .i64 p_r.House), s5.v])]) hF hS (wanted_t hF rfl rfl rfl hc2) Try.func39 (by kernel_rfl) rfl rfl rfl (c_impl_isRecord p_s p_r t_10 ht_10 _ m hS.vis s2 h2 s5 h5) ?_
      rintro a w _ rfl hF hS
      refine q_xg (v := (.bool (!t_10))) hF hS (ex_not rfl) (wanted_t hF rfl rfl rfl hc2) rfl fun a hF => ?_
      refine q_x (v := (.bool (!t_10))) hF hS (ex_pick_f rfl rfl hc2) rfl rfl fun a hF => ?_
      refine q_x (v := (.bool (!t_10))) hF hS (ex_move rfl) rfl rfl fun a hF => ?_
      rcases bcase (!t_10) with hc3 | hc3
      · have hj1 := cond_f hc3 hj1
        refine q_xg (v := (.agg #[s1.v])) hF hS (ex_loadA (vs := [s1.v]) 2 0 Try.underlying25 rfl sz25 rfl rfl rfl rfl) (wanted_t hF rfl rfl rfl hc3) rfl fun a hF => ?_
        refine q_xg (v := (.pointer (some ⟨b8, 0, none⟩))) hF hS (ex_fieldAddr Try.underlying41 rfl sz3 rfl rfl) (wanted_t hF rfl rfl rfl hc3) rfl fun a hF => ?_
        refine q_xg (v := (.int .i64 p_r.Area)) hF hS (ex_load1 0 0 Try.underlying3 rfl rfl rfl rfl) (wanted_t hF rfl rfl rfl hc3) rfl fun a hF => ?_
        obtain ⟨t_11, ht_11, hj1⟩ := bindS hj1
        refine q_callg (vs := [(.agg #[s1.v]), (.int .i64 p_r.Area)]) hF hS (wanted_t hF rfl rfl rfl hc3) Try.func40 (by kernel_rfl) rfl rfl rfl (c_impl_isArea p_g p_r.Area t_11 ht_11 _ m hS.vis s1 h1) ?_
        rintro a w _ rfl hF hS
        refine q_xg (v := (.bool (!t_11))) hF hS (ex_not rfl) (wanted_t hF rfl rfl rfl hc3) rfl fun a hF => ?_
        refine q_x (v := (.bool (!t_11))) hF hS (ex_pick_f rfl rfl hc3) rfl rfl fun a hF => ?_
        refine q_x (v := (.bool (!t_11))) hF hS (ex_move rfl) rfl rfl fun a hF => ?_
        rcases bcase (!t_11) with hc4 | hc4
        · have hj1 := cond_f hc4 hj1
          refine q_xg (v := (.agg #[s1.v])) hF hS (ex_loadA (vs := [s1.v]) 2 0 Try.underlying25 rfl sz25 rfl rfl rfl rfl) (wanted_t hF rfl rfl rfl hc4) rfl fun a hF => ?_
          refine q_xg (v := (.pointer (some ⟨b8, 0, none⟩))) hF hS (ex_fieldAddr Try.underlying41 rfl sz3 rfl rfl) (wanted_t hF rfl rfl rfl hc4) rfl fun a hF => ?_
          refine q_xg (v := (.int .i64 p_r.Area)) hF hS (ex_load1 0 0 Try.underlying3 rfl rfl rfl rfl) (wanted_t hF rfl rfl rfl hc4) rfl fun a hF => ?_
          obtain ⟨t_12, ht_12, hj1⟩ := bindS hj1
          refine q_callg (vs := [(.agg #[s1.v]), (.int .i64 p_r.Area)]) hF hS (wanted_t hF rfl rfl rfl hc4) Try.func41 (by kernel_rfl) rfl rfl rfl (c_impl_isLeaf p_g p_r.Area t_12 ht_12 _ m hS.vis s1 h1) ?_
          rintro a w _ rfl hF hS
          refine q_xg (v := (.bool (!t_12))) hF hS (ex_not rfl) (wanted_t hF rfl rfl rfl hc4) rfl fun a hF => ?_
          refine q_x (v := (.bool (!t_12))) hF hS (ex_pick_f rfl rfl hc4) rfl rfl fun a hF => ?_
          refine q_end (n_jn ?_)
          obtain rfl := someI hj1
          exact ⟨hF.sub ⟨rfl, rfl, rfl, rfl, rfl, trivial⟩, hS⟩
        · have hj1 := cond_t hc4 hj1
          refine q_skip hF (wanted_f hF rfl rfl rfl hc4 rfl) rfl fun a hF => ?_
          refine q_skip hF (wanted_f hF rfl rfl rfl hc4 rfl) rfl fun a hF => ?_
          refine q_skip hF (wanted_f hF rfl rfl rfl hc4 rfl) rfl fun a hF => ?_
          refine q_skip hF (wanted_f hF rfl rfl rfl hc4 rfl) rfl fun a hF => ?_
          refine q_skip hF (wanted_f hF rfl rfl rfl hc4 rfl) rfl fun a hF => ?_
          refine q_x (v := (.bool true)) hF hS (ex_pick_t rfl rfl hc4) rfl rfl fun a hF => ?_
          refine q_end (n_jn ?_)
          obtain rfl := someI hj1
          exact ⟨hF.sub ⟨rfl, rfl, rfl, rfl, rfl, trivial⟩, hS⟩
      · have hj1 := cond_t hc3 hj1
        refine q_skip hF (wanted_f hF rfl rfl rfl hc3 rfl) rfl fun a hF => ?_
        refine q_skip hF (wanted_f hF rfl rfl rfl hc3 rfl) rfl fun a hF => ?_
        refine q_skip hF (wanted_f hF rfl rfl rfl hc3 rfl) rfl fun a hF => ?_
        refine q_skip hF (wanted_f hF rfl rfl rfl hc3 rfl) rfl fun a hF => ?_
        refine q_skip hF (wanted_f hF rfl rfl rfl hc3 rfl) rfl fun a hF => ?_
        refine q_x (v := (.bool true)) hF hS (ex_pick_t rfl rfl hc3) rfl rfl fun a hF => ?_
        refine q_x (v := (.bool true)) hF hS (ex_move rfl) rfl rfl fun a hF => ?_
        refine q_skip hF (wanted_f hF rfl rfl rfl rfl rfl) rfl fun a hF => ?_
        refine q_skip hF (wanted_f hF rfl rfl rfl rfl rfl) rfl fun a hF => ?_
        refine q_skip hF (wanted_f hF rfl rfl rfl rfl rfl) rfl fun a hF => ?_
        refine q_skip hF (wanted_f hF rfl rfl rfl rfl rfl) rfl fun a hF => ?_
        refine q_skip hF (wanted_f hF rfl rfl rfl rfl rfl) rfl fun a hF => ?_
        refine q_x (v := (.bool true)) hF hS (ex_pick_t rfl rfl rfl) rfl rfl fun a hF => ?_
        refine q_end (n_jn ?_)
        obtain rfl := someI hj1
        exact ⟨hF.sub ⟨rfl, rfl, rfl, rfl, rfl, trivial⟩, hS⟩
    · have hj1 := cond_t hc2 hj1
      refine q_skip hF (wanted_f hF rfl rfl rfl hc2 rfl) rfl fun a hF => ?_
      refine q_skip hF (wanted_f hF rfl rfl rfl hc2 rfl) rfl fun a hF => ?_
      refine q_skip hF (wanted_f hF rfl rfl rfl hc2 rfl) rfl fun a hF => ?_
      refine q_skip hF (wanted_f hF rfl rfl rfl hc2 rfl) rfl fun a hF => ?_
      refine q_x (v := (.bool true)) hF hS (ex_pick_t rfl rfl hc2) rfl rfl fun a hF => ?_
      refine q_x (v := (.bool true)) hF hS (ex_move rfl) rfl rfl fun a hF => ?_
      refine q_skip hF (wanted_f hF rfl rfl rfl rfl rfl) rfl fun a hF => ?_
      refine q_skip hF (wanted_f hF rfl rfl rfl rfl rfl) rfl fun a hF => ?_
      refine q_skip hF (wanted_f hF rfl rfl rfl rfl rfl) rfl fun a hF => ?_
      refine q_skip hF (wanted_f hF rfl rfl rfl rfl rfl) rfl fun a hF => ?_
      refine q_skip hF (wanted_f hF rfl rfl rfl rfl rfl) rfl fun a hF => ?_
      refine q_x (v := (.bool true)) hF hS (ex_pick_t rfl rfl rfl) rfl rfl fun a hF => ?_
      refine q_x (v := (.bool true)) hF hS (ex_move rfl) rfl rfl fun a hF => ?_
      refine q_skip hF (wanted_f hF rfl rfl rfl rfl rfl) rfl fun a hF => ?_
      refine q_skip hF (wanted_f hF rfl rfl rfl rfl rfl) rfl fun a hF => ?_
      refine q_skip hF (wanted_f hF rfl rfl rfl rfl rfl) rfl fun a hF => ?_
      refine q_skip hF (wanted_f hF rfl rfl rfl rfl rfl) rfl fun a hF => ?_
      refine q_skip hF (wanted_f hF rfl rfl rfl rfl rfl) rfl fun a hF => ?_
      refine q_x (v := (.bool true)) hF hS (ex_pick_t rfl rfl rfl) rfl rfl fun a hF => ?_
      refine q_end (n_jn ?_)
      obtain rfl := someI hj1
      exact ⟨hF.sub ⟨rfl, rfl, rfl, rfl, rfl, trivial⟩, hS⟩
  · rintro a w ⟨hF, hS⟩
    refine n_sq ?_
    rcases bcase (t_13) with hc5 | hc5
    · have hr := cond_f hc5 hr
      refine q_cond_f hF rfl hc5 ?_
      refine q_skipc (n_sq ?_)
      refine q_seq ?_
      refine q_region ?_
      refine q_x (v := (.agg #[s1.v])) hF hS (ex_loadA (vs := [s1.v]) 2 0 Try.underlying25 rfl sz25 rfl rfl rfl rfl) rfl rfl fun a hF => ?_
      refine q_x (v := s2.v) hF hS (ex_move rfl) rfl rfl fun a hF => ?_
      refine q_x (v := (.agg #[(.int .i64 p_t.Level), s3.v, s4.v, (.int .i64 p_t.Sum)])) hF hS (ex_loadA (vs := [(.int .i64 p_t.Level), s3.v, s4.v, (.int .i64 p_t.Sum)]) 1 0 Try.underlying28 rfl sz28 rfl rfl rfl rfl) rfl rfl fun a hF => ?_
      refine q_x (v := (.agg #[(.int .i64 p_r.Area), (.int .i64 p_r.House), s5.v])) hF hS (ex_loadA (vs := [(.int .i64 p_r.Area), (.int .i64 p_r.House), s5.v]) 0 0 Try.underlying41 rfl sz41 rfl rfl rfl rfl) rfl rfl fun a hF => ?_
      obtain ⟨t_14, ht_14, hr⟩ := bindS hr
      refine q_call (vs := [(.agg #[s1.v]), s2.v, (.agg #[(.int .i64 p_t.Level), s3.v, s4.v, (.int .i64 p_t.Sum)]), (.agg #[(.int .i64 p_r.Area), (.int .i64 p_r.House), s5.v])]) hF hS Try.func32 (by kernel_rfl) rfl rfl rfl (c_impl_contribution p_g p_s p_t p_r t_14 ht_14 _ m hS.vis s1 h1 s2 h2 s3 h3 s4 h4 s5 h5) ?_
      rintro a w _ rfl hF hS
      refine q_x (v := (.tuple #[(.int .i64 t_14.1), (.int .i64 t_14.2)])) hF hS (ex_move rfl) rfl rfl fun a hF => ?_
      refine q_x (v := (.int .i64 t_14.1)) hF hS (ex_extract rfl rfl) rfl rfl fun a hF => ?_
      refine q_x (v := (.int .i64 t_14.2)) hF hS (ex_extract rfl rfl) rfl rfl fun a hF => ?_
      refine q_x (v := (.int .i64 t_14.1)) hF hS (ex_assign rfl) rfl rfl fun a hF => ?_
      refine q_x (v := (.int .i64 t_14.2)) hF hS (ex_assign rfl) rfl rfl fun a hF => ?_
      refine q_end (n_sq ?_)
      refine q_seq ?_
      refine q_region ?_
      refine q_x (v := (.int .i64 t_14.1)) hF hS (ex_move rfl) rfl rfl fun a hF => ?_
      refine q_x (v := (.int .i64 t_14.2)) hF hS (ex_move rfl) rfl rfl fun a hF => ?_
      refine q_x (v := (.int .i64 t_14.1)) hF hS (ex_assign rfl) rfl rfl fun a hF => ?_
      refine q_x (v := (.int .i64 t_14.2)) hF hS (ex_assign rfl) rfl rfl fun a hF => ?_
      refine q_x (v := (.bool true)) hF hS (ex_assign rfl) rfl rfl fun a hF => ?_
      refine q_end (n_sq (q_ret ?_))
      obtain rfl := someI hr
      exact ret_of hF hS rfl (.tmp rfl (.tmp rfl (.tmp rfl .nil))) rfl
    · have hr := cond_t hc5 hr
      refine q_cond_t hF rfl hc5 ?_
      refine q_seq ?_
      refine q_region ?_
      refine q_x (v := (.int .i64 0)) hF hS (ex_assign rfl) rfl rfl fun a hF => ?_
      refine q_x (v := (.int .i64 0)) hF hS (ex_assign rfl) rfl rfl fun a hF => ?_
      refine q_x (v := (.bool false)) hF hS (ex_assign rfl) rfl rfl fun a hF => ?_
      refine q_end (n_sq (q_ret (r_sq ?_)))
      obtain rfl := someI hr
      exact ret_of hF hS rfl (.tmp rfl (.tmp rfl (.tmp rfl .nil))) rfl

theorem c_impl_tableOf (p_g : impl_Geo) (p_s : List impl_Variable) (p_t : impl_Table) (p_l : List impl_Record) (r : (List Int)) (hr : impl_tableOf p_g p_s p_t p_l = some r) (w0 : World) (m : Mem) (hv : Vis m w0) (s1 : Sl) (h1 : Rd m s1 p_g.Parents) (s2 : Sl) (h2 : Rd m s2 p_s) (s3 : Sl) (h3 : Rd m s3 p_t.Vars) (s4 : Sl) (h4 : Rd m s4 p_t.Where) (s5 : Sl) (h5 : Rd m s5 p_l) :
    Ret Try.prog 42 [(.agg #[s1.v]), s2.v, (.agg #[(.int .i64 p_t.Level), s3.v, s4.v, (.int .i64 p_t.Sum)]), s5.v] w0 (fun v w => ∃ (q0' : Piece) (s0' : Sl), v = s0'.v ∧ St [] w0 w m [q0'] ∧ OwnL m 3 q0' s0' r) := by
  unfold impl_tableOf at hr
  refine ret_start Try.func42 rfl 44 rfl rfl m hv fun a hF hS => ?_
  refine q_seq ?_
  refine q_region ?_
  refine q_box (cs := [s1.v]) hF hS rfl rfl rfl fun a w b6 hF hS => ?_
  refine q_box (cs := [(.int .i64 p_t.Level), s3.v, s4.v, (.int .i64 p_t.Sum)]) hF hS rfl rfl rfl fun a w b7 hF hS => ?_
  refine q_x (v := nilS.v) hF hS (ex_assign rfl) rfl rfl fun a hF => ?_
  refine q_end (n_sq ?_)
  refine q_seq ?_
  refine q_region ?_
  refine q_x (v := (.agg #[s1.v])) hF hS (ex_loadA (vs := [s1.v]) 1 0 Try.underlying25 rfl sz25 rfl rfl rfl rfl) rfl rfl fun a hF => ?_
  refine q_x (v := s2.v) hF hS (ex_move rfl) rfl rfl fun a hF => ?_
  refine q_x (v := (.agg #[(.int .i64 p_t.Level), s3.v, s4.v, (.int .i64 p_t.Sum)])) hF hS (ex_loadA (vs := [(.int .i64 p_t.Level), s3.v, s4.v, (.int .i64 p_t.Sum)]) 0 0 Try.underlying28 rfl sz28 rfl rfl rfl rfl) rfl rfl fun a hF => ?_
  obtain ⟨t_8, ht_8, hr⟩ := bindS hr
  refine q_call (vs := [(.agg #[s1.v]), s2.v, (.agg #[(.int .i64 p_t.Level), s3.v, s4.v, (.int .i64 p_t.Sum)])]) hF hS Try.func31 (by kernel_rfl) rfl rfl rfl (c_impl_cellCount p_g p_s p_t t_8 ht_8 _ m hS.vis s1 h1 s2 h2 s3 h3 s4 h4) ?_
  rintro a w _ rfl hF hS
  obtain ⟨l_9, hl_9, hr⟩ := bindS hr
  refine q_do rfl fun _ hK => wp_make (z := (0 : Int)) hF hS Try.underlying23 inf3 rfl rfl rfl rfl rfl (by decide) hl_9 rfl fun a w q10 s10 hF hS h10 _ => hK _ _ ?_
  refine q_x (v := s10.v) hF hS (ex_assign rfl) rfl rfl fun a hF => ?_
  refine q_end (n_sq ?_)
  refine q_seq ?_
  refine q_seq ?_
  refine q_region ?_
  refine q_x (v := s5.v) hF hS (ex_move rfl) rfl rfl fun a hF => ?_
  refine q_x (v := (.int .i64 (goLen p_l))) hF hS (ex_len Try.underlying29 rfl h5.len) rfl rfl fun a hF => ?_
  refine q_x (v := (.int .i64 0)) hF hS (ex_move rfl) rfl rfl fun a hF => ?_
  refine q_end (n_sq ?_)
  refine q_block ?_
  obtain ⟨cells_26, hl1, hr⟩ := bindS hr
  refine q_loop (fun (s : (List Int) × Int) a w => ∃ (q12 : Piece), ∃ cells_11, ∃ t_13, s = (cells_11, t_13) ∧ Fr a 44 [(1, s2.v), (4, (.pointer (some ⟨b6, 0, none⟩))), (6, (.pointer (some ⟨b7, 0, none⟩))), (9, s10.v), (19, s5.v), (20, (.int .i64 (goLen p_l))), (21, (.int .i64 t_13))] ∧ St [] w0 w m [q12, [⟨b7, [(.int .i64 p_t.Level), s3.v, s4.v, (.int .i64 p_t.Sum)], 28⟩], [⟨b6, [s1.v], 25⟩]] ∧ OwnL m 3 q12 s10 cells_11) (fun (cells_26 : (List Int)) e a w => ∃ (q27 : Piece), e = .exit 0 ∧ Fr a 44 [(9, s10.v)] ∧ St [] w0 w m [q27] ∧ OwnL m 3 q27 s10 cells_26) hl1 ⟨q10, _, _, rfl, hF.sub ⟨rfl, rfl, rfl, rfl, rfl, rfl, rfl, trivial⟩, hS, h10⟩ ?_ ?_
  · clear hF hS
    rintro s a w st ⟨q12, cells_11, t_13, rfl, hF, hS, h12⟩ hb1
    unfold impl_tableOf_l1 at hb1
    refine q_seq ?_
    refine q_region ?_
    refine q_x (v := (.bool (decide (t_13 < (goLen p_l))))) hF hS (ex_ibin rfl rfl rfl) rfl rfl fun a hF => ?_
    refine q_end (n_sq ?_)
    refine q_seq ?_
    rcases bcase (decide (t_13 < (goLen p_l))) with hc2 | hc2
    · have hb1 := cond_f hc2 hb1
      refine q_cond_f hF rfl hc2 ?_
      refine q_exit (x_sq ?_)
      obtain rfl := someI hb1
      exact ⟨nofun, .inl ⟨q12, rfl, hF.sub ⟨rfl, trivial⟩, hS.mask [true, false, false], h12⟩⟩
    · have hb1 := cond_t hc2 hb1
      refine q_cond_t hF rfl hc2 ?_
      refine q_skipc (n_sq ?_)
      refine q_seq ?_
      refine q_block ?_
      refine q_seq ?_
      refine q_region ?_
      obtain ⟨e_14, he_14, hb1⟩ := bindS hb1
      obtain ⟨vs15, at15, d15⟩ := h5.at he_14 3 rfl
      obtain ⟨s16, rfl, h16⟩ : ∃ s16 : Sl, vs15 = [(.int .i64 e_14.Area), (.int .i64 e_14.House), s16.v] ∧ Rd m s16 e_14.Values := d15
      refine q_x (v := (elP s5 (t_13.toNat * 3))) hF hS (ex_indexAddr Try.underlying29 sz41 rfl rfl (h5.idx he_14)) rfl rfl fun a hF => ?_
      refine q_x (v := (.agg #[(.int .i64 e_14.Area), (.int .i64 e_14.House), s16.v])) hF hS (ex_loadEA (us := [(.int .i64 e_14.Area), (.int .i64 e_14.House), s16.v]) 0 Try.underlying41 rfl sz41 rfl ((at15).at) rfl rfl rfl) rfl rfl fun a hF => ?_
      refine q_alloc (cs := [(.int .i64 0), (.int .i64 0), nilS.v]) hF hS rfl rfl rfl fun a w b17 hF hS => ?_
      refine q_store (vs := [(.int .i64 e_14.Area), (.int .i64 e_14.House), s16.v]) (cs' := [(.int .i64 e_14.Area), (.int .i64 e_14.House), s16.v]) 0 0 hF hS sz41 rfl rfl rfl rfl rfl rfl rfl rfl fun a w hF hS => ?_
      refine q_end (n_sq ?_)
      refine q_seq ?_
      refine q_region ?_
      refine q_x (v := (.agg #[s1.v])) hF hS (ex_loadA (vs := [s1.v]) 3 0 Try.underlying25 rfl sz25 rfl rfl rfl rfl) rfl rfl fun a hF => ?_
      refine q_x (v := s2.v) hF hS (ex_move rfl) rfl rfl fun a hF => ?_
      refine q_x (v := (.agg #[(.int .i64 p_t.Level), s3.v, s4.v, (.int .i64 p_t.Sum)])) hF hS (ex_loadA (vs := [(.int .i64 p_t.Level), s3.v, s4.v, (.int .i64 p_t.Sum)]) 2 0 Try.underlying28 rfl sz28 rfl rfl rfl rfl) rfl rfl fun a hF => ?_
      refine q_x (v := (.agg #[(.int .i64 e_14.Area), (.int .i64 e_14.House), s16.v])) hF hS (ex_loadA (vs := [(.int .i64 e_14.Area), (.int .i64 e_14.House), s16.v]) 0 0 Try.underlying41 rfl sz41 rfl rfl rfl rfl) rfl rfl fun a hF => ?_
      obtain ⟨t_18, ht_18, hb1⟩ := bindS hb1
      refine q_call (vs := [(.agg #[s1.v]), s2.v, (.agg #[(.int .i64 p_t.Level), s3.v, s4.v, (.int .i64 p_t.Sum)]), (.agg #[(.int .i64 e_14.Area), (.int .i64 e_14.House), s16.v])]) hF hS Try.func32 (by kernel_rfl) rfl rfl rfl (c_impl_contribution p_g p_s p_t e_14 t_18 ht_18 _ m hS.vis s1 h1 s2 h2 s3 h3 s4 h4 s16 h16) ?_
      rintro a w _ rfl hF hS
      refine q_x (v := (.tuple #[(.int .i64 t_18.1), (.int .i64 t_18.2)])) hF hS (ex_move rfl) rfl rfl fun a hF => ?_
      refine q_x (v := (.int .i64 t_18.1)) hF hS (ex_extract rfl rfl) rfl rfl fun a hF => ?_
      refine q_x (v := (.int .i64 t_18.2)) hF hS (ex_extract rfl rfl) rfl rfl fun a hF => ?_
      refine q_x (v := (.int .i64 t_18.1)) hF hS (ex_assign rfl) rfl rfl fun a hF => ?_
      refine q_x (v := (.int .i64 t_18.2)) hF hS (ex_assign rfl) rfl rfl fun a hF => ?_
      refine q_end (n_sq ?_)
      refine q_seq ?_
      refine q_region ?_
      refine q_x (v := (.int .i64 t_18.1)) hF hS (ex_move rfl) rfl rfl fun a hF => ?_
      refine q_x (v := (.bool (decide (0 ≤ t_18.1)))) hF hS (ex_ibin rfl rfl rfl) rfl rfl fun a hF => ?_
      refine q_end (n_sq ?_)
      obtain ⟨cells_24, hj3, hb1⟩ := bindS hb1
      refine q_join (fun a w => ∃ (q25 : Piece), Fr a 44 [(1, s2.v), (4, (.pointer (some ⟨b6, 0, none⟩))), (6, (.pointer (some ⟨b7, 0, none⟩))), (9, s10.v), (19, s5.v), (20, (.int .i64 (goLen p_l))), (21, (.int .i64 t_13))] ∧ St [] w0 w m [q25, [⟨b7, [(.int .i64 p_t.Level), s3.v, s4.v, (.int .i64 p_t.Sum)], 28⟩], [⟨b6, [s1.v], 25⟩]] ∧ OwnL m 3 q25 s10 cells_24) ?_ ?_
      · rcases bcase (decide (0 ≤ t_18.1)) with hc4 | hc4
        · have hj3 := cond_f hc4 hj3
          refine q_cond_f hF rfl hc4 ?_
          refine q_skipc (n_jn ?_)
          obtain rfl := someI hj3
          exact ⟨q12, hF.sub ⟨rfl, rfl, rfl, rfl, rfl, rfl, rfl, trivial⟩, hS.mask [false, true, true, true], h12⟩
        · have hj3 := cond_t hc4 hj3
          refine q_cond_t hF rfl hc4 ?_
          refine q_region ?_
          refine q_x (v := s10.v) hF hS (ex_move rfl) rfl rfl fun a hF => ?_
          refine q_x (v := (.int .i64 t_18.1)) hF hS (ex_move rfl) rfl rfl fun a hF => ?_
          obtain ⟨e_19, he_19, hj3⟩ := bindS hj3
          obtain ⟨vs20, at20, d20⟩ := h12.at he_19 1 rfl
          obtain rfl : vs20 = [(.int .i64 e_19)] := d20
          refine q_x (v := (elP s10 (t_18.1.toNat * 1))) hF hS (ex_indexAddr Try.underlying23 sz3 rfl rfl (h12.idx he_19)) rfl rfl fun a hF => ?_
          refine q_x (v := (.int .i64 e_19)) hF hS (ex_loadE1 0 Try.underlying3 rfl rfl (at20.at 1 rfl) rfl rfl) rfl rfl fun a hF => ?_
          refine q_x (v := (.int .i64 t_18.2)) hF hS (ex_move rfl) rfl rfl fun a hF => ?_
          refine q_x (v := (.int .i64 (w64 (e_19 + t_18.2)))) hF hS (ex_ibin rfl rfl rfl) rfl rfl fun a hF => ?_
          obtain ⟨e_21, he_21, hj3⟩ := bindS hj3
          obtain ⟨vs22, at22, d22⟩ := h12.at he_21 1 rfl
          obtain rfl : vs22 = [(.int .i64 e_21)] := d22
          refine q_x (v := (elP s10 (t_18.1.toNat * 1))) hF hS (ex_indexAddr Try.underlying23 sz3 rfl rfl (h12.idx he_21)) rfl rfl fun a hF => ?_
          have hS : St _ _ _ _ [q12, [⟨b17, [(.int .i64 e_14.Area), (.int .i64 e_14.House), s16.v], 41⟩], [⟨b7, [(.int .i64 p_t.Level), s3.v, s4.v, (.int .i64 p_t.Sum)], 28⟩], [⟨b6, [s1.v], 25⟩]] := hS.sel [1, 0, 2, 3] (by decide)
          refine q_do rfl fun _ hK => wp_storeE (e' := (w64 (e_19 + t_18.2))) (us := [(.int .i64 (w64 (e_19 + t_18.2)))]) (vs := [(.int .i64 e_21)]) 0 hF hS h12 sz3 rfl rfl rfl rfl rfl rfl rfl he_21 at22 rfl rfl rfl fun w q23 hS h23 => hK _ _ ?_
          refine q_end (n_jn ?_)
          obtain rfl := someI hj3
          exact ⟨q23, hF.sub ⟨rfl, rfl, rfl, rfl, rfl, rfl, rfl, trivial⟩, hS.mask [true, false, true, true], h23⟩
      · rintro a w ⟨q25, hF, hS, h25⟩
        refine n_ib (n_sq ?_)
        refine q_region ?_
        refine q_x (v := (.int .i64 (w64 (t_13 + 1)))) hF hS (ex_ibin rfl rfl rfl) rfl rfl fun a hF => ?_
        refine q_x (v := (.int .i64 (w64 (t_13 + 1)))) hF hS (ex_move rfl) rfl rfl fun a hF => ?_
        refine q_end ?_
        obtain rfl := someI hb1
        exact ⟨rfl, q25, _, _, rfl, hF.sub ⟨rfl, rfl, rfl, rfl, rfl, rfl, rfl, trivial⟩, hS, h25⟩
  · rintro e a w ⟨q27, rfl, hF, hS, h27⟩
    refine x_ib (n_sq ?_)
    refine q_seq ?_
    refine q_region ?_
    refine q_x (v := s10.v) hF hS (ex_move rfl) rfl rfl fun a hF => ?_
    refine q_x (v := s10.v) hF hS (ex_assign rfl) rfl rfl fun a hF => ?_
    refine q_end (n_sq (q_ret ?_))
    obtain rfl := someI hr
    exact ret_of hF hS rfl (.tmp rfl .nil) ⟨q27, s10, rfl, hS.sel [0] (by decide), h27⟩

theorem c_impl_TableOf (p_g : impl_Geo) (p_s : List impl_Variable) (p_t : impl_Table) (p_l : List impl_Record) (r : (List Int) × Bool) (hr : impl_TableOf p_g p_s p_t p_l = some r) (w0 : World) (m : Mem) (hv : Vis m w0) (s1 : Sl) (h1 : Rd m s1 p_g.Parents) (s2 : Sl) (h2 : Rd m s2 p_s) (s3 : Sl) (h3 : Rd m s3 p_t.Vars) (s4 : Sl) (h4 : Rd m s4 p_t.Where) (s5 : Sl) (h5 : Rd m s5 p_l) :
    Ret Try.prog 13 [(.agg #[s1.v]), s2.v, (.agg #[(.int .i64 p_t.Level), s3.v, s4.v, (.int .i64 p_t.Sum)]), s5.v] w0 (fun v w => ∃ (q0' : Piece) (s0' : Sl), v = (.tuple #[s0'.v, (.bool r.2)]) ∧ St [] w0 w m [q0'] ∧ OwnL m 3 q0' s0' r.1) := by
  unfold impl_TableOf at hr
  refine ret_start Try.func13 rfl 27 rfl rfl m hv fun a hF hS => ?_
  refine q_seq ?_
  refine q_region ?_
  refine q_box (cs := [s1.v]) hF hS rfl rfl rfl fun a w b6 hF hS => ?_
  refine q_box (cs := [(.int .i64 p_t.Level), s3.v, s4.v, (.int .i64 p_t.Sum)]) hF hS rfl rfl rfl fun a w b7 hF hS => ?_
  refine q_x (v := nilS.v) hF hS (ex_assign rfl) rfl rfl fun a hF => ?_
  refine q_x (v := (.bool false)) hF hS (ex_assign rfl) rfl rfl fun a hF => ?_
  refine q_end (n_sq ?_)
  refine q_seq ?_
  refine q_seq ?_
  obtain ⟨t_10, hj1, hr⟩ := bindS hr
  refine q_join (fun a w => Fr a 27 [(1, s2.v), (3, s5.v), (4, (.pointer (some ⟨b6, 0, none⟩))), (6, (.pointer (some ⟨b7, 0, none⟩))), (21, (.bool t_10))] ∧ St [] w0 w m [[⟨b7, [(.int .i64 p_t.Level), s3.v, s4.v, (.int .i64 p_t.Sum)], 28⟩], [⟨b6, [s1.v], 25⟩]]) ?_ ?_
  · refine q_region ?_
    refine q_x (v := (.agg #[s1.v])) hF hS (ex_loadA (vs := [s1.v]) 1 0 Try.underlying25 rfl sz25 rfl rfl rfl rfl) rfl rfl fun a hF => ?_
    refine q_x (v := s2.v) hF hS (ex_move rfl) rfl rfl fun a hF => ?_
    refine q_x (v := (.agg #[(.int .i64 p_t.Level), s3.v, s4.v, (.int .i64 p_t.Sum)])) hF hS (ex_loadA (vs := [(.int .i64 p_t.Level), s3.v, s4.v, (.int .i64 p_t.Sum)]) 0 0 Try.underlying28 rfl sz28 rfl rfl rfl rfl) rfl rfl fun a hF => ?_
    obtain ⟨t_8, ht_8, hj1⟩ := bindS hj1
    refine q_call (vs := [(.agg #[s1.v]), s2.v, (.agg #[(.int .i64 p_t.Level), s3.v, s4.v, (.int .i64 p_t.Sum)])]) hF hS Try.func29 (by kernel_rfl) rfl rfl rfl (c_impl_areTabled p_g p_s p_t t_8 ht_8 _ m hS.vis s1 h1 s2 h2 s3 h3 s4 h4) ?_
    rintro a w _ rfl hF hS
    refine q_x (v := (.bool (!t_8))) hF hS (ex_not rfl) rfl rfl fun a hF => ?_
    refine q_x (v := (.bool (!t_8))) hF hS (ex_move rfl) rfl rfl fun a hF => ?_
    rcases bcase (!t_8) with hc2 | hc2
    · have hj1 := cond_f hc2 hj1
      refine q_xg (v := (.agg #[s1.v])) hF hS (ex_loadA (vs := [s1.v]) 1 0 Try.underlying25 rfl sz25 rfl rfl rfl rfl) (wanted_t hF rfl rfl rfl hc2) rfl fun a hF => ?_
      refine q_xg (v := s2.v) hF hS (ex_move rfl) (wanted_t hF rfl rfl rfl hc2) rfl fun a hF => ?_
      refine q_xg (v := s5.v) hF hS (ex_move rfl) (wanted_t hF rfl rfl rfl hc2) rfl fun a hF => ?_
      obtain ⟨t_9, ht_9, hj1⟩ := bindS hj1
      refine q_callg (vs := [(.agg #[s1.v]), s2.v, s5.v]) hF hS (wanted_t hF rfl rfl rfl hc2) Try.func30 (by kernel_rfl) rfl rfl rfl (c_impl_isSurvey p_g p_s p_l t_9 ht_9 _ m hS.vis s1 h1 s2 h2 s5 h5) ?_
      rintro a w _ rfl hF hS
      refine q_xg (v := (.bool (!t_9))) hF hS (ex_not rfl) (wanted_t hF rfl rfl rfl hc2) rfl fun a hF => ?_
      refine q_x (v := (.bool (!t_9))) hF hS (ex_pick_f rfl rfl hc2) rfl rfl fun a hF => ?_
      refine q_end (n_jn ?_)
      obtain rfl := someI hj1
      exact ⟨hF.sub ⟨rfl, rfl, rfl, rfl, rfl, trivial⟩, hS⟩
    · have hj1 := cond_t hc2 hj1
      refine q_skip hF (wanted_f hF rfl rfl rfl hc2 rfl) rfl fun a hF => ?_
      refine q_skip hF (wanted_f hF rfl rfl rfl hc2 rfl) rfl fun a hF => ?_
      refine q_skip hF (wanted_f hF rfl rfl rfl hc2 rfl) rfl fun a hF => ?_
      refine q_skip hF (wanted_f hF rfl rfl rfl hc2 rfl) rfl fun a hF => ?_
      refine q_skip hF (wanted_f hF rfl rfl rfl hc2 rfl) rfl fun a hF => ?_
      refine q_x (v := (.bool true)) hF hS (ex_pick_t rfl rfl hc2) rfl rfl fun a hF => ?_
      refine q_end (n_jn ?_)
      obtain rfl := someI hj1
      exact ⟨hF.sub ⟨rfl, rfl, rfl, rfl, rfl, trivial⟩, hS⟩
  · rintro a w ⟨hF, hS⟩
    refine n_sq ?_
    rcases bcase (t_10) with hc3 | hc3
    · have hr := cond_f hc3 hr
      refine q_cond_f hF rfl hc3 ?_
      refine q_skipc (n_sq ?_)
      refine q_seq ?_
      refine q_region ?_
      refine q_x (v := (.agg #[s1.v])) hF hS (ex_loadA (vs := [s1.v]) 1 0 Try.underlying25 rfl sz25 rfl rfl rfl rfl) rfl rfl fun a hF => ?_
      refine q_x (v := s2.v) hF hS (ex_move rfl) rfl rfl fun a hF => ?_
      refine q_x (v := (.agg #[(.int .i64 p_t.Level), s3.v, s4.v, (.int .i64 p_t.Sum)])) hF hS (ex_loadA (vs := [(.int .i64 p_t.Level), s3.v, s4.v, (.int .i64 p_t.Sum)]) 0 0 Try.underlying28 rfl sz28 rfl rfl rfl rfl) rfl rfl fun a hF => ?_
      refine q_x (v := s5.v) hF hS (ex_move rfl) rfl rfl fun a hF => ?_
      obtain ⟨t_11, ht_11, hr⟩ := bindS hr
      refine q_call (vs := [(.agg #[s1.v]), s2.v, (.agg #[(.int .i64 p_t.Level), s3.v, s4.v, (.int .i64 p_t.Sum)]), s5.v]) hF hS Try.func42 (by kernel_rfl) rfl rfl rfl (c_impl_tableOf p_g p_s p_t p_l t_11 ht_11 _ m hS.vis s1 h1 s2 h2 s3 h3 s4 h4 s5 h5) ?_
      rintro a w _ ⟨q13, s13, rfl, hR12, h13⟩ hF hS2
      have hS : St _ _ _ _ [q13, [⟨b7, [(.int .i64 p_t.Level), s3.v, s4.v, (.int .i64 p_t.Sum)], 28⟩], [⟨b6, [s1.v], 25⟩]] := hS.joinF hR12
      refine q_x (v := s13.v) hF hS (ex_assign rfl) rfl rfl fun a hF => ?_
      refine q_x (v := (.bool true)) hF hS (ex_assign rfl) rfl rfl fun a hF => ?_
      refine q_end (n_sq (q_ret ?_))
      obtain rfl := someI hr
      exact ret_of hF hS rfl (.tmp rfl (.tmp rfl .nil)) ⟨q13, s13, rfl, hS.sel [0] (by decide), h13⟩
    · have hr := cond_t hc3 hr
      refine q_cond_t hF rfl hc3 ?_
      refine q_seq ?_
      refine q_region ?_
      refine q_x (v := nilS.v) hF hS (ex_assign rfl) rfl rfl fun a hF => ?_
      refine q_x (v := (.bool false)) hF hS (ex_assign rfl) rfl rfl fun a hF => ?_
      refine q_end (n_sq (q_ret (r_sq ?_)))
      obtain rfl := someI hr
      exact ret_of hF hS rfl (.tmp rfl (.tmp rfl .nil)) ⟨[], nilS, rfl, hS.sel [2] (by decide), (OwnL.nil (α := Int) m 3)⟩

theorem c_laws_FnCellRecords (p_code : List (K .u8)) (p_more : List (K .u8)) (r : Bool) (hr : laws_FnCellRecords p_code p_more = some r) (w0 : World) (m : Mem) (hv : Vis m w0) (s1 : Sl) (h1 : Rd m s1 p_code) (s2 : Sl) (h2 : Rd m s2 p_more) :
    Ret Try.prog 3 [s1.v, s2.v] w0 (fun v _ => v = (.bool r)) := by
  unfold laws_FnCellRecords at hr
  refine ret_start Try.func3 rfl 183 rfl rfl m hv fun a hF hS => ?_
  refine q_seq ?_
  refine q_region ?_
  refine q_x (v := (.bool false)) hF hS (ex_assign rfl) rfl rfl fun a hF => ?_
  refine q_end (n_sq ?_)
  refine q_seq ?_
  refine q_seq ?_
  refine q_region ?_
  refine q_x (v := s1.v) hF hS (ex_move rfl) rfl rfl fun a hF => ?_
  refine q_x (v := (.int .i64 (goLen p_code))) hF hS (ex_len Try.underlying22 rfl h1.len) rfl rfl fun a hF => ?_
  refine q_x (v := s2.v) hF hS (ex_move rfl) rfl rfl fun a hF => ?_
  refine q_x (v := (.int .i64 (goLen p_more))) hF hS (ex_len Try.underlying22 rfl h2.len) rfl rfl fun a hF => ?_
  refine q_x (v := (.int .i64 (w64 ((goLen p_code) + (goLen p_more))))) hF hS (ex_ibin rfl rfl rfl) rfl rfl fun a hF => ?_
  refine q_x (v := (.bool (decide (1048576 < (w64 ((goLen p_code) + (goLen p_more))))))) hF hS (ex_ibin rfl rfl rfl) rfl rfl fun a hF => ?_
  refine q_end (n_sq ?_)
  rcases bcase (decide (1048576 < (w64 ((goLen p_code) + (goLen p_more))))) with hc1 | hc1
  · have hr := cond_f hc1 hr
    refine q_cond_f hF rfl hc1 ?_
    refine q_skipc (n_sq ?_)
    refine q_seq ?_
    refine q_region ?_
    refine q_x (v := s1.v) hF hS (ex_move rfl) rfl rfl fun a hF => ?_
    obtain ⟨t_3, ht_3, hr⟩ := bindS hr
    refine q_call (vs := [s1.v]) hF hS Try.func5 (by kernel_rfl) rfl rfl rfl (c_spec_DrawRecordsIn p_code t_3 ht_3 _ m hS.vis s1 h1) ?_
    have hT := hS
    rintro a w _ ⟨m4, q5, q7, q8, q9, s5, s6, s7, s8, s9, rfl, hm4, hR4, h5, h6, h7, h8, h9⟩ hF hS2
    have hS : St _ _ _ _ [q5, q7, q8, q9] := hS.join hR4 hm4
    have hm4 := MLe.weakX (O0 := []) hT hm4
    refine q_x (v := (.tuple #[(.agg #[s5.v]), s6.v, (.agg #[(.int .i64 t_3.2.2.1.Level), s7.v, s8.v, (.int .i64 t_3.2.2.1.Sum)]), s9.v, (.int .i64 t_3.2.2.2.2)])) hF hS (ex_move rfl) rfl rfl fun a hF => ?_
    refine q_x (v := (.agg #[s5.v])) hF hS (ex_extract rfl rfl) rfl rfl fun a hF => ?_
    refine q_x (v := s6.v) hF hS (ex_extract rfl rfl) rfl rfl fun a hF => ?_
    refine q_x (v := (.agg #[(.int .i64 t_3.2.2.1.Level), s7.v, s8.v, (.int .i64 t_3.2.2.1.Sum)])) hF hS (ex_extract rfl rfl) rfl rfl fun a hF => ?_
    refine q_x (v := s9.v) hF hS (ex_extract rfl rfl) rfl rfl fun a hF => ?_
    refine q_x (v := (.int .i64 t_3.2.2.2.2)) hF hS (ex_extract rfl rfl) rfl rfl fun a hF => ?_
    refine q_alloc (cs := [nilS.v]) hF hS rfl rfl rfl fun a w b10 hF hS => ?_
    refine q_alloc (cs := [(.int .i64 0), nilS.v, nilS.v, (.int .i64 0)]) hF hS rfl rfl rfl fun a w b11 hF hS => ?_
    refine q_store (vs := [s5.v]) (cs' := [s5.v]) 1 0 hF hS sz25 rfl rfl rfl rfl rfl rfl rfl rfl fun a w hF hS => ?_
    refine q_x (v := s6.v) hF hS (ex_assign rfl) rfl rfl fun a hF => ?_
    refine q_store (vs := [(.int .i64 t_3.2.2.1.Level), s7.v, s8.v, (.int .i64 t_3.2.2.1.Sum)]) (cs' := [(.int .i64 t_3.2.2.1.Level), s7.v, s8.v, (.int .i64 t_3.2.2.1.Sum)]) 0 0 hF hS sz28 rfl rfl rfl rfl rfl rfl rfl rfl fun a w hF hS => ?_
    refine q_x (v := s9.v) hF hS (ex_assign rfl) rfl rfl fun a hF => ?_
    refine q_x (v := (.int .i64 t_3.2.2.2.2)) hF hS (ex_assign rfl) rfl rfl fun a hF => ?_
    refine q_end (n_sq ?_)
    refine q_seq ?_
    refine q_region ?_
    refine q_x (v := (.agg #[s5.v])) hF hS (ex_loadA (vs := [s5.v]) 1 0 Try.underlying25 rfl sz25 rfl rfl rfl rfl) rfl rfl fun a hF => ?_
    refine q_x (v := s6.v) hF hS (ex_move rfl) rfl rfl fun a hF => ?_
    refine q_x (v := (.agg #[(.int .i64 t_3.2.2.1.Level), s7.v, s8.v, (.int .i64 t_3.2.2.1.Sum)])) hF hS (ex_loadA (vs := [(.int .i64 t_3.2.2.1.Level), s7.v, s8.v, (.int .i64 t_3.2.2.1.Sum)]) 0 0 Try.underlying28 rfl sz28 rfl rfl rfl rfl) rfl rfl fun a hF => ?_
    refine q_x (v := s9.v) hF hS (ex_move rfl) rfl rfl fun a hF => ?_
    refine q_x (v := (.int .i64 t_3.2.2.2.2)) hF hS (ex_move rfl) rfl rfl fun a hF => ?_
    obtain ⟨m13, hl13, hv13, hz13⟩ := hS.lend
    obtain ⟨t_12, ht_12, hr⟩ := bindS hr
    refine q_call (vs := [(.agg #[s5.v]), s6.v, (.agg #[(.int .i64 t_3.2.2.1.Level), s7.v, s8.v, (.int .i64 t_3.2.2.1.Sum)]), s9.v, (.int .i64 t_3.2.2.2.2)]) hF hS Try.func6 (by kernel_rfl) rfl rfl rfl (c_impl_RecordsIn t_3.1 t_3.2.1 t_3.2.2.1 t_3.2.2.2.1 t_3.2.2.2.2 t_12 ht_12 _ m13 hv13 s5 (h5.froz hl13 (hz13 2 _ rfl)) s6 (h6.mono hl13) s7 (h7.froz hl13 (hz13 3 _ rfl)) s8 (h8.froz hl13 (hz13 4 _ rfl)) s9 (h9.froz hl13 (hz13 5 _ rfl))) ?_
    rintro a w _ ⟨q15, s15, rfl, hR14, h15⟩ hF hS2
    have hS : St _ _ _ _ [q15, [⟨b11, [(.int .i64 t_3.2.2.1.Level), s7.v, s8.v, (.int .i64 t_3.2.2.1.Sum)], 28⟩], [⟨b10, [s5.v], 25⟩], q5, q7, q8, q9] := hS.joinF hR14
    have h15 := h15.any m4
    refine q_x (v := (.tuple #[s15.v, (.bool t_12.2)])) hF hS (ex_move rfl) rfl rfl fun a hF => ?_
    refine q_x (v := s15.v) hF hS (ex_extract rfl rfl) rfl rfl fun a hF => ?_
    refine q_x (v := (.bool t_12.2)) hF hS (ex_extract rfl rfl) rfl rfl fun a hF => ?_
    refine q_x (v := s15.v) hF hS (ex_assign rfl) rfl rfl fun a hF => ?_
    refine q_x (v := (.bool t_12.2)) hF hS (ex_assign rfl) rfl rfl fun a hF => ?_
    refine q_end (n_sq ?_)
    refine q_seq ?_
    refine q_region ?_
    refine q_x (v := (.agg #[s5.v])) hF hS (ex_loadA (vs := [s5.v]) 2 0 Try.underlying25 rfl sz25 rfl rfl rfl rfl) rfl rfl fun a hF => ?_
    refine q_x (v := s6.v) hF hS (ex_move rfl) rfl rfl fun a hF => ?_
    refine q_x (v := (.agg #[(.int .i64 t_3.2.2.1.Level), s7.v, s8.v, (.int .i64 t_3.2.2.1.Sum)])) hF hS (ex_loadA (vs := [(.int .i64 t_3.2.2.1.Level), s7.v, s8.v, (.int .i64 t_3.2.2.1.Sum)]) 1 0 Try.underlying28 rfl sz28 rfl rfl rfl rfl) rfl rfl fun a hF => ?_
    refine q_x (v := s9.v) hF hS (ex_move rfl) rfl rfl fun a hF => ?_
    refine q_x (v := (.int .i64 t_3.2.2.2.2)) hF hS (ex_move rfl) rfl rfl fun a hF => ?_
    obtain ⟨m17, hl17, hv17, hz17⟩ := hS.lend
    obtain ⟨t_16, ht_16, hr⟩ := bindS hr
    refine q_call (vs := [(.agg #[s5.v]), s6.v, (.agg #[(.int .i64 t_3.2.2.1.Level), s7.v, s8.v, (.int .i64 t_3.2.2.1.Sum)]), s9.v, (.int .i64 t_3.2.2.2.2)]) hF hS Try.func7 (by kernel_rfl) rfl rfl rfl (c_spec_RecordsIn t_3.1 t_3.2.1 t_3.2.2.1 t_3.2.2.2.1 t_3.2.2.2.2 t_16 ht_16 _ m17 hv17 s5 (h5.froz hl17 (hz17 3 _ rfl)) s6 (h6.mono hl17) s7 (h7.froz hl17 (hz17 4 _ rfl)) s8 (h8.froz hl17 (hz17 5 _ rfl)) s9 (h9.froz hl17 (hz17 6 _ rfl))) ?_
    rintro a w _ ⟨q19, s19, rfl, hR18, h19⟩ hF hS2
    have hS : St _ _ _ _ [q19, q15, [⟨b11, [(.int .i64 t_3.2.2.1.Level), s7.v, s8.v, (.int .i64 t_3.2.2.1.Sum)], 28⟩], [⟨b10, [s5.v], 25⟩], q5, q7, q8, q9] := hS.joinF hR18
    have h19 := h19.any m4
    refine q_x (v := (.tuple #[s19.v, (.bool t_16.2)])) hF hS (ex_move rfl) rfl rfl fun a hF => ?_
    refine q_x (v := s19.v) hF hS (ex_extract rfl rfl) rfl rfl fun a hF => ?_
    refine q_x (v := (.bool t_16.2)) hF hS (ex_extract rfl rfl) rfl rfl fun a hF => ?_
    refine q_x (v := s19.v) hF hS (ex_assign rfl) rfl rfl fun a hF => ?_
    refine q_x (v := (.bool t_16.2)) hF hS (ex_assign rfl) rfl rfl fun a hF => ?_
    refine q_end (n_sq ?_)
    refine q_seq ?_
    refine q_region ?_
    refine q_x (v := s2.v) hF hS (ex_move rfl) rfl rfl fun a hF => ?_
    obtain ⟨t_20, ht_20, hr⟩ := bindS hr
    refine q_call (vs := [s2.v]) hF hS Try.func8 (by kernel_rfl) rfl rfl rfl (c_spec_DrawAddCells p_more t_20 ht_20 _ m4 hS.vis s2 (h2.mono hm4.le)) ?_
    rintro a w _ ⟨q22, q23, s22, s23, rfl, hR21, h22, h23⟩ hF hS2
    have hS : St _ _ _ _ [q22, q23, q19, q15, [⟨b11, [(.int .i64 t_3.2.2.1.Level), s7.v, s8.v, (.int .i64 t_3.2.2.1.Sum)], 28⟩], [⟨b10, [s5.v], 25⟩], q5, q7, q8, q9] := hS.joinF hR21
    refine q_x (v := (.tuple #[s22.v, s23.v])) hF hS (ex_move rfl) rfl rfl fun a hF => ?_
    refine q_x (v := s22.v) hF hS (ex_extract rfl rfl) rfl rfl fun a hF => ?_
    refine q_x (v := s23.v) hF hS (ex_extract rfl rfl) rfl rfl fun a hF => ?_
    refine q_x (v := s22.v) hF hS (ex_assign rfl) rfl rfl fun a hF => ?_
    refine q_x (v := s23.v) hF hS (ex_assign rfl) rfl rfl fun a hF => ?_
    refine q_end (n_sq ?_)
    refine q_seq ?_
    refine q_region ?_
    refine q_x (v := s22.v) hF hS (ex_move rfl) rfl rfl fun a hF => ?_
    refine q_x (v := s23.v) hF hS (ex_move rfl) rfl rfl fun a hF => ?_
    obtain ⟨m25, hl25, hv25, hz25⟩ := hS.lend
    obtain ⟨t_24, ht_24, hr⟩ := bindS hr
    refine q_call (vs := [s22.v, s23.v]) hF hS Try.func9 (by kernel_rfl) rfl rfl rfl (c_impl_AddCells t_20.1 t_20.2 t_24 ht_24 _ m25 hv25 s22 (h22.froz hl25 (hz25 0 _ rfl)) s23 (h23.froz hl25 (hz25 1 _ rfl))) ?_
    rintro a w _ ⟨q27, s27, rfl, hR26, h27⟩ hF hS2
    have hS : St _ _ _ _ [q27, q22, q23, q19, q15, [⟨b11, [(.int .i64 t_3.2.2.1.Level), s7.v, s8.v, (.int .i64 t_3.2.2.1.Sum)], 28⟩], [⟨b10, [s5.v], 25⟩], q5, q7, q8, q9] := hS.joinF hR26
    have h27 := h27.any m4
    refine q_x (v := (.tuple #[s27.v, (.bool t_24.2)])) hF hS (ex_move rfl) rfl rfl fun a hF => ?_
    refine q_x (v := s27.v) hF hS (ex_extract rfl rfl) rfl rfl fun a hF => ?_
    refine q_x (v := (.bool t_24.2)) hF hS (ex_extract rfl rfl) rfl rfl fun a hF => ?_
    refine q_x (v := s27.v) hF hS (ex_assign rfl) rfl rfl fun a hF => ?_
    refine q_x (v := (.bool t_24.2)) hF hS (ex_assign rfl) rfl rfl fun a hF => ?_
    refine q_end (n_sq ?_)
    refine q_seq ?_
    refine q_region ?_
    refine q_x (v := s22.v) hF hS (ex_move rfl) rfl rfl fun a hF => ?_
    refine q_x (v := s23.v) hF hS (ex_move rfl) rfl rfl fun a hF => ?_
    obtain ⟨m29, hl29, hv29, hz29⟩ := hS.lend
    obtain ⟨t_28, ht_28, hr⟩ := bindS hr
    refine q_call (vs := [s22.v, s23.v]) hF hS Try.func10 (by kernel_rfl) rfl rfl rfl (c_spec_AddCells t_20.1 t_20.2 t_28 ht_28 _ m29 hv29 s22 (h22.froz hl29 (hz29 1 _ rfl)) s23 (h23.froz hl29 (hz29 2 _ rfl))) ?_
    rintro a w _ ⟨q31, s31, rfl, hR30, h31⟩ hF hS2
    have hS : St _ _ _ _ [q31, q27, q22, q23, q19, q15, [⟨b11, [(.int .i64 t_3.2.2.1.Level), s7.v, s8.v, (.int .i64 t_3.2.2.1.Sum)], 28⟩], [⟨b10, [s5.v], 25⟩], q5, q7, q8, q9] := hS.joinF hR30
    have h31 := h31.any m4
    refine q_x (v := (.tuple #[s31.v, (.bool t_28.2)])) hF hS (ex_move rfl) rfl rfl fun a hF => ?_
    refine q_x (v := s31.v) hF hS (ex_extract rfl rfl) rfl rfl fun a hF => ?_
    refine q_x (v := (.bool t_28.2)) hF hS (ex_extract rfl rfl) rfl rfl fun a hF => ?_
    refine q_x (v := s31.v) hF hS (ex_assign rfl) rfl rfl fun a hF => ?_
    refine q_x (v := (.bool t_28.2)) hF hS (ex_assign rfl) rfl rfl fun a hF => ?_
    refine q_end (n_sq ?_)
    refine q_seq ?_
    refine q_seq ?_
    obtain ⟨t_36, hj2, hr⟩ := bindS hr
    refine q_join (fun a w => Fr a 183 [(5, (.pointer (some ⟨b10, 0, none⟩))), (6, s6.v), (7, (.pointer (some ⟨b11, 0, none⟩))), (8, s9.v), (9, (.int .i64 t_3.2.2.2.2)), (10, s15.v), (11, (.bool t_12.2)), (102, (.bool t_36))] ∧ St [] w0 w m4 [q9, q15, q7, q8, q5, [⟨b11, [(.int .i64 t_3.2.2.1.Level), s7.v, s8.v, (.int .i64 t_3.2.2.1.Sum)], 28⟩], [⟨b10, [s5.v], 25⟩]]) ?_ ?_
    · refine q_region ?_
      refine q_x (v := (.bool t_12.2)) hF hS (ex_move rfl) rfl rfl fun a hF => ?_
      refine q_x (v := (.bool t_16.2)) hF hS (ex_move rfl) rfl rfl fun a hF => ?_
      refine q_x (v := (.bool (t_12.2 != t_16.2))) hF hS (ex_bne Try.underlying4 rfl rfl) rfl rfl fun a hF => ?_
      refine q_x (v := (.bool (t_12.2 != t_16.2))) hF hS (ex_move rfl) rfl rfl fun a hF => ?_
      rcases bcase (t_12.2 != t_16.2) with hc3 | hc3
      · have hj2 := cond_f hc3 hj2
        refine q_xg (v := s15.v) hF hS (ex_move rfl) (wanted_t hF rfl rfl rfl hc3) rfl fun a hF => ?_
        refine q_xg (v := s19.v) hF hS (ex_move rfl) (wanted_t hF rfl rfl rfl hc3) rfl fun a hF => ?_
        obtain ⟨m33, hl33, hv33, hz33⟩ := hS.lend
        obtain ⟨t_32, ht_32, hj2⟩ := bindS hj2
        refine q_callg (vs := [s15.v, s19.v]) hF hS (wanted_t hF rfl rfl rfl hc3) Try.func11 (by kernel_rfl) rfl rfl rfl (c_laws_qInts t_12.1 t_16.1 t_32 ht_32 _ m33 hv33 s15 (h15.froz hl33 (hz33 5 _ rfl)) s19 (h19.froz hl33 (hz33 4 _ rfl))) ?_
        rintro a w _ rfl hF hS
        refine q_xg (v := (.bool (!t_32))) hF hS (ex_not rfl) (wanted_t hF rfl rfl rfl hc3) rfl fun a hF => ?_
        refine q_x (v := (.bool (!t_32))) hF hS (ex_pick_f rfl rfl hc3) rfl rfl fun a hF => ?_
        refine q_x (v := (.bool (!t_32))) hF hS (ex_move rfl) rfl rfl fun a hF => ?_
        rcases bcase (!t_32) with hc4 | hc4
        · have hj2 := cond_f hc4 hj2
          refine q_xg (v := (.bool t_24.2)) hF hS (ex_move rfl) (wanted_t hF rfl rfl rfl hc4) rfl fun a hF => ?_
          refine q_xg (v := (.bool t_28.2)) hF hS (ex_move rfl) (wanted_t hF rfl rfl rfl hc4) rfl fun a hF => ?_
          refine q_xg (v := (.bool (t_24.2 != t_28.2))) hF hS (ex_bne Try.underlying4 rfl rfl) (wanted_t hF rfl rfl rfl hc4) rfl fun a hF => ?_
          refine q_x (v := (.bool (t_24.2 != t_28.2))) hF hS (ex_pick_f rfl rfl hc4) rfl rfl fun a hF => ?_
          refine q_x (v := (.bool (t_24.2 != t_28.2))) hF hS (ex_move rfl) rfl rfl fun a hF => ?_
          rcases bcase (t_24.2 != t_28.2) with hc5 | hc5
          · have hj2 := cond_f hc5 hj2
            refine q_xg (v := s27.v) hF hS (ex_move rfl) (wanted_t hF rfl rfl rfl hc5) rfl fun a hF => ?_
            refine q_xg (v := s31.v) hF hS (ex_move rfl) (wanted_t hF rfl rfl rfl hc5) rfl fun a hF => ?_
            obtain ⟨m35, hl35, hv35, hz35⟩ := hS.lend
            obtain ⟨t_34, ht_34, hj2⟩ := bindS hj2
            refine q_callg (vs := [s27.v, s31.v]) hF hS (wanted_t hF rfl rfl rfl hc5) Try.func11 (by kernel_rfl) rfl rfl rfl (c_laws_qInts t_24.1 t_28.1 t_34 ht_34 _ m35 hv35 s27 (h27.froz hl35 (hz35 1 _ rfl)) s31 (h31.froz hl35 (hz35 0 _ rfl))) ?_
            rintro a w _ rfl hF hS
            refine q_xg (v := (.bool (!t_34))) hF hS (ex_not rfl) (wanted_t hF rfl rfl rfl hc5) rfl fun a hF => ?_
            refine q_x (v := (.bool (!t_34))) hF hS (ex_pick_f rfl rfl hc5) rfl rfl fun a hF => ?_
            refine q_end (n_jn ?_)
            obtain rfl := someI hj2
            exact ⟨hF.sub ⟨rfl, rfl, rfl, rfl, rfl, rfl, rfl, rfl, trivial⟩, hS.sel [11, 5, 9, 10, 8, 6, 7] (by decide)⟩
          · have hj2 := cond_t hc5 hj2
            refine q_skip hF (wanted_f hF rfl rfl rfl hc5 rfl) rfl fun a hF => ?_
            refine q_skip hF (wanted_f hF rfl rfl rfl hc5 rfl) rfl fun a hF => ?_
            refine q_skip hF (wanted_f hF rfl rfl rfl hc5 rfl) rfl fun a hF => ?_
            refine q_skip hF (wanted_f hF rfl rfl rfl hc5 rfl) rfl fun a hF => ?_
            refine q_x (v := (.bool true)) hF hS (ex_pick_t rfl rfl hc5) rfl rfl fun a hF => ?_
            refine q_end (n_jn ?_)
            obtain rfl := someI hj2
            exact ⟨hF.sub ⟨rfl, rfl, rfl, rfl, rfl, rfl, rfl, rfl, trivial⟩, hS.sel [11, 5, 9, 10, 8, 6, 7] (by decide)⟩
        · have hj2 := cond_t hc4 hj2
          refine q_skip hF (wanted_f hF rfl rfl rfl hc4 rfl) rfl fun a hF => ?_
          refine q_skip hF (wanted_f hF rfl rfl rfl hc4 rfl) rfl fun a hF => ?_
          refine q_skip hF (wanted_f hF rfl rfl rfl hc4 rfl) rfl fun a hF => ?_
          refine q_x (v := (.bool true)) hF hS (ex_pick_t rfl rfl hc4) rfl rfl fun a hF => ?_
          refine q_x (v := (.bool true)) hF hS (ex_move rfl) rfl rfl fun a hF => ?_
          refine q_skip hF (wanted_f hF rfl rfl rfl rfl rfl) rfl fun a hF => ?_
          refine q_skip hF (wanted_f hF rfl rfl rfl rfl rfl) rfl fun a hF => ?_
          refine q_skip hF (wanted_f hF rfl rfl rfl rfl rfl) rfl fun a hF => ?_
          refine q_skip hF (wanted_f hF rfl rfl rfl rfl rfl) rfl fun a hF => ?_
          refine q_x (v := (.bool true)) hF hS (ex_pick_t rfl rfl rfl) rfl rfl fun a hF => ?_
          refine q_end (n_jn ?_)
          obtain rfl := someI hj2
          exact ⟨hF.sub ⟨rfl, rfl, rfl, rfl, rfl, rfl, rfl, rfl, trivial⟩, hS.sel [11, 5, 9, 10, 8, 6, 7] (by decide)⟩
      · have hj2 := cond_t hc3 hj2
        refine q_skip hF (wanted_f hF rfl rfl rfl hc3 rfl) rfl fun a hF => ?_
        refine q_skip hF (wanted_f hF rfl rfl rfl hc3 rfl) rfl fun a hF => ?_
        refine q_skip hF (wanted_f hF rfl rfl rfl hc3 rfl) rfl fun a hF => ?_
        refine q_skip hF (wanted_f hF rfl rfl rfl hc3 rfl) rfl fun a hF => ?_
        refine q_x (v := (.bool true)) hF hS (ex_pick_t rfl rfl hc3) rfl rfl fun a hF => ?_
        refine q_x (v := (.bool true)) hF hS (ex_move rfl) rfl rfl fun a hF => ?_
        refine q_skip hF (wanted_f hF rfl rfl rfl rfl rfl) rfl fun a hF => ?_
        refine q_skip hF (wanted_f hF rfl rfl rfl rfl rfl) rfl fun a hF => ?_
        refine q_skip hF (wanted_f hF rfl rfl rfl rfl rfl) rfl fun a hF => ?_
        refine q_x (v := (.bool true)) hF hS (ex_pick_t rfl rfl rfl) rfl rfl fun a hF => ?_
        refine q_x (v := (.bool true)) hF hS (ex_move rfl) rfl rfl fun a hF => ?_
        refine q_skip hF (wanted_f hF rfl rfl rfl rfl rfl) rfl fun a hF => ?_
        refine q_skip hF (wanted_f hF rfl rfl rfl rfl rfl) rfl fun a hF => ?_
        refine q_skip hF (wanted_f hF rfl rfl rfl rfl rfl) rfl fun a hF => ?_
        refine q_skip hF (wanted_f hF rfl rfl rfl rfl rfl) rfl fun a hF => ?_
        refine q_x (v := (.bool true)) hF hS (ex_pick_t rfl rfl rfl) rfl rfl fun a hF => ?_
        refine q_end (n_jn ?_)
        obtain rfl := someI hj2
        exact ⟨hF.sub ⟨rfl, rfl, rfl, rfl, rfl, rfl, rfl, rfl, trivial⟩, hS.sel [11, 5, 9, 10, 8, 6, 7] (by decide)⟩
    · rintro a w ⟨hF, hS⟩
      refine n_sq ?_
      rcases bcase (t_36) with hc6 | hc6
      · have hr := cond_f hc6 hr
        refine q_cond_f hF rfl hc6 ?_
        refine q_skipc (n_sq ?_)
        refine q_seq ?_
        refine q_seq ?_
        refine q_region ?_
        refine q_x (v := (.bool t_12.2)) hF hS (ex_move rfl) rfl rfl fun a hF => ?_
        refine q_x (v := (.bool (!t_12.2))) hF hS (ex_not rfl) rfl rfl fun a hF => ?_
        refine q_end (n_sq ?_)
        rcases bcase (!t_12.2) with hc7 | hc7
        · have hr := cond_f hc7 hr
          refine q_cond_f hF rfl hc7 ?_
          refine q_skipc (n_sq ?_)
          refine q_seq ?_
          refine q_seq ?_
          refine q_region ?_
          refine q_x (v := s15.v) hF hS (ex_move rfl) rfl rfl fun a hF => ?_
          refine q_x (v := (.int .i64 (goLen t_12.1))) hF hS (ex_len Try.underlying23 rfl h15.len) rfl rfl fun a hF => ?_
          refine q_x (v := (.int .i64 0)) hF hS (ex_move rfl) rfl rfl fun a hF => ?_
          refine q_end (n_sq ?_)
          refine q_block ?_
          obtain ⟨o8, hl8, hr⟩ := bindS hr
          refine q_loop (fun (t_37 : Int) a w => Fr a 183 [(5, (.pointer (some ⟨b10, 0, none⟩))), (6, s6.v), (7, (.pointer (some ⟨b11, 0, none⟩))), (8, s9.v), (9, (.int .i64 t_3.2.2.2.2)), (105, s15.v), (106, (.int .i64 (goLen t_12.1))), (107, (.int .i64 t_37))] ∧ St [] w0 w m4 [q9, q15, q7, q8, q5, [⟨b11, [(.int .i64 t_3.2.2.1.Level), s7.v, s8.v, (.int .i64 t_3.2.2.1.Sum)], 28⟩], [⟨b10, [s5.v], 25⟩]]) (fun (o : (Unit) ⊕ (Bool)) e a w => o = .inl () ∧ e = .exit 0 ∧ Fr a 183 [(5, (.pointer (some ⟨b10, 0, none⟩))), (6, s6.v), (7, (.pointer (some ⟨b11, 0, none⟩))), (8, s9.v)] ∧ St [] w0 w m4 [q9, q7, q8, q5, [⟨b11, [(.int .i64 t_3.2.2.1.Level), s7.v, s8.v, (.int .i64 t_3.2.2.1.Sum)], 28⟩], [⟨b10, [s5.v], 25⟩]]) hl8 ⟨hF.sub ⟨rfl, rfl, rfl, rfl, rfl, rfl, rfl, rfl, trivial⟩, hS⟩ ?_ ?_
          · clear hF hS
            rintro t_37 a w st ⟨hF, hS⟩ hb8
            unfold laws_FnCellRecords_l1 at hb8
            refine q_seq ?_
            refine q_region ?_
            refine q_x (v := (.bool (decide (t_37 < (goLen t_12.1))))) hF hS (ex_ibin rfl rfl rfl) rfl rfl fun a hF => ?_
            refine q_end (n_sq ?_)
            refine q_seq ?_
            rcases bcase (decide (t_37 < (goLen t_12.1))) with hc9 | hc9
            · have hb8 := cond_f hc9 hb8
              refine q_cond_f hF rfl hc9 ?_
              refine q_exit (x_sq ?_)
              obtain rfl := someI hb8
              exact ⟨nofun, .inl ⟨rfl, rfl, hF.sub ⟨rfl, rfl, rfl, rfl, trivial⟩, hS.mask [true, false, true, true, true, true, true]⟩⟩
            · have hb8 := cond_t hc9 hb8
              refine q_cond_t hF rfl hc9 ?_
              refine q_skipc (n_sq ?_)
              refine q_seq ?_
              refine q_block ?_
              refine q_seq ?_
              refine q_region ?_
              obtain ⟨e_38, he_38, hb8⟩ := bindS hb8
              obtain ⟨vs39, at39, d39⟩ := h15.at he_38 1 rfl
              obtain rfl : vs39 = [(.int .i64 e_38)] := d39
              refine q_x (v := (elP s15 (t_37.toNat * 1))) hF hS (ex_indexAddr Try.underlying23 sz3 rfl rfl (h15.idx he_38)) rfl rfl fun a hF => ?_
              refine q_x (v := (.int .i64 e_38)) hF hS (ex_loadE1 0 Try.underlying3 rfl rfl (at39.at 1 rfl) rfl rfl) rfl rfl fun a hF => ?_
              refine q_x (v := (.int .i64 e_38)) hF hS (ex_assign rfl) rfl rfl fun a hF => ?_
              refine q_end (n_sq ?_)
              refine q_seq ?_
              refine e_region ⟨[], []⟩ mixed fun w' hw' => ?_
              have hS := hS.below hw'
              refine e_x (v := (.agg #[s5.v])) 0 hF hS rfl (ex_loadA (vs := [s5.v]) 6 0 Try.underlying25 rfl sz25 rfl rfl rfl rfl) rfl rfl (by kernel_rfl) (by kernel_rfl) (by kernel_rfl) (by kernel_rfl) fun a hF => ?_
              refine e_p (v := s6.v) 1 hF rfl (ex_move rfl) rfl rfl (by kernel_rfl) (by kernel_rfl) (by kernel_rfl) fun a hF => ?_
              refine e_x (v := (.agg #[(.int .i64 t_3.2.2.1.Level), s7.v, s8.v, (.int .i64 t_3.2.2.1.Sum)])) 2 hF hS rfl (ex_loadA (vs := [(.int .i64 t_3.2.2.1.Level), s7.v, s8.v, (.int .i64 t_3.2.2.1.Sum)]) 5 0 Try.underlying28 rfl sz28 rfl rfl rfl rfl) rfl rfl (by kernel_rfl) (by kernel_rfl) (by kernel_rfl) (by kernel_rfl) fun a hF => ?_
              refine e_p (v := s9.v) 3 hF rfl (ex_move rfl) rfl rfl (by kernel_rfl) (by kernel_rfl) (by kernel_rfl) fun a hF => ?_
              refine e_p (v := (.int .i64 e_38)) 4 hF rfl (ex_move rfl) rfl rfl (by kernel_rfl) (by kernel_rfl) (by kernel_rfl) fun a hF => ?_
              obtain ⟨e_40, he_40, hb8⟩ := bindS hb8
              obtain ⟨vs41, at41, d41⟩ := h9.at he_40 3 rfl
              obtain ⟨s42, rfl, h42⟩ : ∃ s42 : Sl, vs41 = [(.int .i64 e_40.Area), (.int .i64 e_40.House), s42.v] ∧ Rd m4 s42 e_40.Values := d41
              refine e_p (v := (elP s9 (e_38.toNat * 3))) 5 hF rfl (ex_indexAddr Try.underlying29 sz41 rfl rfl (h9.idx he_40)) rfl rfl (by kernel_rfl) (by kernel_rfl) (by kernel_rfl) fun a hF => ?_
              refine e_x (v := (.agg #[(.int .i64 e_40.Area), (.int .i64 e_40.House), s42.v])) 6 hF hS rfl (ex_loadEA (us := [(.int .i64 e_40.Area), (.int .i64 e_40.House), s42.v]) 0 Try.underlying41 rfl sz41 rfl (at41.at 0 rfl) rfl rfl rfl) rfl rfl (by kernel_rfl) (by kernel_rfl) (by kernel_rfl) (by kernel_rfl) fun a hF => ?_
              refine e_one 7 (by kernel_rfl) ?_
              obtain ⟨m44, hl44, hv44, hz44⟩ := hS.lend
              obtain ⟨t_43, ht_43, hb8⟩ := bindS hb8
              refine e_call (vs := [(.agg #[s5.v]), s6.v, (.agg #[(.int .i64 t_3.2.2.1.Level), s7.v, s8.v, (.int .i64 t_3.2.2.1.Sum)]), (.agg #[(.int .i64 e_40.Area), (.int .i64 e_40.House), s42.v])]) hF hS rfl Try.func12 (by kernel_rfl) rfl rfl rfl (c_impl_ContributionOf t_3.1 t_3.2.1 t_3.2.2.1 e_40 t_43 ht_43 _ m44 hv44 s5 (h5.froz hl44 (hz44 4 _ rfl)) s6 (h6.mono hl44) s7 (h7.froz hl44 (hz44 2 _ rfl)) s8 (h8.froz hl44 (hz44 3 _ rfl)) s42 (h42.mono hl44)) ?_
              rintro a w _ rfl hF hS
              refine e_p (v := (.tuple #[(.int .i64 t_43.1), (.int .i64 t_43.2.1), (.bool t_43.2.2)])) 8 hF rfl (ex_move rfl) rfl rfl (by kernel_rfl) (by kernel_rfl) (by kernel_rfl) fun a hF => ?_
              refine e_p (v := (.int .i64 t_43.1)) 9 hF rfl (ex_extract rfl rfl) rfl rfl (by kernel_rfl) (by kernel_rfl) (by kernel_rfl) fun a hF => ?_
              refine e_p (v := (.int .i64 t_43.2.1)) 10 hF rfl (ex_extract rfl rfl) rfl rfl (by kernel_rfl) (by kernel_rfl) (by kernel_rfl) fun a hF => ?_
              refine e_p (v := (.bool t_43.2.2)) 11 hF rfl (ex_extract rfl rfl) rfl rfl (by kernel_rfl) (by kernel_rfl) (by kernel_rfl) fun a hF => ?_
              refine e_p (v := (.int .i64 t_43.1)) 12 hF rfl (ex_assign rfl) rfl rfl (by kernel_rfl) (by kernel_rfl) (by kernel_rfl) fun a hF => ?_
              refine e_p (v := (.int .i64 t_43.2.1)) 13 hF rfl (ex_assign rfl) rfl rfl (by kernel_rfl) (by kernel_rfl) (by kernel_rfl) fun a hF => ?_
              refine e_p (v := (.bool t_43.2.2)) 14 hF rfl (ex_assign rfl) rfl rfl (by kernel_rfl) (by kernel_rfl) (by kernel_rfl) fun a hF => ?_
              refine e_end (by kernel_rfl) (n_sq ?_) _
              refine q_seq ?_
              obtain ⟨t_45, hj10, hb8⟩ := bindS hb8
              refine q_join (fun a w => Fr a 183 [(5, (.pointer (some ⟨b10, 0, none⟩))), (6, s6.v), (7, (.pointer (some ⟨b11, 0, none⟩))), (8, s9.v), (9, (.int .i64 t_3.2.2.2.2)), (105, s15.v), (106, (.int .i64 (goLen t_12.1))), (107, (.int .i64 t_37)), (129, (.bool t_45))] ∧ St [] w0 w m4 [q9, q15, q7, q8, q5, [⟨b11, [(.int .i64 t_3.2.2.1.Level), s7.v, s8.v, (.int .i64 t_3.2.2.1.Sum)], 28⟩], [⟨b10, [s5.v], 25⟩]]) ?_ ?_
              · refine q_region ?_
                refine q_x (v := (.bool t_43.2.2)) hF hS (ex_move rfl) rfl rfl fun a hF => ?_
                refine q_x (v := (.bool (!t_43.2.2))) hF hS (ex_not rfl) rfl rfl fun a hF => ?_
                refine q_x (v := (.bool (!t_43.2.2))) hF hS (ex_move rfl) rfl rfl fun a hF => ?_
                rcases bcase (!t_43.2.2) with hc11 | hc11
                · have hj10 := cond_f hc11 hj10
                  refine q_xg (v := (.int .i64 t_43.1)) hF hS (ex_move rfl) (wanted_t hF rfl rfl rfl hc11) rfl fun a hF => ?_
                  refine q_xg (v := (.int .i64 t_3.2.2.2.2)) hF hS (ex_move rfl) (wanted_t hF rfl rfl rfl hc11) rfl fun a hF => ?_
                  refine q_xg (v := (.bool (t_43.1 != t_3.2.2.2.2))) hF hS (ex_ibin rfl rfl rfl) (wanted_t hF rfl rfl rfl hc11) rfl fun a hF => ?_
                  refine q_x (v := (.bool (t_43.1 != t_3.2.2.2.2))) hF hS (ex_pick_f rfl rfl hc11) rfl rfl fun a hF => ?_
                  refine q_end (n_jn ?_)
                  obtain rfl := someI hj10
                  exact ⟨hF.sub ⟨rfl, rfl, rfl, rfl, rfl, rfl, rfl, rfl, rfl, trivial⟩, hS⟩
                · have hj10 := cond_t hc11 hj10
                  refine q_skip hF (wanted_f hF rfl rfl rfl hc11 rfl) rfl fun a hF => ?_
                  refine q_skip hF (wanted_f hF rfl rfl rfl hc11 rfl) rfl fun a hF => ?_
                  refine q_skip hF (wanted_f hF rfl rfl rfl hc11 rfl) rfl fun a hF => ?_
                  refine q_x (v := (.bool true)) hF hS (ex_pick_t rfl rfl hc11) rfl rfl fun a hF => ?_
                  refine q_end (n_jn ?_)
                  obtain rfl := someI hj10
                  exact ⟨hF.sub ⟨rfl, rfl, rfl, rfl, rfl, rfl, rfl, rfl, rfl, trivial⟩, hS⟩
              · rintro a w ⟨hF, hS⟩
                refine n_sq ?_
                rcases bcase (t_45) with hc12 | hc12
                · have hb8 := cond_f hc12 hb8
                  refine q_cond_f hF rfl hc12 ?_
                  refine q_skipc (n_ib (n_sq ?_))
                  refine q_region ?_
                  refine q_x (v := (.int .i64 (w64 (t_37 + 1)))) hF hS (ex_ibin rfl rfl rfl) rfl rfl fun a hF => ?_
                  refine q_x (v := (.int .i64 (w64 (t_37 + 1)))) hF hS (ex_move rfl) rfl rfl fun a hF => ?_
                  refine q_end ?_
                  obtain rfl := someI hb8
                  exact ⟨rfl, hF.sub ⟨rfl, rfl, rfl, rfl, rfl, rfl, rfl, rfl, trivial⟩, hS⟩
                · have hb8 := cond_t hc12 hb8
                  refine q_cond_t hF rfl hc12 ?_
                  refine q_seq ?_
                  refine q_region ?_
                  refine q_x (v := (.bool false)) hF hS (ex_assign rfl) rfl rfl fun a hF => ?_
                  refine q_end (n_sq (q_ret (r_ib (r_sq ?_))))
                  obtain rfl := someI hb8
                  refine ⟨nofun, .inr fun ho => ?_⟩
                  subst ho
                  refine r_ib (r_sq ?_)
                  obtain rfl := someI hr
                  exact ret_of hF hS rfl (.tmp rfl .nil) rfl
          · rintro e a w ⟨rfl, rfl, hF, hS⟩
            refine x_ib (n_sq ?_)
            refine q_seq ?_
            refine q_region ?_
            refine q_x (v := s9.v) hF hS (ex_move rfl) rfl rfl fun a hF => ?_
            refine q_x (v := (.int .i64 (goLen t_3.2.2.2.1))) hF hS (ex_len Try.underlying29 rfl h9.len) rfl rfl fun a hF => ?_
            obtain ⟨t_46, ht_46, hr⟩ := bindS hr
            refine q_x (v := (.int .i64 t_46)) hF hS (ex_quo rfl rfl ht_46) rfl rfl fun a hF => ?_
            refine q_x (v := (.int .i64 t_46)) hF hS (ex_assign rfl) rfl rfl fun a hF => ?_
            refine q_end (n_sq ?_)
            refine q_seq ?_
            refine e_region ⟨[], []⟩ mixed fun w' hw' => ?_
            have hS := hS.below hw'
            refine e_x (v := (.agg #[s5.v])) 0 hF hS rfl (ex_loadA (vs := [s5.v]) 5 0 Try.underlying25 rfl sz25 rfl rfl rfl rfl) rfl rfl (by kernel_rfl) (by kernel_rfl) (by kernel_rfl) (by kernel_rfl) fun a hF => ?_
            refine e_p (v := s6.v) 1 hF rfl (ex_move rfl) rfl rfl (by kernel_rfl) (by kernel_rfl) (by kernel_rfl) fun a hF => ?_
            refine e_x (v := (.agg #[(.int .i64 t_3.2.2.1.Level), s7.v, s8.v, (.int .i64 t_3.2.2.1.Sum)])) 2 hF hS rfl (ex_loadA (vs := [(.int .i64 t_3.2.2.1.Level), s7.v, s8.v, (.int .i64 t_3.2.2.1.Sum)]) 4 0 Try.underlying28 rfl sz28 rfl rfl rfl rfl) rfl rfl (by kernel_rfl) (by kernel_rfl) (by kernel_rfl) (by kernel_rfl) fun a hF => ?_
            refine e_p (v := s9.v) 3 hF rfl (ex_move rfl) rfl rfl (by kernel_rfl) (by kernel_rfl) (by kernel_rfl) fun a hF => ?_
            refine e_p (v := (.int .i64 t_46)) 4 hF rfl (ex_move rfl) rfl rfl (by kernel_rfl) (by kernel_rfl) (by kernel_rfl) fun a hF => ?_
            obtain ⟨l_47, hl_47, hr⟩ := bindS hr
            have h48 : OwnL m4 41 q9 (subS s9 3 (0 : Int).toNat t_46.toNat s9.cap) l_47 := h9.sub0 hl_47
            refine e_p (v := (subS s9 3 (0 : Int).toNat t_46.toNat s9.cap).v) 5 hF rfl (ex_slice Try.underlying29 sz41 rfl rfl rfl (.inl ⟨rfl, rfl⟩) (.inr ⟨_, rfl⟩) (h9.subok hl_47)) rfl rfl (by kernel_rfl) (by kernel_rfl) (by kernel_rfl) fun a hF => ?_
            refine e_one 6 (by kernel_rfl) ?_
            obtain ⟨m50, hl50, hv50, hz50⟩ := hS.lend
            obtain ⟨t_49, ht_49, hr⟩ := bindS hr
            refine e_call (vs := [(.agg #[s5.v]), s6.v, (.agg #[(.int .i64 t_3.2.2.1.Level), s7.v, s8.v, (.int .i64 t_3.2.2.1.Sum)]), (subS s9 3 (0 : Int).toNat t_46.toNat s9.cap).v]) hF hS rfl Try.func13 (by kernel_rfl) rfl rfl rfl (c_impl_TableOf t_3.1 t_3.2.1 t_3.2.2.1 l_47 t_49 ht_49 _ m50 hv50 s5 (h5.froz hl50 (hz50 3 _ rfl)) s6 (h6.mono hl50) s7 (h7.froz hl50 (hz50 1 _ rfl)) s8 (h8.froz hl50 (hz50 2 _ rfl)) (subS s9 3 (0 : Int).toNat t_46.toNat s9.cap) (h48.froz hl50 (hz50 0 _ rfl))) ?_
            rintro a w _ ⟨q52, s52, rfl, hR51, h52⟩ hF hS2
            have hS : St _ _ _ _ [q52, q9, q7, q8, q5, [⟨b11, [(.int .i64 t_3.2.2.1.Level), s7.v, s8.v, (.int .i64 t_3.2.2.1.Sum)], 28⟩], [⟨b10, [s5.v], 25⟩]] := hS.joinF hR51
            have h52 := h52.any m4
            refine e_p (v := (.tuple #[s52.v, (.bool t_49.2)])) 7 hF rfl (ex_move rfl) rfl rfl (by kernel_rfl) (by kernel_rfl) (by kernel_rfl) fun a hF => ?_
            refine e_p (v := s52.v) 8 hF rfl (ex_extract rfl rfl) rfl rfl (by kernel_rfl) (by kernel_rfl) (by kernel_rfl) fun a hF => ?_
            refine e_p (v := (.bool t_49.2)) 9 hF rfl (ex_extract rfl rfl) rfl rfl (by kernel_rfl) (by kernel_rfl) (by kernel_rfl) fun a hF => ?_
            refine e_p (v := s52.v) 10 hF rfl (ex_assign rfl) rfl rfl (by kernel_rfl) (by kernel_rfl) (by kernel_rfl) fun a hF => ?_
            refine e_p (v := (.bool t_49.2)) 11 hF rfl (ex_assign rfl) rfl rfl (by kernel_rfl) (by kernel_rfl) (by kernel_rfl) fun a hF => ?_
            refine e_end (by kernel_rfl) (n_sq ?_) _
            refine q_seq ?_
            refine e_region ⟨[], []⟩ mixed fun w' hw' => ?_
            have hS := hS.below hw'
            refine e_x (v := (.agg #[s5.v])) 0 hF hS rfl (ex_loadA (vs := [s5.v]) 6 0 Try.underlying25 rfl sz25 rfl rfl rfl rfl) rfl rfl (by kernel_rfl) (by kernel_rfl) (by kernel_rfl) (by kernel_rfl) fun a hF => ?_
            refine e_p (v := s6.v) 1 hF rfl (ex_move rfl) rfl rfl (by kernel_rfl) (by kernel_rfl) (by kernel_rfl) fun a hF => ?_
            refine e_x (v := (.agg #[(.int .i64 t_3.2.2.1.Level), s7.v, s8.v, (.int .i64 t_3.2.2.1.Sum)])) 2 hF hS rfl (ex_loadA (vs := [(.int .i64 t_3.2.2.1.Level), s7.v, s8.v, (.int .i64 t_3.2.2.1.Sum)]) 5 0 Try.underlying28 rfl sz28 rfl rfl rfl rfl) rfl rfl (by kernel_rfl) (by kernel_rfl) (by kernel_rfl) (by kernel_rfl) fun a hF => ?_
            refine e_p (v := s9.v) 3 hF rfl (ex_move rfl) rfl rfl (by kernel_rfl) (by kernel_rfl) (by kernel_rfl) fun a hF => ?_
            refine e_p (v := (.int .i64 t_46)) 4 hF rfl (ex_move rfl) rfl rfl (by kernel_rfl) (by kernel_rfl) (by kernel_rfl) fun a hF => ?_
            have hS : St _ _ _ _ [q9, q52, q7, q8, q5, [⟨b11, [(.int .i64 t_3.2.2.1.Level), s7.v, s8.v, (.int .i64 t_3.2.2.1.Sum)], 28⟩], [⟨b10, [s5.v], 25⟩]] := hS.sel [1, 0, 2, 3, 4, 5, 6] (by decide)
            obtain ⟨m53, hm53, hS, hz53⟩ := hS.freeze
            have h53 := h9.froz hm53.le hz53
            have h53_1 := (h48.froz hm53.le (hz53))
            obtain ⟨l_54, hl_54, hr⟩ := bindS hr
            have h55 : Rd m53 (subS s9 3 (t_46 : Int).toNat (goLen t_3.2.2.2.1).toNat s9.cap) l_54 := h53.sub' hl_54 3 rfl
            refine e_p (v := (subS s9 3 (t_46 : Int).toNat (goLen t_3.2.2.2.1).toNat s9.cap).v) 5 hF rfl (ex_slice Try.underlying29 sz41 rfl rfl rfl (.inr ⟨_, rfl⟩) (.inl ⟨rfl, h53.jlen⟩) (h53.subok hl_54)) rfl rfl (by kernel_rfl) (by kernel_rfl) (by kernel_rfl) fun a hF => ?_
            refine e_one 6 (by kernel_rfl) ?_
            obtain ⟨m57, hl57, hv57, hz57⟩ := hS.lend
            obtain ⟨t_56, ht_56, hr⟩ := bindS hr
            refine e_call (vs := [(.agg #[s5.v]), s6.v, (.agg #[(.int .i64 t_3.2.2.1.Level), s7.v, s8.v, (.int .i64 t_3.2.2.1.Sum)]), (subS s9 3 (t_46 : Int).toNat (goLen t_3.2.2.2.1).toNat s9.cap).v]) hF hS rfl Try.func13 (by kernel_rfl) rfl rfl rfl (c_impl_TableOf t_3.1 t_3.2.1 t_3.2.2.1 l_54 t_56 ht_56 _ m57 hv57 s5 ((h5.mono hm53.le).froz hl57 (hz57 3 _ rfl)) s6 ((h6.mono hm53.le).mono hl57) s7 ((h7.mono hm53.le).froz hl57 (hz57 1 _ rfl)) s8 ((h8.mono hm53.le).froz hl57 (hz57 2 _ rfl)) (subS s9 3 (t_46 : Int).toNat (goLen t_3.2.2.2.1).toNat s9.cap) (h55.mono hl57)) ?_
            rintro a w _ ⟨q59, s59, rfl, hR58, h59⟩ hF hS2
            have hS : St _ _ _ _ [q59, q52, q7, q8, q5, [⟨b11, [(.int .i64 t_3.2.2.1.Level), s7.v, s8.v, (.int .i64 t_3.2.2.1.Sum)], 28⟩], [⟨b10, [s5.v], 25⟩]] := hS.joinF hR58
            have h59 := h59.any m53
            refine e_p (v := (.tuple #[s59.v, (.bool t_56.2)])) 7 hF rfl (ex_move rfl) rfl rfl (by kernel_rfl) (by kernel_rfl) (by kernel_rfl) fun a hF => ?_
            refine e_p (v := s59.v) 8 hF rfl (ex_extract rfl rfl) rfl rfl (by kernel_rfl) (by kernel_rfl) (by kernel_rfl) fun a hF => ?_
            refine e_p (v := (.bool t_56.2)) 9 hF rfl (ex_extract rfl rfl) rfl rfl (by kernel_rfl) (by kernel_rfl) (by kernel_rfl) fun a hF => ?_
            refine e_p (v := s59.v) 10 hF rfl (ex_assign rfl) rfl rfl (by kernel_rfl) (by kernel_rfl) (by kernel_rfl) fun a hF => ?_
            refine e_p (v := (.bool t_56.2)) 11 hF rfl (ex_assign rfl) rfl rfl (by kernel_rfl) (by kernel_rfl) (by kernel_rfl) fun a hF => ?_
            refine e_end (by kernel_rfl) (n_sq ?_) _
            refine q_seq ?_
            refine q_region ?_
            refine q_x (v := s52.v) hF hS (ex_move rfl) rfl rfl fun a hF => ?_
            refine q_x (v := s59.v) hF hS (ex_move rfl) rfl rfl fun a hF => ?_
            obtain ⟨m61, hl61, hv61, hz61⟩ := hS.lend
            obtain ⟨t_60, ht_60, hr⟩ := bindS hr
            refine q_call (vs := [s52.v, s59.v]) hF hS Try.func9 (by kernel_rfl) rfl rfl rfl (c_impl_AddCells t_49.1 t_56.1 t_60 ht_60 _ m61 hv61 s52 ((h52.mono hm53.le).froz hl61 (hz61 1 _ rfl)) s59 (h59.froz hl61 (hz61 0 _ rfl))) ?_
            rintro a w _ ⟨q63, s63, rfl, hR62, h63⟩ hF hS2
            have hS : St _ _ _ _ [q63, q59, q52, q7, q8, q5, [⟨b11, [(.int .i64 t_3.2.2.1.Level), s7.v, s8.v, (.int .i64 t_3.2.2.1.Sum)], 28⟩], [⟨b10, [s5.v], 25⟩]] := hS.joinF hR62
            have h63 := h63.any m53
            refine q_x (v := (.tuple #[s63.v, (.bool t_60.2)])) hF hS (ex_move rfl) rfl rfl fun a hF => ?_
            refine q_x (v := s63.v) hF hS (ex_extract rfl rfl) rfl rfl fun a hF => ?_
            refine q_x (v := (.bool t_60.2)) hF hS (ex_extract rfl rfl) rfl rfl fun a hF => ?_
            refine q_x (v := s63.v) hF hS (ex_assign rfl) rfl rfl fun a hF => ?_
            refine q_x (v := (.bool t_60.2)) hF hS (ex_assign rfl) rfl rfl fun a hF => ?_
            refine q_end (n_sq ?_)
            refine q_seq ?_
            refine q_region ?_
            refine q_x (v := (.agg #[s5.v])) hF hS (ex_loadA (vs := [s5.v]) 7 0 Try.underlying25 rfl sz25 rfl rfl rfl rfl) rfl rfl fun a hF => ?_
            refine q_x (v := s6.v) hF hS (ex_move rfl) rfl rfl fun a hF => ?_
            refine q_x (v := (.agg #[(.int .i64 t_3.2.2.1.Level), s7.v, s8.v, (.int .i64 t_3.2.2.1.Sum)])) hF hS (ex_loadA (vs := [(.int .i64 t_3.2.2.1.Level), s7.v, s8.v, (.int .i64 t_3.2.2.1.Sum)]) 6 0 Try.underlying28 rfl sz28 rfl rfl rfl rfl) rfl rfl fun a hF => ?_
            refine q_x (v := s9.v) hF hS (ex_move rfl) rfl rfl fun a hF => ?_
            obtain ⟨m65, hl65, hv65, hz65⟩ := hS.lend
            obtain ⟨t_64, ht_64, hr⟩ := bindS hr
            refine q_call (vs := [(.agg #[s5.v]), s6.v, (.agg #[(.int .i64 t_3.2.2.1.Level), s7.v, s8.v, (.int .i64 t_3.2.2.1.Sum)]), s9.v]) hF hS Try.func13 (by kernel_rfl) rfl rfl rfl (c_impl_TableOf t_3.1 t_3.2.1 t_3.2.2.1 t_3.2.2.2.1 t_64 ht_64 _ m65 hv65 s5 ((h5.mono hm53.le).froz hl65 (hz65 5 _ rfl)) s6 ((h6.mono hm53.le).mono hl65) s7 ((h7.mono hm53.le).froz hl65 (hz65 3 _ rfl)) s8 ((h8.mono hm53.le).froz hl65 (hz65 4 _ rfl)) s9 (h53.mono hl65)) ?_
            rintro a w _ ⟨q67, s67, rfl, hR66, h67⟩ hF hS2
            have hS : St _ _ _ _ [q67, q63, q59, q52, q7, q8, q5, [⟨b11, [(.int .i64 t_3.2.2.1.Level), s7.v, s8.v, (.int .i64 t_3.2.2.1.Sum)], 28⟩], [⟨b10, [s5.v], 25⟩]] := hS.joinF hR66
            have h67 := h67.any m53
            refine q_x (v := (.tuple #[s67.v, (.bool t_64.2)])) hF hS (ex_move rfl) rfl rfl fun a hF => ?_
            refine q_x (v := s67.v) hF hS (ex_extract rfl rfl) rfl rfl fun a hF => ?_
            refine q_x (v := (.bool t_64.2)) hF hS (ex_extract rfl rfl) rfl rfl fun a hF => ?_
            refine q_x (v := s67.v) hF hS (ex_assign rfl) rfl rfl fun a hF => ?_
            refine q_x (v := (.bool t_64.2)) hF hS (ex_assign rfl) rfl rfl fun a hF => ?_
            refine q_end (n_sq ?_)
            refine q_seq ?_
            obtain ⟨t_70, hj13, hr⟩ := bindS hr
            refine q_join (fun a w => Fr a 183 [(4, (.bool t_70))] ∧ St [] w0 w m53 []) ?_ ?_
            · refine q_region ?_
              refine q_x (v := (.bool t_49.2)) hF hS (ex_move rfl) rfl rfl fun a hF => ?_
              refine q_x (v := (.bool t_49.2)) hF hS (ex_move rfl) rfl rfl fun a hF => ?_
              rcases bcase (t_49.2) with hc14 | hc14
              · have hj13 := cond_f hc14 hj13
                refine q_skip hF (wanted_f hF rfl rfl rfl hc14 rfl) rfl fun a hF => ?_
                refine q_x (v := (.bool false)) hF hS (ex_pick_f rfl rfl hc14) rfl rfl fun a hF => ?_
                refine q_x (v := (.bool false)) hF hS (ex_move rfl) rfl rfl fun a hF => ?_
                refine q_skip hF (wanted_f hF rfl rfl rfl rfl rfl) rfl fun a hF => ?_
                refine q_x (v := (.bool false)) hF hS (ex_pick_f rfl rfl rfl) rfl rfl fun a hF => ?_
                refine q_x (v := (.bool false)) hF hS (ex_move rfl) rfl rfl fun a hF => ?_
                refine q_skip hF (wanted_f hF rfl rfl rfl rfl rfl) rfl fun a hF => ?_
                refine q_x (v := (.bool false)) hF hS (ex_pick_f rfl rfl rfl) rfl rfl fun a hF => ?_
                refine q_x (v := (.bool false)) hF hS (ex_move rfl) rfl rfl fun a hF => ?_
                refine q_skip hF (wanted_f hF rfl rfl rfl rfl rfl) rfl fun a hF => ?_
                refine q_skip hF (wanted_f hF rfl rfl rfl rfl rfl) rfl fun a hF => ?_
                refine q_skip hF (wanted_f hF rfl rfl rfl rfl rfl) rfl fun a hF => ?_
                refine q_x (v := (.bool false)) hF hS (ex_pick_f rfl rfl rfl) rfl rfl fun a hF => ?_
                refine q_x (v := (.bool false)) hF hS (ex_assign rfl) rfl rfl fun a hF => ?_
                refine q_end (n_jn ?_)
                obtain rfl := someI hj13
                exact ⟨hF.sub ⟨rfl, trivial⟩, hS.mask [false, false, false, false, false, false, false, false, false]⟩
              · have hj13 := cond_t hc14 hj13
                refine q_xg (v := (.bool t_56.2)) hF hS (ex_move rfl) (wanted_t hF rfl rfl rfl hc14) rfl fun a hF => ?_
                refine q_x (v := (.bool t_56.2)) hF hS (ex_pick_t rfl rfl hc14) rfl rfl fun a hF => ?_
                refine q_x (v := (.bool t_56.2)) hF hS (ex_move rfl) rfl rfl fun a hF => ?_
                rcases bcase (t_56.2) with hc15 | hc15
                · have hj13 := cond_f hc15 hj13
                  refine q_skip hF (wanted_f hF rfl rfl rfl hc15 rfl) rfl fun a hF => ?_
                  refine q_x (v := (.bool false)) hF hS (ex_pick_f rfl rfl hc15) rfl rfl fun a hF => ?_
                  refine q_x (v := (.bool false)) hF hS (ex_move rfl) rfl rfl fun a hF => ?_
                  refine q_skip hF (wanted_f hF rfl rfl rfl rfl rfl) rfl fun a hF => ?_
                  refine q_x (v := (.bool false)) hF hS (ex_pick_f rfl rfl rfl) rfl rfl fun a hF => ?_
                  refine q_x (v := (.bool false)) hF hS (ex_move rfl) rfl rfl fun a hF => ?_
                  refine q_skip hF (wanted_f hF rfl rfl rfl rfl rfl) rfl fun a hF => ?_
                  refine q_skip hF (wanted_f hF rfl rfl rfl rfl rfl) rfl fun a hF => ?_
                  refine q_skip hF (wanted_f hF rfl rfl rfl rfl rfl) rfl fun a hF => ?_
                  refine q_x (v := (.bool false)) hF hS (ex_pick_f rfl rfl rfl) rfl rfl fun a hF => ?_
                  refine q_x (v := (.bool false)) hF hS (ex_assign rfl) rfl rfl fun a hF => ?_
                  refine q_end (n_jn ?_)
                  obtain rfl := someI hj13
                  exact ⟨hF.sub ⟨rfl, trivial⟩, hS.mask [false, false, false, false, false, false, false, false, false]⟩
                · have hj13 := cond_t hc15 hj13
                  refine q_xg (v := (.bool t_60.2)) hF hS (ex_move rfl) (wanted_t hF rfl rfl rfl hc15) rfl fun a hF => ?_
                  refine q_x (v := (.bool t_60.2)) hF hS (ex_pick_t rfl rfl hc15) rfl rfl fun a hF => ?_
                  refine q_x (v := (.bool t_60.2)) hF hS (ex_move rfl) rfl rfl fun a hF => ?_
                  rcases bcase (t_60.2) with hc16 | hc16
                  · have hj13 := cond_f hc16 hj13
                    refine q_skip hF (wanted_f hF rfl rfl rfl hc16 rfl) rfl fun a hF => ?_
                    refine q_x (v := (.bool false)) hF hS (ex_pick_f rfl rfl hc16) rfl rfl fun a hF => ?_
                    refine q_x (v := (.bool false)) hF hS (ex_move rfl) rfl rfl fun a hF => ?_
                    refine q_skip hF (wanted_f hF rfl rfl rfl rfl rfl) rfl fun a hF => ?_
                    refine q_skip hF (wanted_f hF rfl rfl rfl rfl rfl) rfl fun a hF => ?_
                    refine q_skip hF (wanted_f hF rfl rfl rfl rfl rfl) rfl fun a hF => ?_
                    refine q_x (v := (.bool false)) hF hS (ex_pick_f rfl rfl rfl) rfl rfl fun a hF => ?_
                    refine q_x (v := (.bool false)) hF hS (ex_assign rfl) rfl rfl fun a hF => ?_
                    refine q_end (n_jn ?_)
                    obtain rfl := someI hj13
                    exact ⟨hF.sub ⟨rfl, trivial⟩, hS.mask [false, false, false, false, false, false, false, false, false]⟩
                  · have hj13 := cond_t hc16 hj13
                    refine q_xg (v := (.bool t_64.2)) hF hS (ex_move rfl) (wanted_t hF rfl rfl rfl hc16) rfl fun a hF => ?_
                    refine q_x (v := (.bool t_64.2)) hF hS (ex_pick_t rfl rfl hc16) rfl rfl fun a hF => ?_
                    refine q_x (v := (.bool t_64.2)) hF hS (ex_move rfl) rfl rfl fun a hF => ?_
                    rcases bcase (t_64.2) with hc17 | hc17
                    · have hj13 := cond_f hc17 hj13
                      refine q_skip hF (wanted_f hF rfl rfl rfl hc17 rfl) rfl fun a hF => ?_
                      refine q_skip hF (wanted_f hF rfl rfl rfl hc17 rfl) rfl fun a hF => ?_
                      refine q_skip hF (wanted_f hF rfl rfl rfl hc17 rfl) rfl fun a hF => ?_
                      refine q_x (v := (.bool false)) hF hS (ex_pick_f rfl rfl hc17) rfl rfl fun a hF => ?_
                      refine q_x (v := (.bool false)) hF hS (ex_assign rfl) rfl rfl fun a hF => ?_
                      refine q_end (n_jn ?_)
                      obtain rfl := someI hj13
                      exact ⟨hF.sub ⟨rfl, trivial⟩, hS.mask [false, false, false, false, false, false, false, false, false]⟩
                    · have hj13 := cond_t hc17 hj13
                      refine q_xg (v := s63.v) hF hS (ex_move rfl) (wanted_t hF rfl rfl rfl hc17) rfl fun a hF => ?_
                      refine q_xg (v := s67.v) hF hS (ex_move rfl) (wanted_t hF rfl rfl rfl hc17) rfl fun a hF => ?_
                      obtain ⟨m69, hl69, hv69, hz69⟩ := hS.lend
                      obtain ⟨t_68, ht_68, hj13⟩ := bindS hj13
                      refine q_callg (vs := [s63.v, s67.v]) hF hS (wanted_t hF rfl rfl rfl hc17) Try.func11 (by kernel_rfl) rfl rfl rfl (c_laws_qInts t_60.1 t_64.1 t_68 ht_68 _ m69 hv69 s63 (h63.froz hl69 (hz69 1 _ rfl)) s67 (h67.froz hl69 (hz69 0 _ rfl))) ?_
                      rintro a w _ rfl hF hS
                      refine q_x (v := (.bool t_68)) hF hS (ex_pick_t rfl rfl hc17) rfl rfl fun a hF => ?_
                      refine q_x (v := (.bool t_68)) hF hS (ex_assign rfl) rfl rfl fun a hF => ?_
                      refine q_end (n_jn ?_)
                      obtain rfl := someI hj13
                      exact ⟨hF.sub ⟨rfl, trivial⟩, hS.mask [false, false, false, false, false, false, false, false, false]⟩
            · rintro a w ⟨hF, hS⟩
              refine n_sq (q_ret ?_)
              obtain rfl := someI hr
              exact ret_of hF hS rfl (.tmp rfl .nil) rfl
        · have hr := cond_t hc7 hr
          refine q_cond_t hF rfl hc7 ?_
          refine q_seq ?_
          refine q_region ?_
          refine q_x (v := (.bool true)) hF hS (ex_assign rfl) rfl rfl fun a hF => ?_
          refine q_end (n_sq (q_ret (r_sq ?_)))
          obtain rfl := someI hr
          exact ret_of hF hS rfl (.tmp rfl .nil) rfl
      · have hr := cond_t hc6 hr
        refine q_cond_t hF rfl hc6 ?_
        refine q_seq ?_
        refine q_region ?_
        refine q_x (v := (.bool false)) hF hS (ex_assign rfl) rfl rfl fun a hF => ?_
        refine q_end (n_sq (q_ret (r_sq ?_)))
        obtain rfl := someI hr
        exact ret_of hF hS rfl (.tmp rfl .nil) rfl
  · have hr := cond_t hc1 hr
    refine q_cond_t hF rfl hc1 ?_
    refine q_seq ?_
    refine q_region ?_
    refine q_x (v := (.bool true)) hF hS (ex_assign rfl) rfl rfl fun a hF => ?_
    refine q_end (n_sq (q_ret (r_sq ?_)))
    obtain rfl := someI hr
    exact ret_of hF hS rfl (.tmp rfl .nil) rfl

end Go.Proofs.Ytmlegfogjdhhkaa
