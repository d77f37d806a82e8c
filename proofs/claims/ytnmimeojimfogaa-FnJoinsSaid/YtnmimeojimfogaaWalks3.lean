/- The walks of the functions: each returns what its plain function says. -/
import Derived.Test.YtnmimeojimfogaaWalks2
namespace Go.Proofs.Ytnmimeojimfogaa
open Go.Gx Go.Gx.F Go.RowKit
set_option linter.all false
set_option maxRecDepth 10000


theorem c_impl_JoinTables (p_g : impl_Geo) (p_s : List impl_Variable) (p_a : impl_Table) (p_b : impl_Table) (r : impl_Table × Bool) (hr : impl_JoinTables p_g p_s p_a p_b = some r) (w0 : World) (m : Mem) (hv : Vis m w0) (s1 : Sl) (h1 : Rd m s1 p_g.Parents) (s2 : Sl) (h2 : Rd m s2 p_s) (s3 : Sl) (h3 : Rd m s3 p_a.Vars) (s4 : Sl) (h4 : Rd m s4 p_a.Where) (s5 : Sl) (h5 : Rd m s5 p_b.Vars) (s6 : Sl) (h6 : Rd m s6 p_b.Where) :
  Ret Try.prog 7 [(.agg #[s1.v]), s2.v, (.agg #[(.int .i64 p_a.Level), s3.v, s4.v, (.int .i64 p_a.Sum)]), (.agg #[(.int .i64 p_b.Level), s5.v, s6.v, (.int .i64 p_b.Sum)])] w0 (fun v w => ∃ (q0' : Piece) (q1' : Piece) (s0' : Sl) (s1' : Sl), v = (.tuple #[(.agg #[(.int .i64 r.1.Level), s0'.v, s1'.v, (.int .i64 r.1.Sum)]), (.bool r.2)]) ∧ St [] w0 w m [q0', q1'] ∧ OwnL m 3 q0' s0' r.1.Vars ∧ OwnL m 3 q1' s1' r.1.Where) := by
 unfold impl_JoinTables at hr
 refine ret_start Try.func7 rfl 137 rfl rfl m hv fun a hF hS => q_seq (q_region (q_box (cs := [s1.v]) hF hS rfl rfl rfl fun a w b7 hF hS => q_box (cs := [(.int .i64 p_a.Level), s3.v, s4.v, (.int .i64 p_a.Sum)]) hF hS rfl rfl rfl fun a w b8 hF hS => q_box (cs := [(.int .i64 p_b.Level), s5.v, s6.v, (.int .i64 p_b.Sum)]) hF hS rfl rfl rfl fun a w b9 hF hS => q_alloc (cs := [(.int .i64 0), nilS.v, nilS.v, (.int .i64 0)]) hF hS rfl rfl rfl fun a w b10 hF hS => q_x (v := (.bool false)) hF hS (ex_assign rfl) rfl rfl fun a hF => q_end (n_sq (q_seq (q_seq ?_)))))
 obtain ⟨t_13, hj1, hr⟩ := bindS hr
 refine q_join (fun a w => Fr a 137 [(1, s2.v), (4, (.pointer (some ⟨b7, 0, none⟩))), (6, (.pointer (some ⟨b8, 0, none⟩))), (7, (.pointer (some ⟨b9, 0, none⟩))), (8, (.pointer (some ⟨b10, 0, none⟩))), (25, (.bool t_13))] ∧ St [] w0 w m [[⟨b10, [(.int .i64 0), nilS.v, nilS.v, (.int .i64 0)], 29⟩], [⟨b9, [(.int .i64 p_b.Level), s5.v, s6.v, (.int .i64 p_b.Sum)], 29⟩], [⟨b8, [(.int .i64 p_a.Level), s3.v, s4.v, (.int .i64 p_a.Sum)], 29⟩], [⟨b7, [s1.v], 26⟩]]) ?_ ?_
 ·refine q_region (q_x (v := (.agg #[s1.v])) hF hS (ex_loadA (vs := [s1.v]) 3 0 Try.underlying26 rfl sz26 rfl rfl rfl rfl) rfl rfl fun a hF => q_x (v := s2.v) hF hS (ex_move rfl) rfl rfl fun a hF => q_x (v := (.agg #[(.int .i64 p_a.Level), s3.v, s4.v, (.int .i64 p_a.Sum)])) hF hS (ex_loadA (vs := [(.int .i64 p_a.Level), s3.v, s4.v, (.int .i64 p_a.Sum)]) 2 0 Try.underlying29 rfl sz29 rfl rfl rfl rfl) rfl rfl fun a hF => ?_)
  obtain ⟨t_11, ht_11, hj1⟩ := bindS hj1
  refine q_call (vs := [(.agg #[s1.v]), s2.v, (.agg #[(.int .i64 p_a.Level), s3.v, s4.v, (.int .i64 p_a.Sum)])]) hF hS Try.func29 (by kernel_rfl) rfl rfl rfl (c_impl_areTabled p_g p_s p_a t_11 ht_11 _ m hS.vis s1 h1 s2 h2 s3 h3 s4 h4) ?_
  rintro a w _ rfl hF hS
  refine q_x (v := (.bool (!t_11))) hF hS (ex_not rfl) rfl rfl fun a hF => q_x (v := (.bool (!t_11))) hF hS (ex_move rfl) rfl rfl fun a hF => ?_
  rcases bcase (!t_11) with hc2 | hc2
  ·have hj1 := cond_f hc2 hj1
   refine q_xg (v := (.agg #[s1.v])) hF hS (ex_loadA (vs := [s1.v]) 3 0 Try.underlying26 rfl sz26 rfl rfl rfl rfl) (wanted_t hF rfl rfl rfl hc2) rfl fun a hF => q_xg (v := s2.v) hF hS (ex_move rfl) (wanted_t hF rfl rfl rfl hc2) rfl fun a hF => q_xg (v := (.agg #[(.int .i64 p_b.Level), s5.v, s6.v, (.int .i64 p_b.Sum)])) hF hS (ex_loadA (vs := [(.int .i64 p_b.Level), s5.v, s6.v, (.int .i64 p_b.Sum)]) 1 0 Try.underlying29 rfl sz29 rfl rfl rfl rfl) (wanted_t hF rfl rfl rfl hc2) rfl fun a hF => ?_
   obtain ⟨t_12, ht_12, hj1⟩ := bindS hj1
   refine q_callg (vs := [(.agg #[s1.v]), s2.v, (.agg #[(.int .i64 p_b.Level), s5.v, s6.v, (.int .i64 p_b.Sum)])]) hF hS (wanted_t hF rfl rfl rfl hc2) Try.func30 (by kernel_rfl) rfl rfl rfl (c_impl_isTable p_g p_s p_b t_12 ht_12 _ m hS.vis s1 h1 s2 h2 s5 h5 s6 h6) ?_
   rintro a w _ rfl hF hS
   refine q_xg (v := (.bool (!t_12))) hF hS (ex_not rfl) (wanted_t hF rfl rfl rfl hc2) rfl fun a hF => q_x (v := (.bool (!t_12))) hF hS (ex_pick_f rfl rfl hc2) rfl rfl fun a hF => q_end (n_jn ?_)
   obtain rfl := someI hj1
   exact ⟨hF.sub ⟨rfl, rfl, rfl, rfl, rfl, rfl, trivial⟩, hS⟩
  ·have hj1 := cond_t hc2 hj1
   refine q_skip hF (wanted_f hF rfl rfl rfl hc2 rfl) rfl fun a hF => q_skip hF (wanted_f hF rfl rfl rfl hc2 rfl) rfl fun a hF => q_skip hF (wanted_f hF rfl rfl rfl hc2 rfl) rfl fun a hF => q_skip hF (wanted_f hF rfl rfl rfl hc2 rfl) rfl fun a hF => q_skip hF (wanted_f hF rfl rfl rfl hc2 rfl) rfl fun a hF => q_x (v := (.bool true)) hF hS (ex_pick_t rfl rfl hc2) rfl rfl fun a hF => q_end (n_jn ?_)
   obtain rfl := someI hj1
   exact ⟨hF.sub ⟨rfl, rfl, rfl, rfl, rfl, rfl, trivial⟩, hS⟩
 ·rintro a w ⟨hF, hS⟩
  refine n_sq ?_
  rcases bcase (t_13) with hc3 | hc3
  ·have hr := cond_f hc3 hr
   refine q_cond_f hF rfl hc3 (q_skipc (n_sq (q_seq ?_)))
   obtain ⟨t_23, hj4, hr⟩ := bindS hr
   refine q_join (fun a w => ∃ b22, ∃ (q24 : Piece), ∃ (s24 : Sl), Fr a 137 [(1, s2.v), (4, (.pointer (some ⟨b7, 0, none⟩))), (6, (.pointer (some ⟨b8, 0, none⟩))), (7, (.pointer (some ⟨b9, 0, none⟩))), (8, (.pointer (some ⟨b10, 0, none⟩))), (10, (.pointer (some ⟨b22, 0, none⟩)))] ∧ St [] w0 w m [q24, [⟨b22, [(.int .i64 t_23.Level), nilS.v, s24.v, (.int .i64 t_23.Sum)], 29⟩], [⟨b10, [(.int .i64 0), nilS.v, nilS.v, (.int .i64 0)], 29⟩], [⟨b9, [(.int .i64 p_b.Level), s5.v, s6.v, (.int .i64 p_b.Sum)], 29⟩], [⟨b8, [(.int .i64 p_a.Level), s3.v, s4.v, (.int .i64 p_a.Sum)], 29⟩], [⟨b7, [s1.v], 26⟩]] ∧ OwnL m 3 q24 s24 t_23.Where) ?_ ?_
   ·refine e_region ⟨[12], [b8, b9]⟩ mixed fun w' hw' => ?_
    have hS := hS.below hw'
    refine e_p (v := (.pointer (some ⟨b8, 0, none⟩))) 0 hF rfl (ex_fieldAddr Try.underlying29 rfl sz3 rfl rfl) rfl rfl (by kernel_rfl) (by kernel_rfl) (by kernel_rfl) fun a hF => e_xb (v := (.int .i64 p_a.Level)) 1 2 hF hS (.head _) rfl rfl (ex_load1 0 0 Try.underlying3 rfl rfl rfl rfl) rfl rfl (by kernel_rfl) (by kernel_rfl) (by kernel_rfl) fun a hF => e_p (v := (.pointer (some ⟨b9, 0, none⟩))) 2 hF rfl (ex_fieldAddr Try.underlying29 rfl sz3 rfl rfl) rfl rfl (by kernel_rfl) (by kernel_rfl) (by kernel_rfl) fun a hF => e_xb (v := (.int .i64 p_b.Level)) 3 1 hF hS (.tail _ (.head _)) rfl rfl (ex_load1 0 0 Try.underlying3 rfl rfl rfl rfl) rfl rfl (by kernel_rfl) (by kernel_rfl) (by kernel_rfl) fun a hF => e_p (v := (.int .i64 (max p_a.Level p_b.Level))) 4 hF rfl (ex_max rfl rfl) rfl rfl (by kernel_rfl) (by kernel_rfl) (by kernel_rfl) fun a hF => e_p (v := s2.v) 5 hF rfl (ex_move rfl) rfl rfl (by kernel_rfl) (by kernel_rfl) (by kernel_rfl) fun a hF => e_p (v := (.int .i64 (goLen p_s))) 6 hF rfl (ex_len Try.underlying27 rfl h2.len) rfl rfl (by kernel_rfl) (by kernel_rfl) (by kernel_rfl) fun a hF => e_p (v := (.pointer (some ⟨b8, 3, none⟩))) 8 hF rfl (ex_fieldAddr Try.underlying29 rfl sz3 rfl rfl) rfl rfl (by kernel_rfl) (by kernel_rfl) (by kernel_rfl) fun a hF => e_xb (v := (.int .i64 p_a.Sum)) 9 2 hF hS (.head _) rfl rfl (ex_load1 0 0 Try.underlying3 rfl rfl rfl rfl) rfl rfl (by kernel_rfl) (by kernel_rfl) (by kernel_rfl) fun a hF => ?_
    obtain ⟨l_20, hl_20, hj4⟩ := bindS hj4
    refine e_all [7, 11] (by kernel_rfl) rfl ⟨?_, ?_, trivial⟩
    ·refine e_op rfl rfl fun _ hK => wp_make (z := (0 : Int)) hF hS Try.underlying24 inf3 rfl rfl rfl rfl rfl (by decide) hl_20 rfl fun a w q21 s21 hF hS h21 hb => hK _ _ hb (e_p (v := (.agg #[(.int .i64 (max p_a.Level p_b.Level)), nilS.v, s21.v, (.int .i64 p_a.Sum)])) 10 hF rfl (ex_build (cells := [(.int .i64 (max p_a.Level p_b.Level)), nilS.v, s21.v, (.int .i64 p_a.Sum)]) rfl (by kernel_rfl)) rfl rfl (by kernel_rfl) (by kernel_rfl) (by kernel_rfl) fun a hF => e_one 11 (by kernel_rfl) (e_alloc (cs := [(.int .i64 0), nilS.v, nilS.v, (.int .i64 0)]) hF hS rfl rfl rfl rfl fun a w b22 hF hS => e_one 12 (by kernel_rfl) ?_))
     have hSo := hS
     refine e_store (vs := [(.int .i64 (max p_a.Level p_b.Level)), nilS.v, s21.v, (.int .i64 p_a.Sum)]) (cs' := [(.int .i64 (max p_a.Level p_b.Level)), nilS.v, s21.v, (.int .i64 p_a.Sum)]) 0 0 hF hS rfl rfl sz29 rfl rfl rfl rfl rfl rfl rfl rfl fun a w hF hS => ⟨kpC hSo hS 4 4 rfl rfl (kpC hSo hS 3 3 rfl rfl kpN), ?_⟩
     refine e_end (by kernel_rfl) (n_jn ?_) _
     obtain rfl := someI hj4
     exact ⟨b22, q21, s21, hF.sub ⟨rfl, rfl, rfl, rfl, rfl, rfl, trivial⟩, hS.sel [1, 0, 2, 3, 4, 5] (by decide), h21⟩
    ·refine e_alloc (cs := [(.int .i64 0), nilS.v, nilS.v, (.int .i64 0)]) hF hS rfl rfl rfl rfl fun a w b22 hF hS => e_one 7 (by kernel_rfl) (e_op rfl rfl fun _ hK => wp_make (z := (0 : Int)) hF hS Try.underlying24 inf3 rfl rfl rfl rfl rfl (by decide) hl_20 rfl fun a w q21 s21 hF hS h21 hb => hK _ _ hb (e_p (v := (.agg #[(.int .i64 (max p_a.Level p_b.Level)), nilS.v, s21.v, (.int .i64 p_a.Sum)])) 10 hF rfl (ex_build (cells := [(.int .i64 (max p_a.Level p_b.Level)), nilS.v, s21.v, (.int .i64 p_a.Sum)]) rfl (by kernel_rfl)) rfl rfl (by kernel_rfl) (by kernel_rfl) (by kernel_rfl) fun a hF => e_one 12 (by kernel_rfl) ?_))
     have hSo := hS
     refine e_store (vs := [(.int .i64 (max p_a.Level p_b.Level)), nilS.v, s21.v, (.int .i64 p_a.Sum)]) (cs' := [(.int .i64 (max p_a.Level p_b.Level)), nilS.v, s21.v, (.int .i64 p_a.Sum)]) 1 0 hF hS rfl rfl sz29 rfl rfl rfl rfl rfl rfl rfl rfl fun a w hF hS => ⟨kpC hSo hS 4 4 rfl rfl (kpC hSo hS 3 3 rfl rfl kpN), ?_⟩
     refine e_end (by kernel_rfl) (n_jn ?_) _
     obtain rfl := someI hj4
     exact ⟨b22, q21, s21, hF.sub ⟨rfl, rfl, rfl, rfl, rfl, rfl, trivial⟩, hS, h21⟩
   ·rintro a w ⟨b22, q24, s24, hF, hS, h24⟩
    refine n_sq ?_
    refine q_seq (q_seq (q_region (q_x (v := (.pointer (some ⟨b8, 3, none⟩))) hF hS (ex_fieldAddr Try.underlying29 rfl sz3 rfl rfl) rfl rfl fun a hF => q_x (v := (.int .i64 p_a.Sum)) hF hS (ex_load1 4 0 Try.underlying3 rfl rfl rfl rfl) rfl rfl fun a hF => q_x (v := (.pointer (some ⟨b9, 3, none⟩))) hF hS (ex_fieldAddr Try.underlying29 rfl sz3 rfl rfl) rfl rfl fun a hF => q_x (v := (.int .i64 p_b.Sum)) hF hS (ex_load1 3 0 Try.underlying3 rfl rfl rfl rfl) rfl rfl fun a hF => q_x (v := (.bool (p_a.Sum != p_b.Sum))) hF hS (ex_ibin rfl rfl rfl) rfl rfl fun a hF => q_end (n_sq ?_))))
    obtain ⟨t_25, hj5, hr⟩ := bindS hr
    refine q_join (fun a w => Fr a 137 [(1, s2.v), (4, (.pointer (some ⟨b7, 0, none⟩))), (6, (.pointer (some ⟨b8, 0, none⟩))), (7, (.pointer (some ⟨b9, 0, none⟩))), (8, (.pointer (some ⟨b10, 0, none⟩))), (10, (.pointer (some ⟨b22, 0, none⟩)))] ∧ St [] w0 w m [q24, [⟨b22, [(.int .i64 t_25.Level), nilS.v, s24.v, (.int .i64 t_25.Sum)], 29⟩], [⟨b10, [(.int .i64 0), nilS.v, nilS.v, (.int .i64 0)], 29⟩], [⟨b9, [(.int .i64 p_b.Level), s5.v, s6.v, (.int .i64 p_b.Sum)], 29⟩], [⟨b8, [(.int .i64 p_a.Level), s3.v, s4.v, (.int .i64 p_a.Sum)], 29⟩], [⟨b7, [s1.v], 26⟩]] ∧ OwnL m 3 q24 s24 t_25.Where) ?_ ?_
    ·rcases bcase (p_a.Sum != p_b.Sum) with hc6 | hc6
     ·have hj5 := cond_f hc6 hj5
      refine q_cond_f hF rfl hc6 (q_skipc (n_jn ?_))
      obtain rfl := someI hj5
      exact ⟨hF.sub ⟨rfl, rfl, rfl, rfl, rfl, rfl, trivial⟩, hS, h24⟩
     ·have hj5 := cond_t hc6 hj5
      refine q_cond_t hF rfl hc6 (q_region (q_x (v := (.pointer (some ⟨b22, 3, none⟩))) hF hS (ex_fieldAddr Try.underlying29 rfl sz3 rfl rfl) rfl rfl fun a hF => q_store (vs := [(.int .i64 (-1))]) (cs' := [(.int .i64 t_23.Level), nilS.v, s24.v, (.int .i64 (-1))]) 1 0 hF hS sz3 rfl rfl rfl rfl rfl rfl rfl rfl fun a w hF hS => q_end (n_jn ?_)))
      obtain rfl := someI hj5
      exact ⟨hF.sub ⟨rfl, rfl, rfl, rfl, rfl, rfl, trivial⟩, hS, h24⟩
    ·rintro a w ⟨hF, hS, h26⟩
     refine n_sq ?_
     refine q_seq (q_seq (q_region (q_x (v := s2.v) hF hS (ex_move rfl) rfl rfl fun a hF => q_x (v := (.int .i64 (goLen p_s))) hF hS (ex_len Try.underlying27 rfl h2.len) rfl rfl fun a hF => q_x (v := (.int .i64 0)) hF hS (ex_move rfl) rfl rfl fun a hF => q_end (n_sq (q_block ?_)))))
     obtain ⟨t_54, hl7, hr⟩ := bindS hr
     refine q_loop (fun (s : Int × impl_Table) a w => ∃ (q29 : Piece), ∃ (s29 : Sl), ∃ (q30 : Piece), ∃ t_27, ∃ t_28, s = (t_27, t_28) ∧ Fr a 137 [(1, s2.v), (4, (.pointer (some ⟨b7, 0, none⟩))), (6, (.pointer (some ⟨b8, 0, none⟩))), (7, (.pointer (some ⟨b9, 0, none⟩))), (8, (.pointer (some ⟨b10, 0, none⟩))), (10, (.pointer (some ⟨b22, 0, none⟩))), (45, (.int .i64 (goLen p_s))), (46, (.int .i64 t_27))] ∧ St [] w0 w m [q29, q30, [⟨b22, [(.int .i64 t_28.Level), s29.v, s24.v, (.int .i64 t_28.Sum)], 29⟩], [⟨b10, [(.int .i64 0), nilS.v, nilS.v, (.int .i64 0)], 29⟩], [⟨b9, [(.int .i64 p_b.Level), s5.v, s6.v, (.int .i64 p_b.Sum)], 29⟩], [⟨b8, [(.int .i64 p_a.Level), s3.v, s4.v, (.int .i64 p_a.Sum)], 29⟩], [⟨b7, [s1.v], 26⟩]] ∧ OwnL m 3 q29 s29 t_28.Vars ∧ OwnL m 3 q30 s24 t_28.Where) (fun (t_54 : impl_Table) e a w => ∃ (q55 : Piece), ∃ (s55 : Sl), ∃ (q56 : Piece), e = .exit 0 ∧ Fr a 137 [(1, s2.v), (4, (.pointer (some ⟨b7, 0, none⟩))), (6, (.pointer (some ⟨b8, 0, none⟩))), (7, (.pointer (some ⟨b9, 0, none⟩))), (8, (.pointer (some ⟨b10, 0, none⟩))), (10, (.pointer (some ⟨b22, 0, none⟩)))] ∧ St [] w0 w m [q55, q56, [⟨b22, [(.int .i64 t_54.Level), s55.v, s24.v, (.int .i64 t_54.Sum)], 29⟩], [⟨b10, [(.int .i64 0), nilS.v, nilS.v, (.int .i64 0)], 29⟩], [⟨b9, [(.int .i64 p_b.Level), s5.v, s6.v, (.int .i64 p_b.Sum)], 29⟩], [⟨b8, [(.int .i64 p_a.Level), s3.v, s4.v, (.int .i64 p_a.Sum)], 29⟩], [⟨b7, [s1.v], 26⟩]] ∧ OwnL m 3 q55 s55 t_54.Vars ∧ OwnL m 3 q56 s24 t_54.Where) hl7 ⟨[], nilS, q24, _, _, rfl, hF.sub ⟨rfl, rfl, rfl, rfl, rfl, rfl, rfl, rfl, trivial⟩, hS.sel [6, 0, 1, 2, 3, 4, 5] (by decide), (OwnL.nil (α := Int) m 3), h26⟩ ?_ ?_
     ·clear hF hS
      rintro s a w st ⟨q29, s29, q30, t_27, t_28, rfl, hF, hS, h29, h30⟩ hb7
      unfold impl_JoinTables_l1 at hb7
      refine q_seq (q_region (q_x (v := (.bool (decide (t_27 < (goLen p_s))))) hF hS (ex_ibin rfl rfl rfl) rfl rfl fun a hF => q_end (n_sq (q_seq ?_))))
      rcases bcase (decide (t_27 < (goLen p_s))) with hc8 | hc8
      ·have hb7 := cond_f hc8 hb7
       refine q_cond_f hF rfl hc8 (q_exit (x_sq ?_))
       obtain rfl := someI hb7
       exact ⟨nofun, .inl ⟨q29, s29, q30, rfl, hF.sub ⟨rfl, rfl, rfl, rfl, rfl, rfl, trivial⟩, hS, h29, h30⟩⟩
      ·have hb7 := cond_t hc8 hb7
       refine q_cond_t hF rfl hc8 (q_skipc (n_sq (q_seq (q_block (q_seq (q_region (q_x (v := (.int .i64 t_27)) hF hS (ex_move rfl) rfl rfl fun a hF => q_x (v := (.int .i64 t_27)) hF hS (ex_assign rfl) rfl rfl fun a hF => q_end (n_sq (q_seq (e_region ⟨[], []⟩ mixed fun w' hw' => ?_))))))))))
       have hS := hS.below hw'
       refine e_p (v := s2.v) 0 hF rfl (ex_move rfl) rfl rfl (by kernel_rfl) (by kernel_rfl) (by kernel_rfl) fun a hF => e_x (v := (.agg #[(.int .i64 p_a.Level), s3.v, s4.v, (.int .i64 p_a.Sum)])) 1 hF hS rfl (ex_loadA (vs := [(.int .i64 p_a.Level), s3.v, s4.v, (.int .i64 p_a.Sum)]) 5 0 Try.underlying29 rfl sz29 rfl rfl rfl rfl) rfl rfl (by kernel_rfl) (by kernel_rfl) (by kernel_rfl) (by kernel_rfl) fun a hF => e_p (v := (.int .i64 t_27)) 2 hF rfl (ex_move rfl) rfl rfl (by kernel_rfl) (by kernel_rfl) (by kernel_rfl) fun a hF => e_p (v := s2.v) 4 hF rfl (ex_move rfl) rfl rfl (by kernel_rfl) (by kernel_rfl) (by kernel_rfl) fun a hF => e_x (v := (.agg #[(.int .i64 p_b.Level), s5.v, s6.v, (.int .i64 p_b.Sum)])) 5 hF hS rfl (ex_loadA (vs := [(.int .i64 p_b.Level), s5.v, s6.v, (.int .i64 p_b.Sum)]) 4 0 Try.underlying29 rfl sz29 rfl rfl rfl rfl) rfl rfl (by kernel_rfl) (by kernel_rfl) (by kernel_rfl) (by kernel_rfl) fun a hF => e_p (v := (.int .i64 t_27)) 6 hF rfl (ex_move rfl) rfl rfl (by kernel_rfl) (by kernel_rfl) (by kernel_rfl) fun a hF => e_one 3 (by kernel_rfl) ?_
       obtain ⟨t_34, ht_34, hb7⟩ := bindS hb7
       refine e_call (vs := [s2.v, (.agg #[(.int .i64 p_a.Level), s3.v, s4.v, (.int .i64 p_a.Sum)]), (.int .i64 t_27)]) hF hS rfl Try.func31 (by kernel_rfl) rfl rfl rfl (c_impl_conditionOf p_s p_a t_27 t_34 ht_34 _ m hS.vis s2 h2 s3 h3 s4 h4) ?_
       rintro a w _ rfl hF hS
       refine e_one 7 (by kernel_rfl) ?_
       obtain ⟨t_35, ht_35, hb7⟩ := bindS hb7
       refine e_call (vs := [s2.v, (.agg #[(.int .i64 p_b.Level), s5.v, s6.v, (.int .i64 p_b.Sum)]), (.int .i64 t_27)]) hF hS rfl Try.func31 (by kernel_rfl) rfl rfl rfl (c_impl_conditionOf p_s p_b t_27 t_35 ht_35 _ m hS.vis s2 h2 s5 h5 s6 h6) ?_
       rintro a w _ rfl hF hS
       refine e_p (v := (.int .i64 t_34)) 8 hF rfl (ex_assign rfl) rfl rfl (by kernel_rfl) (by kernel_rfl) (by kernel_rfl) fun a hF => e_p (v := (.int .i64 t_35)) 9 hF rfl (ex_assign rfl) rfl rfl (by kernel_rfl) (by kernel_rfl) (by kernel_rfl) fun a hF => e_end (by kernel_rfl) (n_sq ?_) _
       refine q_seq (q_seq (q_region (q_x (v := (.int .i64 t_34)) hF hS (ex_move rfl) rfl rfl fun a hF => q_x (v := (.int .i64 t_35)) hF hS (ex_move rfl) rfl rfl fun a hF => q_x (v := (.int .i64 (goBits .or .i64 t_34 t_35))) hF hS (ex_bits rfl rfl rfl) rfl rfl fun a hF => q_x (v := s2.v) hF hS (ex_move rfl) rfl rfl fun a hF => q_x (v := (.int .i64 t_27)) hF hS (ex_move rfl) rfl rfl fun a hF => ?_)))
       obtain ⟨e_36, he_36, hb7⟩ := bindS hb7
       obtain ⟨vs37, at37, d37⟩ := h2.at he_36 2 rfl
       obtain rfl : vs37 = [(strV e_36.Name), (.int .i64 e_36.Levels)] := d37
       refine q_x (v := (elP s2 (t_27.toNat * 2))) hF hS (ex_indexAddr Try.underlying27 sz58 rfl rfl (h2.idx he_36)) rfl rfl fun a hF => q_x (v := (.agg #[(strV e_36.Name), (.int .i64 e_36.Levels)])) hF hS (ex_loadEA (us := [(strV e_36.Name), (.int .i64 e_36.Levels)]) 0 Try.underlying58 rfl sz58 rfl ((at37).at) rfl rfl rfl) rfl rfl fun a hF => ?_
       obtain ⟨t_38, ht_38, hb7⟩ := bindS hb7
       refine q_call (vs := [(.agg #[(strV e_36.Name), (.int .i64 e_36.Levels)])]) hF hS Try.func32 (by kernel_rfl) rfl rfl rfl (c_impl_fullSet e_36 t_38 ht_38 _ m hS.vis) ?_
       rintro a w _ rfl hF hS
       refine q_x (v := (.bool ((goBits .or .i64 t_34 t_35) != t_38))) hF hS (ex_ibin rfl rfl rfl) rfl rfl fun a hF => q_end (n_sq ?_)
       obtain ⟨t_42, hj9, hb7⟩ := bindS hb7
       refine q_join (fun a w => ∃ (q44 : Piece), Fr a 137 [(1, s2.v), (4, (.pointer (some ⟨b7, 0, none⟩))), (6, (.pointer (some ⟨b8, 0, none⟩))), (7, (.pointer (some ⟨b9, 0, none⟩))), (8, (.pointer (some ⟨b10, 0, none⟩))), (10, (.pointer (some ⟨b22, 0, none⟩))), (11, (.int .i64 t_27)), (12, (.int .i64 t_34)), (13, (.int .i64 t_35)), (45, (.int .i64 (goLen p_s))), (46, (.int .i64 t_27))] ∧ St [] w0 w m [q29, q44, [⟨b22, [(.int .i64 t_42.Level), s29.v, s24.v, (.int .i64 t_42.Sum)], 29⟩], [⟨b10, [(.int .i64 0), nilS.v, nilS.v, (.int .i64 0)], 29⟩], [⟨b9, [(.int .i64 p_b.Level), s5.v, s6.v, (.int .i64 p_b.Sum)], 29⟩], [⟨b8, [(.int .i64 p_a.Level), s3.v, s4.v, (.int .i64 p_a.Sum)], 29⟩], [⟨b7, [s1.v], 26⟩]] ∧ OwnL m 3 q29 s29 t_42.Vars ∧ OwnL m 3 q44 s24 t_42.Where) ?_ ?_
       ·rcases bcase ((goBits .or .i64 t_34 t_35) != t_38) with hc10 | hc10
        ·have hj9 := cond_f hc10 hj9
         refine q_cond_f hF rfl hc10 (q_skipc (n_jn ?_))
         obtain rfl := someI hj9
         exact ⟨q30, hF.sub ⟨rfl, rfl, rfl, rfl, rfl, rfl, rfl, rfl, rfl, rfl, rfl, trivial⟩, hS, h29, h30⟩
        ·have hj9 := cond_t hc10 hj9
         refine q_cond_t hF rfl hc10 (q_region (q_x (v := (.pointer (some ⟨b22, 2, none⟩))) hF hS (ex_fieldAddr Try.underlying29 rfl sz24 rfl rfl) rfl rfl fun a hF => q_x (v := s24.v) hF hS (ex_load1 2 0 Try.underlying24 rfl rfl rfl rfl) rfl rfl fun a hF => q_x (v := (.int .i64 t_27)) hF hS (ex_move rfl) rfl rfl fun a hF => q_x (v := (.int .i64 t_34)) hF hS (ex_move rfl) rfl rfl fun a hF => q_x (v := (.int .i64 t_35)) hF hS (ex_move rfl) rfl rfl fun a hF => q_x (v := (.int .i64 (goBits .or .i64 t_34 t_35))) hF hS (ex_bits rfl rfl rfl) rfl rfl fun a hF => ?_))
         obtain ⟨e_39, he_39, hj9⟩ := bindS hj9
         obtain ⟨vs40, at40, d40⟩ := h30.at he_39 1 rfl
         obtain rfl : vs40 = [(.int .i64 e_39)] := d40
         refine q_x (v := (elP s24 (t_27.toNat * 1))) hF hS (ex_indexAddr Try.underlying24 sz3 rfl rfl (h30.idx he_39)) rfl rfl fun a hF => ?_
         have hS : St _ _ _ _ [q30, q29, [⟨b22, [(.int .i64 t_28.Level), s29.v, s24.v, (.int .i64 t_28.Sum)], 29⟩], [⟨b10, [(.int .i64 0), nilS.v, nilS.v, (.int .i64 0)], 29⟩], [⟨b9, [(.int .i64 p_b.Level), s5.v, s6.v, (.int .i64 p_b.Sum)], 29⟩], [⟨b8, [(.int .i64 p_a.Level), s3.v, s4.v, (.int .i64 p_a.Sum)], 29⟩], [⟨b7, [s1.v], 26⟩]] := hS.sel [1, 0, 2, 3, 4, 5, 6] (by decide)
         refine q_do rfl fun _ hK => wp_storeE (e' := goBits .or .i64 t_34 t_35) (us := [(.int .i64 (goBits .or .i64 t_34 t_35))]) (vs := [(.int .i64 e_39)]) 0 hF hS h30 sz3 rfl rfl rfl rfl rfl rfl rfl he_39 at40 rfl rfl rfl fun w q41 hS h41 => hK _ _ (q_end (n_jn ?_))
         obtain rfl := someI hj9
         exact ⟨q41, hF.sub ⟨rfl, rfl, rfl, rfl, rfl, rfl, rfl, rfl, rfl, rfl, rfl, trivial⟩, hS.sel [1, 0, 2, 3, 4, 5, 6] (by decide), h29, h41⟩
       ·rintro a w ⟨q44, hF, hS, h43, h44⟩
        refine n_sq ?_
        refine q_seq ?_
        obtain ⟨t_47, hj11, hb7⟩ := bindS hb7
        refine q_join (fun a w => Fr a 137 [(1, s2.v), (4, (.pointer (some ⟨b7, 0, none⟩))), (6, (.pointer (some ⟨b8, 0, none⟩))), (7, (.pointer (some ⟨b9, 0, none⟩))), (8, (.pointer (some ⟨b10, 0, none⟩))), (10, (.pointer (some ⟨b22, 0, none⟩))), (11, (.int .i64 t_27)), (45, (.int .i64 (goLen p_s))), (46, (.int .i64 t_27)), (106, (.bool t_47))] ∧ St [] w0 w m [q29, q44, [⟨b22, [(.int .i64 t_42.Level), s29.v, s24.v, (.int .i64 t_42.Sum)], 29⟩], [⟨b10, [(.int .i64 0), nilS.v, nilS.v, (.int .i64 0)], 29⟩], [⟨b9, [(.int .i64 p_b.Level), s5.v, s6.v, (.int .i64 p_b.Sum)], 29⟩], [⟨b8, [(.int .i64 p_a.Level), s3.v, s4.v, (.int .i64 p_a.Sum)], 29⟩], [⟨b7, [s1.v], 26⟩]]) ?_ ?_
        ·refine q_region (q_x (v := (.pointer (some ⟨b8, 1, none⟩))) hF hS (ex_fieldAddr Try.underlying29 rfl sz24 rfl rfl) rfl rfl fun a hF => q_x (v := s3.v) hF hS (ex_load1 5 0 Try.underlying24 rfl rfl rfl rfl) rfl rfl fun a hF => q_x (v := (.int .i64 t_27)) hF hS (ex_move rfl) rfl rfl fun a hF => ?_)
         obtain ⟨t_45, ht_45, hj11⟩ := bindS hj11
         refine q_call (vs := [s3.v, (.int .i64 t_27)]) hF hS Try.func33 (by kernel_rfl) rfl rfl rfl (c_slices_Contains_int_int p_a.Vars t_27 t_45 ht_45 _ m hS.vis s3 h3) ?_
         rintro a w _ rfl hF hS
         refine q_x (v := (.bool t_45)) hF hS (ex_move rfl) rfl rfl fun a hF => ?_
         rcases bcase (t_45) with hc12 | hc12
         ·have hj11 := cond_f hc12 hj11
          refine q_xg (v := (.pointer (some ⟨b9, 1, none⟩))) hF hS (ex_fieldAddr Try.underlying29 rfl sz24 rfl rfl) (wanted_t hF rfl rfl rfl hc12) rfl fun a hF => q_xg (v := s5.v) hF hS (ex_load1 4 0 Try.underlying24 rfl rfl rfl rfl) (wanted_t hF rfl rfl rfl hc12) rfl fun a hF => q_xg (v := (.int .i64 t_27)) hF hS (ex_move rfl) (wanted_t hF rfl rfl rfl hc12) rfl fun a hF => ?_
          obtain ⟨t_46, ht_46, hj11⟩ := bindS hj11
          refine q_callg (vs := [s5.v, (.int .i64 t_27)]) hF hS (wanted_t hF rfl rfl rfl hc12) Try.func33 (by kernel_rfl) rfl rfl rfl (c_slices_Contains_int_int p_b.Vars t_27 t_46 ht_46 _ m hS.vis s5 h5) ?_
          rintro a w _ rfl hF hS
          refine q_x (v := (.bool t_46)) hF hS (ex_pick_f rfl rfl hc12) rfl rfl fun a hF => q_x (v := (.bool t_46)) hF hS (ex_move rfl) rfl rfl fun a hF => ?_
          rcases bcase (t_46) with hc13 | hc13
          ·have hj11 := cond_f hc13 hj11
           refine q_xg (v := (.int .i64 t_34)) hF hS (ex_move rfl) (wanted_t hF rfl rfl rfl hc13) rfl fun a hF => q_xg (v := (.int .i64 t_35)) hF hS (ex_move rfl) (wanted_t hF rfl rfl rfl hc13) rfl fun a hF => q_xg (v := (.bool (t_34 != t_35))) hF hS (ex_ibin rfl rfl rfl) (wanted_t hF rfl rfl rfl hc13) rfl fun a hF => q_x (v := (.bool (t_34 != t_35))) hF hS (ex_pick_f rfl rfl hc13) rfl rfl fun a hF => q_x (v := (.bool (t_34 != t_35))) hF hS (ex_move rfl) rfl rfl fun a hF => ?_
           rcases bcase (t_34 != t_35) with hc14 | hc14
           ·have hj11 := cond_f hc14 hj11
            refine q_xg (v := (.pointer (some ⟨b8, 3, none⟩))) hF hS (ex_fieldAddr Try.underlying29 rfl sz3 rfl rfl) (wanted_t hF rfl rfl rfl hc14) rfl fun a hF => q_xg (v := (.int .i64 p_a.Sum)) hF hS (ex_load1 5 0 Try.underlying3 rfl rfl rfl rfl) (wanted_t hF rfl rfl rfl hc14) rfl fun a hF => q_xg (v := (.pointer (some ⟨b9, 3, none⟩))) hF hS (ex_fieldAddr Try.underlying29 rfl sz3 rfl rfl) (wanted_t hF rfl rfl rfl hc14) rfl fun a hF => q_xg (v := (.int .i64 p_b.Sum)) hF hS (ex_load1 4 0 Try.underlying3 rfl rfl rfl rfl) (wanted_t hF rfl rfl rfl hc14) rfl fun a hF => q_xg (v := (.bool (p_a.Sum != p_b.Sum))) hF hS (ex_ibin rfl rfl rfl) (wanted_t hF rfl rfl rfl hc14) rfl fun a hF => q_xg (v := (.bool (p_a.Sum != p_b.Sum))) hF hS (ex_move rfl) (wanted_t hF rfl rfl rfl hc14) rfl fun a hF => ?_
            rcases bcase (p_a.Sum != p_b.Sum) with hc15 | hc15
            ·have hj11 := cond_f hc15 hj11
             refine q_skip hF (wanted_f hF rfl rfl rfl hc15 rfl) rfl fun a hF => q_skip hF (wanted_f hF rfl rfl rfl hc15 rfl) rfl fun a hF => q_skip hF (wanted_f hF rfl rfl rfl hc15 rfl) rfl fun a hF => q_skip hF (wanted_f hF rfl rfl rfl hc15 rfl) rfl fun a hF => q_skip hF (wanted_f hF rfl rfl rfl hc15 rfl) rfl fun a hF => q_skip hF (wanted_u hF rfl rfl rfl) rfl fun a hF => q_skip hF (wanted_u hF rfl rfl rfl) rfl fun a hF => q_skip hF (wanted_u hF rfl rfl rfl) rfl fun a hF => q_skip hF (wanted_u hF rfl rfl rfl) rfl fun a hF => q_skip hF (wanted_f hF rfl rfl rfl hc15 rfl) rfl fun a hF => q_xg (v := (.bool false)) hF hS (ex_pick_f rfl rfl hc15) (wanted_t hF rfl rfl rfl hc14) rfl fun a hF => q_x (v := (.bool false)) hF hS (ex_pick_f rfl rfl hc14) rfl rfl fun a hF => q_end (n_jn ?_)
             obtain rfl := someI hj11
             exact ⟨hF.sub ⟨rfl, rfl, rfl, rfl, rfl, rfl, rfl, rfl, rfl, rfl, trivial⟩, hS⟩
            ·have hj11 := cond_t hc15 hj11
             refine q_xg (v := (.pointer (some ⟨b8, 3, none⟩))) hF hS (ex_fieldAddr Try.underlying29 rfl sz3 rfl rfl) (wanted_t hF rfl rfl rfl hc15) rfl fun a hF => q_xg (v := (.int .i64 p_a.Sum)) hF hS (ex_load1 5 0 Try.underlying3 rfl rfl rfl rfl) (wanted_t hF rfl rfl rfl hc15) rfl fun a hF => q_xg (v := (.int .i64 t_27)) hF hS (ex_move rfl) (wanted_t hF rfl rfl rfl hc15) rfl fun a hF => q_xg (v := (.bool (p_a.Sum == t_27))) hF hS (ex_ibin rfl rfl rfl) (wanted_t hF rfl rfl rfl hc15) rfl fun a hF => q_xg (v := (.bool (p_a.Sum == t_27))) hF hS (ex_move rfl) (wanted_t hF rfl rfl rfl hc15) rfl fun a hF => ?_
             rcases bcase (p_a.Sum == t_27) with hc16 | hc16
             ·have hj11 := cond_f hc16 hj11
              refine q_xg (v := (.pointer (some ⟨b9, 3, none⟩))) hF hS (ex_fieldAddr Try.underlying29 rfl sz3 rfl rfl) (wanted_t hF rfl rfl rfl hc16) rfl fun a hF => q_xg (v := (.int .i64 p_b.Sum)) hF hS (ex_load1 4 0 Try.underlying3 rfl rfl rfl rfl) (wanted_t hF rfl rfl rfl hc16) rfl fun a hF => q_xg (v := (.int .i64 t_27)) hF hS (ex_move rfl) (wanted_t hF rfl rfl rfl hc16) rfl fun a hF => q_xg (v := (.bool (p_b.Sum == t_27))) hF hS (ex_ibin rfl rfl rfl) (wanted_t hF rfl rfl rfl hc16) rfl fun a hF => q_xg (v := (.bool (p_b.Sum == t_27))) hF hS (ex_pick_f rfl rfl hc16) (wanted_t hF rfl rfl rfl hc15) rfl fun a hF => q_xg (v := (.bool (p_b.Sum == t_27))) hF hS (ex_pick_t rfl rfl hc15) (wanted_t hF rfl rfl rfl hc14) rfl fun a hF => q_x (v := (.bool (p_b.Sum == t_27))) hF hS (ex_pick_f rfl rfl hc14) rfl rfl fun a hF => q_end (n_jn ?_)
              obtain rfl := someI hj11
              exact ⟨hF.sub ⟨rfl, rfl, rfl, rfl, rfl, rfl, rfl, rfl, rfl, rfl, trivial⟩, hS⟩
             ·have hj11 := cond_t hc16 hj11
              refine q_skip hF (wanted_f hF rfl rfl rfl hc16 rfl) rfl fun a hF => q_skip hF (wanted_f hF rfl rfl rfl hc16 rfl) rfl fun a hF => q_skip hF (wanted_f hF rfl rfl rfl hc16 rfl) rfl fun a hF => q_skip hF (wanted_f hF rfl rfl rfl hc16 rfl) rfl fun a hF => q_xg (v := (.bool true)) hF hS (ex_pick_t rfl rfl hc16) (wanted_t hF rfl rfl rfl hc15) rfl fun a hF => q_xg (v := (.bool true)) hF hS (ex_pick_t rfl rfl hc15) (wanted_t hF rfl rfl rfl hc14) rfl fun a hF => q_x (v := (.bool true)) hF hS (ex_pick_f rfl rfl hc14) rfl rfl fun a hF => q_end (n_jn ?_)
              obtain rfl := someI hj11
              exact ⟨hF.sub ⟨rfl, rfl, rfl, rfl, rfl, rfl, rfl, rfl, rfl, rfl, trivial⟩, hS⟩
           ·have hj11 := cond_t hc14 hj11
            refine q_skip hF (wanted_f hF rfl rfl rfl hc14 rfl) rfl fun a hF => q_skip hF (wanted_f hF rfl rfl rfl hc14 rfl) rfl fun a hF => q_skip hF (wanted_f hF rfl rfl rfl hc14 rfl) rfl fun a hF => q_skip hF (wanted_f hF rfl rfl rfl hc14 rfl) rfl fun a hF => q_skip hF (wanted_f hF rfl rfl rfl hc14 rfl) rfl fun a hF => q_skip hF (wanted_f hF rfl rfl rfl hc14 rfl) rfl fun a hF => q_skip hF (wanted_u hF rfl rfl rfl) rfl fun a hF => q_skip hF (wanted_u hF rfl rfl rfl) rfl fun a hF => q_skip hF (wanted_u hF rfl rfl rfl) rfl fun a hF => q_skip hF (wanted_u hF rfl rfl rfl) rfl fun a hF => q_skip hF (wanted_u hF rfl rfl rfl) rfl fun a hF => q_skip hF (wanted_u hF rfl rfl rfl) rfl fun a hF => q_skip hF (wanted_u hF rfl rfl rfl) rfl fun a hF => q_skip hF (wanted_u hF rfl rfl rfl) rfl fun a hF => q_skip hF (wanted_u hF rfl rfl rfl) rfl fun a hF => q_skip hF (wanted_u hF rfl rfl rfl) rfl fun a hF => q_skip hF (wanted_f hF rfl rfl rfl hc14 rfl) rfl fun a hF => q_x (v := (.bool true)) hF hS (ex_pick_t rfl rfl hc14) rfl rfl fun a hF => q_end (n_jn ?_)
            obtain rfl := someI hj11
            exact ⟨hF.sub ⟨rfl, rfl, rfl, rfl, rfl, rfl, rfl, rfl, rfl, rfl, trivial⟩, hS⟩
          ·have hj11 := cond_t hc13 hj11
           refine q_skip hF (wanted_f hF rfl rfl rfl hc13 rfl) rfl fun a hF => q_skip hF (wanted_f hF rfl rfl rfl hc13 rfl) rfl fun a hF => q_skip hF (wanted_f hF rfl rfl rfl hc13 rfl) rfl fun a hF => q_x (v := (.bool true)) hF hS (ex_pick_t rfl rfl hc13) rfl rfl fun a hF => q_x (v := (.bool true)) hF hS (ex_move rfl) rfl rfl fun a hF => q_skip hF (wanted_f hF rfl rfl rfl rfl rfl) rfl fun a hF => q_skip hF (wanted_f hF rfl rfl rfl rfl rfl) rfl fun a hF => q_skip hF (wanted_f hF rfl rfl rfl rfl rfl) rfl fun a hF => q_skip hF (wanted_f hF rfl rfl rfl rfl rfl) rfl fun a hF => q_skip hF (wanted_f hF rfl rfl rfl rfl rfl) rfl fun a hF => q_skip hF (wanted_f hF rfl rfl rfl rfl rfl) rfl fun a hF => q_skip hF (wanted_u hF rfl rfl rfl) rfl fun a hF => q_skip hF (wanted_u hF rfl rfl rfl) rfl fun a hF => q_skip hF (wanted_u hF rfl rfl rfl) rfl fun a hF => q_skip hF (wanted_u hF rfl rfl rfl) rfl fun a hF => q_skip hF (wanted_u hF rfl rfl rfl) rfl fun a hF => q_skip hF (wanted_u hF rfl rfl rfl) rfl fun a hF => q_skip hF (wanted_u hF rfl rfl rfl) rfl fun a hF => q_skip hF (wanted_u hF rfl rfl rfl) rfl fun a hF => q_skip hF (wanted_u hF rfl rfl rfl) rfl fun a hF => q_skip hF (wanted_u hF rfl rfl rfl) rfl fun a hF => q_skip hF (wanted_f hF rfl rfl rfl rfl rfl) rfl fun a hF => q_x (v := (.bool true)) hF hS (ex_pick_t rfl rfl rfl) rfl rfl fun a hF => q_end (n_jn ?_)
           obtain rfl := someI hj11
           exact ⟨hF.sub ⟨rfl, rfl, rfl, rfl, rfl, rfl, rfl, rfl, rfl, rfl, trivial⟩, hS⟩
         ·have hj11 := cond_t hc12 hj11
          refine q_skip hF (wanted_f hF rfl rfl rfl hc12 rfl) rfl fun a hF => q_skip hF (wanted_f hF rfl rfl rfl hc12 rfl) rfl fun a hF => q_skip hF (wanted_f hF rfl rfl rfl hc12 rfl) rfl fun a hF => q_skip hF (wanted_f hF rfl rfl rfl hc12 rfl) rfl fun a hF => q_x (v := (.bool true)) hF hS (ex_pick_t rfl rfl hc12) rfl rfl fun a hF => q_x (v := (.bool true)) hF hS (ex_move rfl) rfl rfl fun a hF => q_skip hF (wanted_f hF rfl rfl rfl rfl rfl) rfl fun a hF => q_skip hF (wanted_f hF rfl rfl rfl rfl rfl) rfl fun a hF => q_skip hF (wanted_f hF rfl rfl rfl rfl rfl) rfl fun a hF => q_x (v := (.bool true)) hF hS (ex_pick_t rfl rfl rfl) rfl rfl fun a hF => q_x (v := (.bool true)) hF hS (ex_move rfl) rfl rfl fun a hF => q_skip hF (wanted_f hF rfl rfl rfl rfl rfl) rfl fun a hF => q_skip hF (wanted_f hF rfl rfl rfl rfl rfl) rfl fun a hF => q_skip hF (wanted_f hF rfl rfl rfl rfl rfl) rfl fun a hF => q_skip hF (wanted_f hF rfl rfl rfl rfl rfl) rfl fun a hF => q_skip hF (wanted_f hF rfl rfl rfl rfl rfl) rfl fun a hF => q_skip hF (wanted_f hF rfl rfl rfl rfl rfl) rfl fun a hF => q_skip hF (wanted_u hF rfl rfl rfl) rfl fun a hF => q_skip hF (wanted_u hF rfl rfl rfl) rfl fun a hF => q_skip hF (wanted_u hF rfl rfl rfl) rfl fun a hF => q_skip hF (wanted_u hF rfl rfl rfl) rfl fun a hF => q_skip hF (wanted_u hF rfl rfl rfl) rfl fun a hF => q_skip hF (wanted_u hF rfl rfl rfl) rfl fun a hF => q_skip hF (wanted_u hF rfl rfl rfl) rfl fun a hF => q_skip hF (wanted_u hF rfl rfl rfl) rfl fun a hF => ?_
          refine q_skip hF (wanted_u hF rfl rfl rfl) rfl fun a hF => q_skip hF (wanted_u hF rfl rfl rfl) rfl fun a hF => q_skip hF (wanted_f hF rfl rfl rfl rfl rfl) rfl fun a hF => q_x (v := (.bool true)) hF hS (ex_pick_t rfl rfl rfl) rfl rfl fun a hF => q_end (n_jn ?_)
          obtain rfl := someI hj11
          exact ⟨hF.sub ⟨rfl, rfl, rfl, rfl, rfl, rfl, rfl, rfl, rfl, rfl, trivial⟩, hS⟩
        ·rintro a w ⟨hF, hS⟩
         refine n_sq ?_
         obtain ⟨t_51, hj17, hb7⟩ := bindS hb7
         refine q_join (fun a w => ∃ (q52 : Piece), ∃ (s52 : Sl), Fr a 137 [(1, s2.v), (4, (.pointer (some ⟨b7, 0, none⟩))), (6, (.pointer (some ⟨b8, 0, none⟩))), (7, (.pointer (some ⟨b9, 0, none⟩))), (8, (.pointer (some ⟨b10, 0, none⟩))), (10, (.pointer (some ⟨b22, 0, none⟩))), (45, (.int .i64 (goLen p_s))), (46, (.int .i64 t_27))] ∧ St [] w0 w m [q52, q44, [⟨b22, [(.int .i64 t_51.Level), s52.v, s24.v, (.int .i64 t_51.Sum)], 29⟩], [⟨b10, [(.int .i64 0), nilS.v, nilS.v, (.int .i64 0)], 29⟩], [⟨b9, [(.int .i64 p_b.Level), s5.v, s6.v, (.int .i64 p_b.Sum)], 29⟩], [⟨b8, [(.int .i64 p_a.Level), s3.v, s4.v, (.int .i64 p_a.Sum)], 29⟩], [⟨b7, [s1.v], 26⟩]] ∧ OwnL m 3 q52 s52 t_51.Vars ∧ OwnL m 3 q44 s24 t_51.Where) ?_ ?_
         ·rcases bcase (t_47) with hc18 | hc18
          ·have hj17 := cond_f hc18 hj17
           refine q_cond_f hF rfl hc18 (q_skipc (n_jn ?_))
           obtain rfl := someI hj17
           exact ⟨q29, s29, hF.sub ⟨rfl, rfl, rfl, rfl, rfl, rfl, rfl, rfl, trivial⟩, hS, h43, h44⟩
          ·have hj17 := cond_t hc18 hj17
           refine q_cond_t hF rfl hc18 (q_region (q_x (v := (.pointer (some ⟨b22, 1, none⟩))) hF hS (ex_fieldAddr Try.underlying29 rfl sz24 rfl rfl) rfl rfl fun a hF => q_x (v := s29.v) hF hS (ex_load1 2 0 Try.underlying24 rfl rfl rfl rfl) rfl rfl fun a hF => q_x (v := (.int .i64 t_27)) hF hS (ex_move rfl) rfl rfl fun a hF => q_do rfl fun _ hK => wp_buildSlice' (l := ([t_27] : List Int)) (cells := [(.int .i64 t_27)]) hF hS Try.underlying24 inf3 rfl rfl (by kernel_rfl) rfl rfl rfl ⟨rfl, rfl⟩ rfl rfl fun a w q48 s48 hF hS h48 _ => hK _ _ ?_))
           have hS : St _ _ _ _ [q29, q48, q44, [⟨b22, [(.int .i64 t_42.Level), s29.v, s24.v, (.int .i64 t_42.Sum)], 29⟩], [⟨b10, [(.int .i64 0), nilS.v, nilS.v, (.int .i64 0)], 29⟩], [⟨b9, [(.int .i64 p_b.Level), s5.v, s6.v, (.int .i64 p_b.Sum)], 29⟩], [⟨b8, [(.int .i64 p_a.Level), s3.v, s4.v, (.int .i64 p_a.Sum)], 29⟩], [⟨b7, [s1.v], 26⟩]] := hS.sel [1, 0, 2, 3, 4, 5, 6, 7] (by decide)
           obtain ⟨l_49, hl_49, hj17⟩ := bindS hj17
           refine q_do rfl fun _ hK => wp_append hF hS h43 Try.underlying24 inf3 rfl rfl rfl rfl (h48.vw hS (j := 1) rfl) rfl (by decide) hl_49 rfl fun a w q50 s50 hF hS h50 => hK _ _ (q_x (v := (.pointer (some ⟨b22, 1, none⟩))) hF hS (ex_fieldAddr Try.underlying29 rfl sz24 rfl rfl) rfl rfl fun a hF => q_store (vs := [s50.v]) (cs' := [(.int .i64 t_42.Level), s50.v, s24.v, (.int .i64 t_42.Sum)]) 3 0 hF hS sz24 rfl rfl rfl rfl rfl rfl rfl rfl fun a w hF hS => q_end (n_jn ?_))
           obtain rfl := someI hj17
           exact ⟨q50, s50, hF.sub ⟨rfl, rfl, rfl, rfl, rfl, rfl, rfl, rfl, trivial⟩, hS.mask [true, false, true, true, true, true, true, true], h50, h44⟩
         ·rintro a w ⟨q52, s52, hF, hS, h52, h53⟩
          refine n_ib (n_sq ?_)
          refine q_region (q_x (v := (.int .i64 (w64 (t_27 + 1)))) hF hS (ex_ibin rfl rfl rfl) rfl rfl fun a hF => q_x (v := (.int .i64 (w64 (t_27 + 1)))) hF hS (ex_move rfl) rfl rfl fun a hF => q_end ?_)
          obtain rfl := someI hb7
          exact ⟨rfl, q52, s52, q44, _, _, rfl, hF.sub ⟨rfl, rfl, rfl, rfl, rfl, rfl, rfl, rfl, trivial⟩, hS, h52, h53⟩
     ·rintro e a w ⟨q55, s55, q56, rfl, hF, hS, h55, h56⟩
      refine x_ib (n_sq ?_)
      refine q_seq (q_seq ?_)
      obtain ⟨t_63, hj19, hr⟩ := bindS hr
      refine q_join (fun a w => Fr a 137 [(8, (.pointer (some ⟨b10, 0, none⟩))), (10, (.pointer (some ⟨b22, 0, none⟩))), (134, (.bool t_63))] ∧ St [] w0 w m [q55, q56, [⟨b22, [(.int .i64 t_54.Level), s55.v, s24.v, (.int .i64 t_54.Sum)], 29⟩], [⟨b10, [(.int .i64 0), nilS.v, nilS.v, (.int .i64 0)], 29⟩]]) ?_ ?_
      ·refine q_region (q_x (v := (.agg #[s1.v])) hF hS (ex_loadA (vs := [s1.v]) 6 0 Try.underlying26 rfl sz26 rfl rfl rfl rfl) rfl rfl fun a hF => q_x (v := s2.v) hF hS (ex_move rfl) rfl rfl fun a hF => q_x (v := (.agg #[(.int .i64 t_54.Level), s55.v, s24.v, (.int .i64 t_54.Sum)])) hF hS (ex_loadA (vs := [(.int .i64 t_54.Level), s55.v, s24.v, (.int .i64 t_54.Sum)]) 2 0 Try.underlying29 rfl sz29 rfl rfl rfl rfl) rfl rfl fun a hF => ?_)
       obtain ⟨m58, hl58, hv58, hz58⟩ := hS.lend
       obtain ⟨t_57, ht_57, hj19⟩ := bindS hj19
       refine q_call (vs := [(.agg #[s1.v]), s2.v, (.agg #[(.int .i64 t_54.Level), s55.v, s24.v, (.int .i64 t_54.Sum)])]) hF hS Try.func30 (by kernel_rfl) rfl rfl rfl (c_impl_isTable p_g p_s t_54 t_57 ht_57 _ m58 hv58 s1 (h1.mono hl58) s2 (h2.mono hl58) s55 (h55.froz hl58 (hz58 0 _ rfl)) s24 (h56.froz hl58 (hz58 1 _ rfl))) ?_
       rintro a w _ rfl hF hS
       refine q_x (v := (.bool (!t_57))) hF hS (ex_not rfl) rfl rfl fun a hF => q_x (v := (.bool (!t_57))) hF hS (ex_move rfl) rfl rfl fun a hF => ?_
       rcases bcase (!t_57) with hc20 | hc20
       ·have hj19 := cond_f hc20 hj19
        refine q_xg (v := (.agg #[s1.v])) hF hS (ex_loadA (vs := [s1.v]) 6 0 Try.underlying26 rfl sz26 rfl rfl rfl rfl) (wanted_t hF rfl rfl rfl hc20) rfl fun a hF => q_xg (v := s2.v) hF hS (ex_move rfl) (wanted_t hF rfl rfl rfl hc20) rfl fun a hF => q_xg (v := (.agg #[(.int .i64 p_a.Level), s3.v, s4.v, (.int .i64 p_a.Sum)])) hF hS (ex_loadA (vs := [(.int .i64 p_a.Level), s3.v, s4.v, (.int .i64 p_a.Sum)]) 5 0 Try.underlying29 rfl sz29 rfl rfl rfl rfl) (wanted_t hF rfl rfl rfl hc20) rfl fun a hF => q_xg (v := (.agg #[(.int .i64 t_54.Level), s55.v, s24.v, (.int .i64 t_54.Sum)])) hF hS (ex_loadA (vs := [(.int .i64 t_54.Level), s55.v, s24.v, (.int .i64 t_54.Sum)]) 2 0 Try.underlying29 rfl sz29 rfl rfl rfl rfl) (wanted_t hF rfl rfl rfl hc20) rfl fun a hF => ?_
        obtain ⟨m60, hl60, hv60, hz60⟩ := hS.lend
        obtain ⟨t_59, ht_59, hj19⟩ := bindS hj19
        refine q_callg (vs := [(.agg #[s1.v]), s2.v, (.agg #[(.int .i64 p_a.Level), s3.v, s4.v, (.int .i64 p_a.Sum)]), (.agg #[(.int .i64 t_54.Level), s55.v, s24.v, (.int .i64 t_54.Sum)])]) hF hS (wanted_t hF rfl rfl rfl hc20) Try.func34 (by kernel_rfl) rfl rfl rfl (c_impl_followsFrom p_g p_s p_a t_54 t_59 ht_59 _ m60 hv60 s1 (h1.mono hl60) s2 (h2.mono hl60) s3 (h3.mono hl60) s4 (h4.mono hl60) s55 (h55.froz hl60 (hz60 0 _ rfl)) s24 (h56.froz hl60 (hz60 1 _ rfl))) ?_
        rintro a w _ rfl hF hS
        refine q_xg (v := (.bool (!t_59))) hF hS (ex_not rfl) (wanted_t hF rfl rfl rfl hc20) rfl fun a hF => q_x (v := (.bool (!t_59))) hF hS (ex_pick_f rfl rfl hc20) rfl rfl fun a hF => q_x (v := (.bool (!t_59))) hF hS (ex_move rfl) rfl rfl fun a hF => ?_
        rcases bcase (!t_59) with hc21 | hc21
        ·have hj19 := cond_f hc21 hj19
         refine q_xg (v := (.agg #[s1.v])) hF hS (ex_loadA (vs := [s1.v]) 6 0 Try.underlying26 rfl sz26 rfl rfl rfl rfl) (wanted_t hF rfl rfl rfl hc21) rfl fun a hF => q_xg (v := s2.v) hF hS (ex_move rfl) (wanted_t hF rfl rfl rfl hc21) rfl fun a hF => q_xg (v := (.agg #[(.int .i64 p_b.Level), s5.v, s6.v, (.int .i64 p_b.Sum)])) hF hS (ex_loadA (vs := [(.int .i64 p_b.Level), s5.v, s6.v, (.int .i64 p_b.Sum)]) 4 0 Try.underlying29 rfl sz29 rfl rfl rfl rfl) (wanted_t hF rfl rfl rfl hc21) rfl fun a hF => q_xg (v := (.agg #[(.int .i64 t_54.Level), s55.v, s24.v, (.int .i64 t_54.Sum)])) hF hS (ex_loadA (vs := [(.int .i64 t_54.Level), s55.v, s24.v, (.int .i64 t_54.Sum)]) 2 0 Try.underlying29 rfl sz29 rfl rfl rfl rfl) (wanted_t hF rfl rfl rfl hc21) rfl fun a hF => ?_
         obtain ⟨m62, hl62, hv62, hz62⟩ := hS.lend
         obtain ⟨t_61, ht_61, hj19⟩ := bindS hj19
         refine q_callg (vs := [(.agg #[s1.v]), s2.v, (.agg #[(.int .i64 p_b.Level), s5.v, s6.v, (.int .i64 p_b.Sum)]), (.agg #[(.int .i64 t_54.Level), s55.v, s24.v, (.int .i64 t_54.Sum)])]) hF hS (wanted_t hF rfl rfl rfl hc21) Try.func34 (by kernel_rfl) rfl rfl rfl (c_impl_followsFrom p_g p_s p_b t_54 t_61 ht_61 _ m62 hv62 s1 (h1.mono hl62) s2 (h2.mono hl62) s5 (h5.mono hl62) s6 (h6.mono hl62) s55 (h55.froz hl62 (hz62 0 _ rfl)) s24 (h56.froz hl62 (hz62 1 _ rfl))) ?_
         rintro a w _ rfl hF hS
         refine q_xg (v := (.bool (!t_61))) hF hS (ex_not rfl) (wanted_t hF rfl rfl rfl hc21) rfl fun a hF => q_x (v := (.bool (!t_61))) hF hS (ex_pick_f rfl rfl hc21) rfl rfl fun a hF => q_end (n_jn ?_)
         obtain rfl := someI hj19
         exact ⟨hF.sub ⟨rfl, rfl, rfl, trivial⟩, hS.mask [true, true, true, true, false, false, false]⟩
        ·have hj19 := cond_t hc21 hj19
         refine q_skip hF (wanted_f hF rfl rfl rfl hc21 rfl) rfl fun a hF => q_skip hF (wanted_f hF rfl rfl rfl hc21 rfl) rfl fun a hF => q_skip hF (wanted_f hF rfl rfl rfl hc21 rfl) rfl fun a hF => q_skip hF (wanted_f hF rfl rfl rfl hc21 rfl) rfl fun a hF => q_skip hF (wanted_f hF rfl rfl rfl hc21 rfl) rfl fun a hF => q_skip hF (wanted_f hF rfl rfl rfl hc21 rfl) rfl fun a hF => q_x (v := (.bool true)) hF hS (ex_pick_t rfl rfl hc21) rfl rfl fun a hF => q_end (n_jn ?_)
         obtain rfl := someI hj19
         exact ⟨hF.sub ⟨rfl, rfl, rfl, trivial⟩, hS.mask [true, true, true, true, false, false, false]⟩
       ·have hj19 := cond_t hc20 hj19
        refine q_skip hF (wanted_f hF rfl rfl rfl hc20 rfl) rfl fun a hF => q_skip hF (wanted_f hF rfl rfl rfl hc20 rfl) rfl fun a hF => q_skip hF (wanted_f hF rfl rfl rfl hc20 rfl) rfl fun a hF => q_skip hF (wanted_f hF rfl rfl rfl hc20 rfl) rfl fun a hF => q_skip hF (wanted_f hF rfl rfl rfl hc20 rfl) rfl fun a hF => q_skip hF (wanted_f hF rfl rfl rfl hc20 rfl) rfl fun a hF => q_x (v := (.bool true)) hF hS (ex_pick_t rfl rfl hc20) rfl rfl fun a hF => q_x (v := (.bool true)) hF hS (ex_move rfl) rfl rfl fun a hF => q_skip hF (wanted_f hF rfl rfl rfl rfl rfl) rfl fun a hF => q_skip hF (wanted_f hF rfl rfl rfl rfl rfl) rfl fun a hF => q_skip hF (wanted_f hF rfl rfl rfl rfl rfl) rfl fun a hF => q_skip hF (wanted_f hF rfl rfl rfl rfl rfl) rfl fun a hF => q_skip hF (wanted_f hF rfl rfl rfl rfl rfl) rfl fun a hF => q_skip hF (wanted_f hF rfl rfl rfl rfl rfl) rfl fun a hF => q_x (v := (.bool true)) hF hS (ex_pick_t rfl rfl rfl) rfl rfl fun a hF => q_end (n_jn ?_)
        obtain rfl := someI hj19
        exact ⟨hF.sub ⟨rfl, rfl, rfl, trivial⟩, hS.mask [true, true, true, true, false, false, false]⟩
      ·rintro a w ⟨hF, hS⟩
       refine n_sq ?_
       rcases bcase (t_63) with hc22 | hc22
       ·have hr := cond_f hc22 hr
        refine q_cond_f hF rfl hc22 (q_skipc (n_sq (q_seq (q_region (q_x (v := (.agg #[(.int .i64 t_54.Level), s55.v, s24.v, (.int .i64 t_54.Sum)])) hF hS (ex_loadA (vs := [(.int .i64 t_54.Level), s55.v, s24.v, (.int .i64 t_54.Sum)]) 2 0 Try.underlying29 rfl sz29 rfl rfl rfl rfl) rfl rfl fun a hF => q_store (vs := [(.int .i64 t_54.Level), s55.v, s24.v, (.int .i64 t_54.Sum)]) (cs' := [(.int .i64 t_54.Level), s55.v, s24.v, (.int .i64 t_54.Sum)]) 3 0 hF hS sz29 rfl rfl rfl rfl rfl rfl rfl rfl fun a w hF hS => q_x (v := (.bool true)) hF hS (ex_assign rfl) rfl rfl fun a hF => q_end (n_sq (q_ret ?_)))))))
        obtain rfl := someI hr
        exact ret_of hF hS rfl (.cellA (us := [(.int .i64 t_54.Level), s55.v, s24.v, (.int .i64 t_54.Sum)]) 3 0 Try.underlying29 rfl sz29 rfl rfl rfl rfl (.tmp rfl .nil)) ⟨q55, q56, s55, s24, rfl, hS.sel [0, 1] (by decide), h55, h56⟩
       ·have hr := cond_t hc22 hr
        refine q_cond_t hF rfl hc22 (q_seq (q_region (q_x (v := (.agg #[(.int .i64 0), nilS.v, nilS.v, (.int .i64 0)])) hF hS (ex_build (cells := [(.int .i64 0), nilS.v, nilS.v, (.int .i64 0)]) rfl (by kernel_rfl)) rfl rfl fun a hF => q_store (vs := [(.int .i64 0), nilS.v, nilS.v, (.int .i64 0)]) (cs' := [(.int .i64 0), nilS.v, nilS.v, (.int .i64 0)]) 3 0 hF hS sz29 rfl rfl rfl rfl rfl rfl rfl rfl fun a w hF hS => q_x (v := (.bool false)) hF hS (ex_assign rfl) rfl rfl fun a hF => q_end (n_sq (q_ret (r_sq ?_))))))
        obtain rfl := someI hr
        exact ret_of hF hS rfl (.cellA (us := [(.int .i64 0), nilS.v, nilS.v, (.int .i64 0)]) 3 0 Try.underlying29 rfl sz29 rfl rfl rfl rfl (.tmp rfl .nil)) ⟨[], [], nilS, nilS, rfl, hS.sel [4, 5] (by decide), (OwnL.nil (α := Int) m 3), (OwnL.nil (α := Int) m 3)⟩
  ·have hr := cond_t hc3 hr
   refine q_cond_t hF rfl hc3 (q_seq (q_region (q_x (v := (.agg #[(.int .i64 0), nilS.v, nilS.v, (.int .i64 0)])) hF hS (ex_build (cells := [(.int .i64 0), nilS.v, nilS.v, (.int .i64 0)]) rfl (by kernel_rfl)) rfl rfl fun a hF => q_store (vs := [(.int .i64 0), nilS.v, nilS.v, (.int .i64 0)]) (cs' := [(.int .i64 0), nilS.v, nilS.v, (.int .i64 0)]) 0 0 hF hS sz29 rfl rfl rfl rfl rfl rfl rfl rfl fun a w hF hS => q_x (v := (.bool false)) hF hS (ex_assign rfl) rfl rfl fun a hF => q_end (n_sq (q_ret (r_sq ?_))))))
   obtain rfl := someI hr
   exact ret_of hF hS rfl (.cellA (us := [(.int .i64 0), nilS.v, nilS.v, (.int .i64 0)]) 0 0 Try.underlying29 rfl sz29 rfl rfl rfl rfl (.tmp rfl .nil)) ⟨[], [], nilS, nilS, rfl, hS.sel [4, 5] (by decide), (OwnL.nil (α := Int) m 3), (OwnL.nil (α := Int) m 3)⟩

theorem c_spec_sName (p_s : List UInt8) (r : Bool) (hr : spec_sName p_s = some r) (w0 : World) (m : Mem) (hv : Vis m w0) :
  Ret Try.prog 92 [(strV p_s)] w0 (fun v _ => v = (.bool r)) := by
 unfold spec_sName at hr
 refine ret_start Try.func92 rfl 23 rfl rfl m hv fun a hF hS => q_seq (q_region (q_x (v := (.bool false)) hF hS (ex_assign rfl) rfl rfl fun a hF => q_end (n_sq (q_seq (q_seq (q_region (q_x (v := (.int .i64 0)) hF hS (ex_assign rfl) rfl rfl fun a hF => q_end (n_sq (q_block ?_)))))))))
 obtain ⟨o1, hl1, hr⟩ := bindS hr
 refine q_loop (fun (i_1 : Int) a w => Fr a 23 [(0, (strV p_s)), (3, (.int .i64 i_1))] ∧ St [] w0 w m []) (fun (o : (Unit) ⊕ (Bool)) e a w => o = .inl () ∧ e = .exit 0 ∧ Fr a 23 [(0, (strV p_s))] ∧ St [] w0 w m []) hl1 ⟨hF.sub ⟨rfl, rfl, trivial⟩, hS⟩ ?_ ?_
 ·clear hF hS
  rintro i_1 a w st ⟨hF, hS⟩ hb1
  unfold spec_sName_l1 at hb1
  refine q_seq (q_seq (q_region (q_x (v := (.int .i64 i_1)) hF hS (ex_move rfl) rfl rfl fun a hF => q_x (v := (strV p_s)) hF hS (ex_move rfl) rfl rfl fun a hF => q_x (v := (.int .i64 (goLen p_s))) hF hS (ex_strLen Try.underlying9 rfl) rfl rfl fun a hF => q_x (v := (.bool (decide (i_1 < (goLen p_s))))) hF hS (ex_ibin rfl rfl rfl) rfl rfl fun a hF => q_end (n_sq ?_))))
  rcases bcase (decide (i_1 < (goLen p_s))) with hc2 | hc2
  ·have hb1 := cond_f hc2 hb1
   refine q_cond_f hF rfl hc2 (q_exit (x_sq ?_))
   obtain rfl := someI hb1
   exact ⟨nofun, .inl ⟨rfl, rfl, hF.sub ⟨rfl, trivial⟩, hS⟩⟩
  ·have hb1 := cond_t hc2 hb1
   refine q_cond_t hF rfl hc2 (q_skipc (n_sq (q_seq (q_block (q_seq ?_)))))
   obtain ⟨t_4, hj3, hb1⟩ := bindS hb1
   refine q_join (fun a w => Fr a 23 [(0, (strV p_s)), (3, (.int .i64 i_1)), (19, (.bool t_4))] ∧ St [] w0 w m []) ?_ ?_
   ·refine q_region (q_x (v := (strV p_s)) hF hS (ex_move rfl) rfl rfl fun a hF => q_x (v := (.int .i64 i_1)) hF hS (ex_move rfl) rfl rfl fun a hF => ?_)
    obtain ⟨t_2, ht_2, hj3⟩ := bindS hj3
    refine q_x (v := (.int .u8 t_2)) hF hS (ex_strIdx Try.underlying9 rfl rfl ht_2) rfl rfl fun a hF => q_x (v := (.bool (decide (t_2 < 97)))) hF hS (ex_ibin rfl rfl rfl) rfl rfl fun a hF => q_x (v := (.bool (decide (t_2 < 97)))) hF hS (ex_move rfl) rfl rfl fun a hF => ?_
    rcases bcase (decide (t_2 < 97)) with hc4 | hc4
    ·have hj3 := cond_f hc4 hj3
     refine q_xg (v := (strV p_s)) hF hS (ex_move rfl) (wanted_t hF rfl rfl rfl hc4) rfl fun a hF => q_xg (v := (.int .i64 i_1)) hF hS (ex_move rfl) (wanted_t hF rfl rfl rfl hc4) rfl fun a hF => ?_
     obtain ⟨t_3, ht_3, hj3⟩ := bindS hj3
     refine q_xg (v := (.int .u8 t_3)) hF hS (ex_strIdx Try.underlying9 rfl rfl ht_3) (wanted_t hF rfl rfl rfl hc4) rfl fun a hF => q_xg (v := (.bool (decide (122 < t_3)))) hF hS (ex_ibin rfl rfl rfl) (wanted_t hF rfl rfl rfl hc4) rfl fun a hF => q_x (v := (.bool (decide (122 < t_3)))) hF hS (ex_pick_f rfl rfl hc4) rfl rfl fun a hF => q_end (n_jn ?_)
     obtain rfl := someI hj3
     exact ⟨hF.sub ⟨rfl, rfl, rfl, trivial⟩, hS⟩
    ·have hj3 := cond_t hc4 hj3
     refine q_skip hF (wanted_f hF rfl rfl rfl hc4 rfl) rfl fun a hF => q_skip hF (wanted_f hF rfl rfl rfl hc4 rfl) rfl fun a hF => q_skip hF (wanted_f hF rfl rfl rfl hc4 rfl) rfl fun a hF => q_skip hF (wanted_f hF rfl rfl rfl hc4 rfl) rfl fun a hF => q_x (v := (.bool true)) hF hS (ex_pick_t rfl rfl hc4) rfl rfl fun a hF => q_end (n_jn ?_)
     obtain rfl := someI hj3
     exact ⟨hF.sub ⟨rfl, rfl, rfl, trivial⟩, hS⟩
   ·rintro a w ⟨hF, hS⟩
    refine n_sq ?_
    rcases bcase (t_4) with hc5 | hc5
    ·have hb1 := cond_f hc5 hb1
     refine q_cond_f hF rfl hc5 (q_skipc (n_ib (n_sq (q_region (q_x (v := (.int .i64 i_1)) hF hS (ex_move rfl) rfl rfl fun a hF => q_x (v := (.int .i64 (w64 (i_1 + 1)))) hF hS (ex_ibin rfl rfl rfl) rfl rfl fun a hF => q_x (v := (.int .i64 (w64 (i_1 + 1)))) hF hS (ex_assign rfl) rfl rfl fun a hF => q_end ?_)))))
     obtain rfl := someI hb1
     exact ⟨rfl, hF.sub ⟨rfl, rfl, trivial⟩, hS⟩
    ·have hb1 := cond_t hc5 hb1
     refine q_cond_t hF rfl hc5 (q_seq (q_region (q_x (v := (.bool false)) hF hS (ex_assign rfl) rfl rfl fun a hF => q_end (n_sq (q_ret (r_ib (r_sq ?_)))))))
     obtain rfl := someI hb1
     refine ⟨nofun, .inr fun ho => ?_⟩
     subst ho
     refine r_ib (r_sq ?_)
     obtain rfl := someI hr
     exact ret_of hF hS rfl (.tmp rfl .nil) rfl
 ·rintro e a w ⟨rfl, rfl, hF, hS⟩
  refine x_ib (n_sq ?_)
  refine q_seq (q_region (q_x (v := (strV p_s)) hF hS (ex_move rfl) rfl rfl fun a hF => q_x (v := (.int .i64 (goLen p_s))) hF hS (ex_strLen Try.underlying9 rfl) rfl rfl fun a hF => ?_))
  obtain ⟨t_5, ht_5, hr⟩ := bindS hr
  refine q_call (vs := [(.int .i64 (goLen p_s)), (.int .i64 1), (.int .i64 8)]) hF hS Try.func67 (by kernel_rfl) rfl rfl rfl (c_spec_l1In (goLen p_s) 1 8 t_5 ht_5 _ m hS.vis) ?_
  rintro a w _ rfl hF hS
  refine q_x (v := (.bool t_5)) hF hS (ex_assign rfl) rfl rfl fun a hF => q_end (n_sq (q_ret ?_))
  obtain rfl := someI hr
  exact ret_of hF hS rfl (.tmp rfl .nil) rfl

theorem c_spec_sFind (p_s : List impl_Variable) (p_name : List UInt8) (r : Int) (hr : spec_sFind p_s p_name = some r) (w0 : World) (m : Mem) (hv : Vis m w0) (s1 : Sl) (h1 : Rd m s1 p_s) :
  Ret Try.prog 93 [s1.v, (strV p_name)] w0 (fun v _ => v = (.int .i64 r)) := by
 unfold spec_sFind at hr
 refine ret_start Try.func93 rfl 20 rfl rfl m hv fun a hF hS => q_seq (q_region (q_x (v := (.int .i64 0)) hF hS (ex_assign rfl) rfl rfl fun a hF => q_end (n_sq (q_seq (q_seq (q_region (q_x (v := s1.v) hF hS (ex_move rfl) rfl rfl fun a hF => q_x (v := (.int .i64 (goLen p_s))) hF hS (ex_len Try.underlying27 rfl h1.len) rfl rfl fun a hF => q_x (v := (.int .i64 0)) hF hS (ex_move rfl) rfl rfl fun a hF => q_end (n_sq (q_block ?_)))))))))
 obtain ⟨o1, hl1, hr⟩ := bindS hr
 refine q_loop (fun (t_2 : Int) a w => Fr a 20 [(1, (strV p_name)), (7, s1.v), (8, (.int .i64 (goLen p_s))), (9, (.int .i64 t_2))] ∧ St [] w0 w m []) (fun (o : (Unit) ⊕ (Int)) e a w => o = .inl () ∧ e = .exit 0 ∧ Fr a 20 [] ∧ St [] w0 w m []) hl1 ⟨hF.sub ⟨rfl, rfl, rfl, rfl, trivial⟩, hS⟩ ?_ ?_
 ·clear hF hS
  rintro t_2 a w st ⟨hF, hS⟩ hb1
  unfold spec_sFind_l1 at hb1
  refine q_seq (q_region (q_x (v := (.bool (decide (t_2 < (goLen p_s))))) hF hS (ex_ibin rfl rfl rfl) rfl rfl fun a hF => q_end (n_sq (q_seq ?_))))
  rcases bcase (decide (t_2 < (goLen p_s))) with hc2 | hc2
  ·have hb1 := cond_f hc2 hb1
   refine q_cond_f hF rfl hc2 (q_exit (x_sq ?_))
   obtain rfl := someI hb1
   exact ⟨nofun, .inl ⟨rfl, rfl, hF.sub trivial, hS⟩⟩
  ·have hb1 := cond_t hc2 hb1
   refine q_cond_t hF rfl hc2 (q_skipc (n_sq (q_seq (q_block (q_seq (q_region (q_x (v := (.int .i64 t_2)) hF hS (ex_move rfl) rfl rfl fun a hF => ?_)))))))
   obtain ⟨e_3, he_3, hb1⟩ := bindS hb1
   obtain ⟨vs4, at4, d4⟩ := h1.at he_3 2 rfl
   obtain rfl : vs4 = [(strV e_3.Name), (.int .i64 e_3.Levels)] := d4
   refine q_x (v := (elP s1 (t_2.toNat * 2))) hF hS (ex_indexAddr Try.underlying27 sz58 rfl rfl (h1.idx he_3)) rfl rfl fun a hF => q_x (v := (.agg #[(strV e_3.Name), (.int .i64 e_3.Levels)])) hF hS (ex_loadEA (us := [(strV e_3.Name), (.int .i64 e_3.Levels)]) 0 Try.underlying58 rfl sz58 rfl ((at4).at) rfl rfl rfl) rfl rfl fun a hF => q_alloc (cs := [(strV ([] : List UInt8)), (.int .i64 0)]) hF hS rfl rfl rfl fun a w b5 hF hS => q_x (v := (.int .i64 t_2)) hF hS (ex_assign rfl) rfl rfl fun a hF => q_store (vs := [(strV e_3.Name), (.int .i64 e_3.Levels)]) (cs' := [(strV e_3.Name), (.int .i64 e_3.Levels)]) 0 0 hF hS sz58 rfl rfl rfl rfl rfl rfl rfl rfl fun a w hF hS => q_end (n_sq (q_seq (q_region (q_x (v := (.pointer (some ⟨b5, 0, none⟩))) hF hS (ex_fieldAddr Try.underlying58 rfl sz9 rfl rfl) rfl rfl fun a hF => q_x (v := (strV e_3.Name)) hF hS (ex_load1 0 0 Try.underlying9 rfl rfl rfl rfl) rfl rfl fun a hF => q_x (v := (strV p_name)) hF hS (ex_move rfl) rfl rfl fun a hF => q_x (v := (.bool (e_3.Name == p_name))) hF hS (ex_strEq rfl rfl) rfl rfl fun a hF => q_end (n_sq ?_)))))
   rcases bcase (e_3.Name == p_name) with hc3 | hc3
   ·have hb1 := cond_f hc3 hb1
    refine q_cond_f hF rfl hc3 (q_skipc (n_ib (n_sq (q_region (q_x (v := (.int .i64 (w64 (t_2 + 1)))) hF hS (ex_ibin rfl rfl rfl) rfl rfl fun a hF => q_x (v := (.int .i64 (w64 (t_2 + 1)))) hF hS (ex_move rfl) rfl rfl fun a hF => q_end ?_)))))
    obtain rfl := someI hb1
    exact ⟨rfl, hF.sub ⟨rfl, rfl, rfl, rfl, trivial⟩, hS.mask [false]⟩
   ·have hb1 := cond_t hc3 hb1
    refine q_cond_t hF rfl hc3 (q_seq (q_region (q_x (v := (.int .i64 t_2)) hF hS (ex_move rfl) rfl rfl fun a hF => q_x (v := (.int .i64 t_2)) hF hS (ex_assign rfl) rfl rfl fun a hF => q_end (n_sq (q_ret (r_ib (r_sq ?_)))))))
    obtain rfl := someI hb1
    refine ⟨nofun, .inr fun ho => ?_⟩
    subst ho
    refine r_ib (r_sq ?_)
    obtain rfl := someI hr
    exact ret_of hF hS rfl (.tmp rfl .nil) rfl
 ·rintro e a w ⟨rfl, rfl, hF, hS⟩
  refine x_ib (n_sq ?_)
  refine q_seq (q_region (q_x (v := (.int .i64 (-1))) hF hS (ex_assign rfl) rfl rfl fun a hF => q_end (n_sq (q_ret ?_))))
  obtain rfl := someI hr
  exact ret_of hF hS rfl (.tmp rfl .nil) rfl

theorem c_spec_sGood (p_s : List impl_Variable) (r : Bool) (hr : spec_sGood p_s = some r) (w0 : World) (m : Mem) (hv : Vis m w0) (s1 : Sl) (h1 : Rd m s1 p_s) :
  Ret Try.prog 63 [s1.v] w0 (fun v _ => v = (.bool r)) := by
 unfold spec_sGood at hr
 refine ret_start Try.func63 rfl 36 rfl rfl m hv fun a hF hS => q_seq (q_region (q_x (v := (.bool false)) hF hS (ex_assign rfl) rfl rfl fun a hF => q_end (n_sq (q_seq (q_seq (q_region (q_x (v := s1.v) hF hS (ex_move rfl) rfl rfl fun a hF => q_x (v := (.int .i64 (goLen p_s))) hF hS (ex_len Try.underlying27 rfl h1.len) rfl rfl fun a hF => ?_)))))))
 obtain ⟨t_2, ht_2, hr⟩ := bindS hr
 refine q_call (vs := [(.int .i64 (goLen p_s)), (.int .i64 1), (.int .i64 6)]) hF hS Try.func67 (by kernel_rfl) rfl rfl rfl (c_spec_l1In (goLen p_s) 1 6 t_2 ht_2 _ m hS.vis) ?_
 rintro a w _ rfl hF hS
 refine q_x (v := (.bool (!t_2))) hF hS (ex_not rfl) rfl rfl fun a hF => q_end (n_sq ?_)
 rcases bcase (!t_2) with hc1 | hc1
 ·have hr := cond_f hc1 hr
  refine q_cond_f hF rfl hc1 (q_skipc (n_sq (q_seq (q_seq (q_region (q_x (v := s1.v) hF hS (ex_move rfl) rfl rfl fun a hF => q_x (v := (.int .i64 (goLen p_s))) hF hS (ex_len Try.underlying27 rfl h1.len) rfl rfl fun a hF => q_x (v := (.int .i64 0)) hF hS (ex_move rfl) rfl rfl fun a hF => q_end (n_sq (q_block ?_))))))))
  obtain ⟨o2, hl2, hr⟩ := bindS hr
  refine q_loop (fun (t_3 : Int) a w => Fr a 36 [(0, s1.v), (9, s1.v), (10, (.int .i64 (goLen p_s))), (11, (.int .i64 t_3))] ∧ St [] w0 w m []) (fun (o : (Unit) ⊕ (Bool)) e a w => o = .inl () ∧ e = .exit 0 ∧ Fr a 36 [] ∧ St [] w0 w m []) hl2 ⟨hF.sub ⟨rfl, rfl, rfl, rfl, trivial⟩, hS⟩ ?_ ?_
  ·clear hF hS
   rintro t_3 a w st ⟨hF, hS⟩ hb2
   unfold spec_sGood_l1 at hb2
   refine q_seq (q_region (q_x (v := (.bool (decide (t_3 < (goLen p_s))))) hF hS (ex_ibin rfl rfl rfl) rfl rfl fun a hF => q_end (n_sq (q_seq ?_))))
   rcases bcase (decide (t_3 < (goLen p_s))) with hc3 | hc3
   ·have hb2 := cond_f hc3 hb2
    refine q_cond_f hF rfl hc3 (q_exit (x_sq ?_))
    obtain rfl := someI hb2
    exact ⟨nofun, .inl ⟨rfl, rfl, hF.sub trivial, hS⟩⟩
   ·have hb2 := cond_t hc3 hb2
    refine q_cond_t hF rfl hc3 (q_skipc (n_sq (q_seq (q_block (q_seq (q_region (q_x (v := (.int .i64 t_3)) hF hS (ex_move rfl) rfl rfl fun a hF => ?_)))))))
    obtain ⟨e_4, he_4, hb2⟩ := bindS hb2
    obtain ⟨vs5, at5, d5⟩ := h1.at he_4 2 rfl
    obtain rfl : vs5 = [(strV e_4.Name), (.int .i64 e_4.Levels)] := d5
    refine q_x (v := (elP s1 (t_3.toNat * 2))) hF hS (ex_indexAddr Try.underlying27 sz58 rfl rfl (h1.idx he_4)) rfl rfl fun a hF => q_x (v := (.agg #[(strV e_4.Name), (.int .i64 e_4.Levels)])) hF hS (ex_loadEA (us := [(strV e_4.Name), (.int .i64 e_4.Levels)]) 0 Try.underlying58 rfl sz58 rfl ((at5).at) rfl rfl rfl) rfl rfl fun a hF => q_alloc (cs := [(strV ([] : List UInt8)), (.int .i64 0)]) hF hS rfl rfl rfl fun a w b6 hF hS => q_x (v := (.int .i64 t_3)) hF hS (ex_assign rfl) rfl rfl fun a hF => q_store (vs := [(strV e_4.Name), (.int .i64 e_4.Levels)]) (cs' := [(strV e_4.Name), (.int .i64 e_4.Levels)]) 0 0 hF hS sz58 rfl rfl rfl rfl rfl rfl rfl rfl fun a w hF hS => q_end (n_sq (q_seq ?_))
    obtain ⟨t_12, hj4, hb2⟩ := bindS hb2
    refine q_join (fun a w => Fr a 36 [(0, s1.v), (9, s1.v), (10, (.int .i64 (goLen p_s))), (11, (.int .i64 t_3)), (34, (.bool t_12))] ∧ St [] w0 w m []) ?_ ?_
    ·refine e_region ⟨[], []⟩ mixed fun w' hw' => ?_
     have hS := hS.below hw'
     refine e_p (v := (.pointer (some ⟨b6, 0, none⟩))) 0 hF rfl (ex_fieldAddr Try.underlying58 rfl sz9 rfl rfl) rfl rfl (by kernel_rfl) (by kernel_rfl) (by kernel_rfl) fun a hF => e_x (v := (strV e_4.Name)) 1 hF hS rfl (ex_load1 0 0 Try.underlying9 rfl rfl rfl rfl) rfl rfl (by kernel_rfl) (by kernel_rfl) (by kernel_rfl) (by kernel_rfl) fun a hF => e_one 2 (by kernel_rfl) ?_
     obtain ⟨t_7, ht_7, hj4⟩ := bindS hj4
     refine e_call (vs := [(strV e_4.Name)]) hF hS rfl Try.func92 (by kernel_rfl) rfl rfl rfl (c_spec_sName e_4.Name t_7 ht_7 _ m hS.vis) ?_
     rintro a w _ rfl hF hS
     refine e_p (v := (.bool (!t_7))) 3 hF rfl (ex_not rfl) rfl rfl (by kernel_rfl) (by kernel_rfl) (by kernel_rfl) fun a hF => e_p (v := (.bool (!t_7))) 4 hF rfl (ex_move rfl) rfl rfl (by kernel_rfl) (by kernel_rfl) (by kernel_rfl) fun a hF => ?_
     rcases bcase (!t_7) with hc5 | hc5
     ·have hj4 := cond_f hc5 hj4
      refine e_pg (v := (.pointer (some ⟨b6, 1, none⟩))) 5 hF rfl (ex_fieldAddr Try.underlying58 rfl sz3 rfl rfl) (wanted_t hF rfl rfl rfl hc5) rfl (by kernel_rfl) (by kernel_rfl) (by kernel_rfl) fun a hF => e_xg (v := (.int .i64 e_4.Levels)) 6 hF hS rfl (ex_load1 0 0 Try.underlying3 rfl rfl rfl rfl) (wanted_t hF rfl rfl rfl hc5) rfl (by kernel_rfl) (by kernel_rfl) (by kernel_rfl) (by kernel_rfl) fun a hF => e_one 7 (by kernel_rfl) ?_
      obtain ⟨t_8, ht_8, hj4⟩ := bindS hj4
      refine e_callg (vs := [(.int .i64 e_4.Levels), (.int .i64 2), (.int .i64 8)]) hF hS rfl (wanted_t hF rfl rfl rfl hc5) Try.func67 (by kernel_rfl) rfl rfl rfl (c_spec_l1In e_4.Levels 2 8 t_8 ht_8 _ m hS.vis) ?_
      rintro a w _ rfl hF hS
      refine e_pg (v := (.bool (!t_8))) 8 hF rfl (ex_not rfl) (wanted_t hF rfl rfl rfl hc5) rfl (by kernel_rfl) (by kernel_rfl) (by kernel_rfl) fun a hF => e_p (v := (.bool (!t_8))) 9 hF rfl (ex_pick_f rfl rfl hc5) rfl rfl (by kernel_rfl) (by kernel_rfl) (by kernel_rfl) fun a hF => e_p (v := (.bool (!t_8))) 10 hF rfl (ex_move rfl) rfl rfl (by kernel_rfl) (by kernel_rfl) (by kernel_rfl) fun a hF => ?_
      rcases bcase (!t_8) with hc6 | hc6
      ·have hj4 := cond_f hc6 hj4
       refine e_pg (v := s1.v) 11 hF rfl (ex_move rfl) (wanted_t hF rfl rfl rfl hc6) rfl (by kernel_rfl) (by kernel_rfl) (by kernel_rfl) fun a hF => e_pg (v := (.int .i64 t_3)) 12 hF rfl (ex_move rfl) (wanted_t hF rfl rfl rfl hc6) rfl (by kernel_rfl) (by kernel_rfl) (by kernel_rfl) fun a hF => ?_
       obtain ⟨l_9, hl_9, hj4⟩ := bindS hj4
       have h10 : Rd m (subS s1 2 (0 : Int).toNat t_3.toNat s1.cap) l_9 := h1.sub' hl_9 2 rfl
       refine e_pg (v := (subS s1 2 (0 : Int).toNat t_3.toNat s1.cap).v) 13 hF rfl (ex_slice Try.underlying27 sz58 rfl rfl rfl (.inl ⟨rfl, rfl⟩) (.inr ⟨_, rfl⟩) (h1.subok hl_9)) (wanted_t hF rfl rfl rfl hc6) rfl (by kernel_rfl) (by kernel_rfl) (by kernel_rfl) fun a hF => e_pg (v := (.pointer (some ⟨b6, 0, none⟩))) 14 hF rfl (ex_fieldAddr Try.underlying58 rfl sz9 rfl rfl) (wanted_t hF rfl rfl rfl hc6) rfl (by kernel_rfl) (by kernel_rfl) (by kernel_rfl) fun a hF => e_xg (v := (strV e_4.Name)) 15 hF hS rfl (ex_load1 0 0 Try.underlying9 rfl rfl rfl rfl) (wanted_t hF rfl rfl rfl hc6) rfl (by kernel_rfl) (by kernel_rfl) (by kernel_rfl) (by kernel_rfl) fun a hF => e_one 16 (by kernel_rfl) ?_
       obtain ⟨t_11, ht_11, hj4⟩ := bindS hj4
       refine e_callg (vs := [(subS s1 2 (0 : Int).toNat t_3.toNat s1.cap).v, (strV e_4.Name)]) hF hS rfl (wanted_t hF rfl rfl rfl hc6) Try.func93 (by kernel_rfl) rfl rfl rfl (c_spec_sFind l_9 e_4.Name t_11 ht_11 _ m hS.vis (subS s1 2 (0 : Int).toNat t_3.toNat s1.cap) h10) ?_
       rintro a w _ rfl hF hS
       refine e_pg (v := (.bool (decide (0 ≤ t_11)))) 17 hF rfl (ex_ibin rfl rfl rfl) (wanted_t hF rfl rfl rfl hc6) rfl (by kernel_rfl) (by kernel_rfl) (by kernel_rfl) fun a hF => e_p (v := (.bool (decide (0 ≤ t_11)))) 18 hF rfl (ex_pick_f rfl rfl hc6) rfl rfl (by kernel_rfl) (by kernel_rfl) (by kernel_rfl) fun a hF => e_end (by kernel_rfl) (n_jn ?_) _
       obtain rfl := someI hj4
       exact ⟨hF.sub ⟨rfl, rfl, rfl, rfl, rfl, trivial⟩, hS.mask [false]⟩
      ·have hj4 := cond_t hc6 hj4
       refine e_skipP 11 hF rfl (wanted_f hF rfl rfl rfl hc6 rfl) rfl (by kernel_rfl) (by kernel_rfl) (by kernel_rfl) fun a hF => e_skipP 12 hF rfl (wanted_f hF rfl rfl rfl hc6 rfl) rfl (by kernel_rfl) (by kernel_rfl) (by kernel_rfl) fun a hF => e_skipP 13 hF rfl (wanted_f hF rfl rfl rfl hc6 rfl) rfl (by kernel_rfl) (by kernel_rfl) (by kernel_rfl) fun a hF => e_skipP 14 hF rfl (wanted_f hF rfl rfl rfl hc6 rfl) rfl (by kernel_rfl) (by kernel_rfl) (by kernel_rfl) fun a hF => e_skipP 15 hF rfl (wanted_f hF rfl rfl rfl hc6 rfl) rfl (by kernel_rfl) (by kernel_rfl) (by kernel_rfl) fun a hF => e_skipP 16 hF rfl (wanted_f hF rfl rfl rfl hc6 rfl) rfl (by kernel_rfl) (by kernel_rfl) (by kernel_rfl) fun a hF => e_skipP 17 hF rfl (wanted_f hF rfl rfl rfl hc6 rfl) rfl (by kernel_rfl) (by kernel_rfl) (by kernel_rfl) fun a hF => e_p (v := (.bool true)) 18 hF rfl (ex_pick_t rfl rfl hc6) rfl rfl (by kernel_rfl) (by kernel_rfl) (by kernel_rfl) fun a hF => e_end (by kernel_rfl) (n_jn ?_) _
       obtain rfl := someI hj4
       exact ⟨hF.sub ⟨rfl, rfl, rfl, rfl, rfl, trivial⟩, hS.mask [false]⟩
     ·have hj4 := cond_t hc5 hj4
      refine e_skipP 5 hF rfl (wanted_f hF rfl rfl rfl hc5 rfl) rfl (by kernel_rfl) (by kernel_rfl) (by kernel_rfl) fun a hF => e_skipP 6 hF rfl (wanted_f hF rfl rfl rfl hc5 rfl) rfl (by kernel_rfl) (by kernel_rfl) (by kernel_rfl) fun a hF => e_skipP 7 hF rfl (wanted_f hF rfl rfl rfl hc5 rfl) rfl (by kernel_rfl) (by kernel_rfl) (by kernel_rfl) fun a hF => e_skipP 8 hF rfl (wanted_f hF rfl rfl rfl hc5 rfl) rfl (by kernel_rfl) (by kernel_rfl) (by kernel_rfl) fun a hF => e_p (v := (.bool true)) 9 hF rfl (ex_pick_t rfl rfl hc5) rfl rfl (by kernel_rfl) (by kernel_rfl) (by kernel_rfl) fun a hF => e_p (v := (.bool true)) 10 hF rfl (ex_move rfl) rfl rfl (by kernel_rfl) (by kernel_rfl) (by kernel_rfl) fun a hF => e_skipP 11 hF rfl (wanted_f hF rfl rfl rfl rfl rfl) rfl (by kernel_rfl) (by kernel_rfl) (by kernel_rfl) fun a hF => e_skipP 12 hF rfl (wanted_f hF rfl rfl rfl rfl rfl) rfl (by kernel_rfl) (by kernel_rfl) (by kernel_rfl) fun a hF => e_skipP 13 hF rfl (wanted_f hF rfl rfl rfl rfl rfl) rfl (by kernel_rfl) (by kernel_rfl) (by kernel_rfl) fun a hF => e_skipP 14 hF rfl (wanted_f hF rfl rfl rfl rfl rfl) rfl (by kernel_rfl) (by kernel_rfl) (by kernel_rfl) fun a hF => e_skipP 15 hF rfl (wanted_f hF rfl rfl rfl rfl rfl) rfl (by kernel_rfl) (by kernel_rfl) (by kernel_rfl) fun a hF => e_skipP 16 hF rfl (wanted_f hF rfl rfl rfl rfl rfl) rfl (by kernel_rfl) (by kernel_rfl) (by kernel_rfl) fun a hF => e_skipP 17 hF rfl (wanted_f hF rfl rfl rfl rfl rfl) rfl (by kernel_rfl) (by kernel_rfl) (by kernel_rfl) fun a hF => e_p (v := (.bool true)) 18 hF rfl (ex_pick_t rfl rfl rfl) rfl rfl (by kernel_rfl) (by kernel_rfl) (by kernel_rfl) fun a hF => e_end (by kernel_rfl) (n_jn ?_) _
      obtain rfl := someI hj4
      exact ⟨hF.sub ⟨rfl, rfl, rfl, rfl, rfl, trivial⟩, hS.mask [false]⟩
    ·rintro a w ⟨hF, hS⟩
     refine n_sq ?_
     rcases bcase (t_12) with hc7 | hc7
     ·have hb2 := cond_f hc7 hb2
      refine q_cond_f hF rfl hc7 (q_skipc (n_ib (n_sq (q_region (q_x (v := (.int .i64 (w64 (t_3 + 1)))) hF hS (ex_ibin rfl rfl rfl) rfl rfl fun a hF => q_x (v := (.int .i64 (w64 (t_3 + 1)))) hF hS (ex_move rfl) rfl rfl fun a hF => q_end ?_)))))
      obtain rfl := someI hb2
      exact ⟨rfl, hF.sub ⟨rfl, rfl, rfl, rfl, trivial⟩, hS⟩
     ·have hb2 := cond_t hc7 hb2
      refine q_cond_t hF rfl hc7 (q_seq (q_region (q_x (v := (.bool false)) hF hS (ex_assign rfl) rfl rfl fun a hF => q_end (n_sq (q_ret (r_ib (r_sq ?_)))))))
      obtain rfl := someI hb2
      refine ⟨nofun, .inr fun ho => ?_⟩
      subst ho
      refine r_ib (r_sq ?_)
      obtain rfl := someI hr
      exact ret_of hF hS rfl (.tmp rfl .nil) rfl
  ·rintro e a w ⟨rfl, rfl, hF, hS⟩
   refine x_ib (n_sq ?_)
   refine q_seq (q_region (q_x (v := (.bool true)) hF hS (ex_assign rfl) rfl rfl fun a hF => q_end (n_sq (q_ret ?_))))
   obtain rfl := someI hr
   exact ret_of hF hS rfl (.tmp rfl .nil) rfl
 ·have hr := cond_t hc1 hr
  refine q_cond_t hF rfl hc1 (q_seq (q_region (q_x (v := (.bool false)) hF hS (ex_assign rfl) rfl rfl fun a hF => q_end (n_sq (q_ret (r_sq ?_))))))
  obtain rfl := someI hr
  exact ret_of hF hS rfl (.tmp rfl .nil) rfl

theorem c_spec_l1Rising (p_l : List Int) (p_lo : Int) (p_hi : Int) (r : Bool) (hr : spec_l1Rising p_l p_lo p_hi = some r) (w0 : World) (m : Mem) (hv : Vis m w0) (s1 : Sl) (h1 : Rd m s1 p_l) :
  Ret Try.prog 65 [s1.v, (.int .i64 p_lo), (.int .i64 p_hi)] w0 (fun v _ => v = (.bool r)) := by
 unfold spec_l1Rising at hr
 refine ret_start Try.func65 rfl 35 rfl rfl m hv fun a hF hS => q_seq (q_region (q_x (v := (.bool false)) hF hS (ex_assign rfl) rfl rfl fun a hF => q_end (n_sq (q_seq (q_seq (q_region (q_x (v := s1.v) hF hS (ex_move rfl) rfl rfl fun a hF => q_x (v := (.int .i64 (goLen p_l))) hF hS (ex_len Try.underlying24 rfl h1.len) rfl rfl fun a hF => q_x (v := (.int .i64 0)) hF hS (ex_move rfl) rfl rfl fun a hF => q_end (n_sq (q_block ?_)))))))))
 obtain ⟨o1, hl1, hr⟩ := bindS hr
 refine q_loop (fun (t_2 : Int) a w => Fr a 35 [(0, s1.v), (1, (.int .i64 p_lo)), (2, (.int .i64 p_hi)), (9, s1.v), (10, (.int .i64 (goLen p_l))), (11, (.int .i64 t_2))] ∧ St [] w0 w m []) (fun (o : (Unit) ⊕ (Bool)) e a w => o = .inl () ∧ e = .exit 0 ∧ Fr a 35 [] ∧ St [] w0 w m []) hl1 ⟨hF.sub ⟨rfl, rfl, rfl, rfl, rfl, rfl, trivial⟩, hS⟩ ?_ ?_
 ·clear hF hS
  rintro t_2 a w st ⟨hF, hS⟩ hb1
  unfold spec_l1Rising_l1 at hb1
  refine q_seq (q_region (q_x (v := (.bool (decide (t_2 < (goLen p_l))))) hF hS (ex_ibin rfl rfl rfl) rfl rfl fun a hF => q_end (n_sq (q_seq ?_))))
  rcases bcase (decide (t_2 < (goLen p_l))) with hc2 | hc2
  ·have hb1 := cond_f hc2 hb1
   refine q_cond_f hF rfl hc2 (q_exit (x_sq ?_))
   obtain rfl := someI hb1
   exact ⟨nofun, .inl ⟨rfl, rfl, hF.sub trivial, hS⟩⟩
  ·have hb1 := cond_t hc2 hb1
   refine q_cond_t hF rfl hc2 (q_skipc (n_sq (q_seq (q_block (q_seq (q_region (q_x (v := (.int .i64 t_2)) hF hS (ex_move rfl) rfl rfl fun a hF => ?_)))))))
   obtain ⟨e_3, he_3, hb1⟩ := bindS hb1
   obtain ⟨vs4, at4, d4⟩ := h1.at he_3 1 rfl
   obtain rfl : vs4 = [(.int .i64 e_3)] := d4
   refine q_x (v := (elP s1 (t_2.toNat * 1))) hF hS (ex_indexAddr Try.underlying24 sz3 rfl rfl (h1.idx he_3)) rfl rfl fun a hF => q_x (v := (.int .i64 e_3)) hF hS (ex_loadE1 0 Try.underlying3 rfl rfl ((at4).at) rfl rfl) rfl rfl fun a hF => q_x (v := (.int .i64 t_2)) hF hS (ex_assign rfl) rfl rfl fun a hF => q_x (v := (.int .i64 e_3)) hF hS (ex_assign rfl) rfl rfl fun a hF => q_end (n_sq (q_seq ?_))
   obtain ⟨t_8, hj3, hb1⟩ := bindS hb1
   refine q_join (fun a w => Fr a 35 [(0, s1.v), (1, (.int .i64 p_lo)), (2, (.int .i64 p_hi)), (9, s1.v), (10, (.int .i64 (goLen p_l))), (11, (.int .i64 t_2)), (33, (.bool t_8))] ∧ St [] w0 w m []) ?_ ?_
   ·refine q_region (q_x (v := (.int .i64 e_3)) hF hS (ex_move rfl) rfl rfl fun a hF => q_x (v := (.int .i64 p_lo)) hF hS (ex_move rfl) rfl rfl fun a hF => q_x (v := (.int .i64 p_hi)) hF hS (ex_move rfl) rfl rfl fun a hF => ?_)
    obtain ⟨t_5, ht_5, hj3⟩ := bindS hj3
    refine q_call (vs := [(.int .i64 e_3), (.int .i64 p_lo), (.int .i64 p_hi)]) hF hS Try.func67 (by kernel_rfl) rfl rfl rfl (c_spec_l1In e_3 p_lo p_hi t_5 ht_5 _ m hS.vis) ?_
    rintro a w _ rfl hF hS
    refine q_x (v := (.bool (!t_5))) hF hS (ex_not rfl) rfl rfl fun a hF => q_x (v := (.bool (!t_5))) hF hS (ex_move rfl) rfl rfl fun a hF => ?_
    rcases bcase (!t_5) with hc4 | hc4
    ·have hj3 := cond_f hc4 hj3
     refine q_xg (v := (.int .i64 t_2)) hF hS (ex_move rfl) (wanted_t hF rfl rfl rfl hc4) rfl fun a hF => q_xg (v := (.bool (decide (0 < t_2)))) hF hS (ex_ibin rfl rfl rfl) (wanted_t hF rfl rfl rfl hc4) rfl fun a hF => q_xg (v := (.bool (decide (0 < t_2)))) hF hS (ex_move rfl) (wanted_t hF rfl rfl rfl hc4) rfl fun a hF => ?_
     rcases bcase (decide (0 < t_2)) with hc5 | hc5
     ·have hj3 := cond_f hc5 hj3
      refine q_skip hF (wanted_f hF rfl rfl rfl hc5 rfl) rfl fun a hF => q_skip hF (wanted_f hF rfl rfl rfl hc5 rfl) rfl fun a hF => q_skip hF (wanted_f hF rfl rfl rfl hc5 rfl) rfl fun a hF => q_skip hF (wanted_f hF rfl rfl rfl hc5 rfl) rfl fun a hF => q_skip hF (wanted_f hF rfl rfl rfl hc5 rfl) rfl fun a hF => q_skip hF (wanted_f hF rfl rfl rfl hc5 rfl) rfl fun a hF => q_skip hF (wanted_f hF rfl rfl rfl hc5 rfl) rfl fun a hF => q_xg (v := (.bool false)) hF hS (ex_pick_f rfl rfl hc5) (wanted_t hF rfl rfl rfl hc4) rfl fun a hF => q_x (v := (.bool false)) hF hS (ex_pick_f rfl rfl hc4) rfl rfl fun a hF => q_end (n_jn ?_)
      obtain rfl := someI hj3
      exact ⟨hF.sub ⟨rfl, rfl, rfl, rfl, rfl, rfl, rfl, trivial⟩, hS⟩
     ·have hj3 := cond_t hc5 hj3
      refine q_xg (v := s1.v) hF hS (ex_move rfl) (wanted_t hF rfl rfl rfl hc5) rfl fun a hF => q_xg (v := (.int .i64 t_2)) hF hS (ex_move rfl) (wanted_t hF rfl rfl rfl hc5) rfl fun a hF => q_xg (v := (.int .i64 (w64 (t_2 - 1)))) hF hS (ex_ibin rfl rfl rfl) (wanted_t hF rfl rfl rfl hc5) rfl fun a hF => ?_
      obtain ⟨e_6, he_6, hj3⟩ := bindS hj3
      obtain ⟨vs7, at7, d7⟩ := h1.at he_6 1 rfl
      obtain rfl : vs7 = [(.int .i64 e_6)] := d7
      refine q_xg (v := (elP s1 ((w64 (t_2 - 1)).toNat * 1))) hF hS (ex_indexAddr Try.underlying24 sz3 rfl rfl (h1.idx he_6)) (wanted_t hF rfl rfl rfl hc5) rfl fun a hF => q_xg (v := (.int .i64 e_6)) hF hS (ex_loadE1 0 Try.underlying3 rfl rfl ((at7).at) rfl rfl) (wanted_t hF rfl rfl rfl hc5) rfl fun a hF => q_xg (v := (.int .i64 e_3)) hF hS (ex_move rfl) (wanted_t hF rfl rfl rfl hc5) rfl fun a hF => q_xg (v := (.bool (decide (e_3 ≤ e_6)))) hF hS (ex_ibin rfl rfl rfl) (wanted_t hF rfl rfl rfl hc5) rfl fun a hF => q_xg (v := (.bool (decide (e_3 ≤ e_6)))) hF hS (ex_pick_t rfl rfl hc5) (wanted_t hF rfl rfl rfl hc4) rfl fun a hF => q_x (v := (.bool (decide (e_3 ≤ e_6)))) hF hS (ex_pick_f rfl rfl hc4) rfl rfl fun a hF => q_end (n_jn ?_)
      obtain rfl := someI hj3
      exact ⟨hF.sub ⟨rfl, rfl, rfl, rfl, rfl, rfl, rfl, trivial⟩, hS⟩
    ·have hj3 := cond_t hc4 hj3
     refine q_skip hF (wanted_f hF rfl rfl rfl hc4 rfl) rfl fun a hF => q_skip hF (wanted_f hF rfl rfl rfl hc4 rfl) rfl fun a hF => q_skip hF (wanted_f hF rfl rfl rfl hc4 rfl) rfl fun a hF => q_skip hF (wanted_u hF rfl rfl rfl) rfl fun a hF => q_skip hF (wanted_u hF rfl rfl rfl) rfl fun a hF => q_skip hF (wanted_u hF rfl rfl rfl) rfl fun a hF => q_skip hF (wanted_u hF rfl rfl rfl) rfl fun a hF => q_skip hF (wanted_u hF rfl rfl rfl) rfl fun a hF => q_skip hF (wanted_u hF rfl rfl rfl) rfl fun a hF => q_skip hF (wanted_u hF rfl rfl rfl) rfl fun a hF => q_skip hF (wanted_f hF rfl rfl rfl hc4 rfl) rfl fun a hF => q_x (v := (.bool true)) hF hS (ex_pick_t rfl rfl hc4) rfl rfl fun a hF => q_end (n_jn ?_)
     obtain rfl := someI hj3
     exact ⟨hF.sub ⟨rfl, rfl, rfl, rfl, rfl, rfl, rfl, trivial⟩, hS⟩
   ·rintro a w ⟨hF, hS⟩
    refine n_sq ?_
    rcases bcase (t_8) with hc6 | hc6
    ·have hb1 := cond_f hc6 hb1
     refine q_cond_f hF rfl hc6 (q_skipc (n_ib (n_sq (q_region (q_x (v := (.int .i64 (w64 (t_2 + 1)))) hF hS (ex_ibin rfl rfl rfl) rfl rfl fun a hF => q_x (v := (.int .i64 (w64 (t_2 + 1)))) hF hS (ex_move rfl) rfl rfl fun a hF => q_end ?_)))))
     obtain rfl := someI hb1
     exact ⟨rfl, hF.sub ⟨rfl, rfl, rfl, rfl, rfl, rfl, trivial⟩, hS⟩
    ·have hb1 := cond_t hc6 hb1
     refine q_cond_t hF rfl hc6 (q_seq (q_region (q_x (v := (.bool false)) hF hS (ex_assign rfl) rfl rfl fun a hF => q_end (n_sq (q_ret (r_ib (r_sq ?_)))))))
     obtain rfl := someI hb1
     refine ⟨nofun, .inr fun ho => ?_⟩
     subst ho
     refine r_ib (r_sq ?_)
     obtain rfl := someI hr
     exact ret_of hF hS rfl (.tmp rfl .nil) rfl
 ·rintro e a w ⟨rfl, rfl, hF, hS⟩
  refine x_ib (n_sq ?_)
  refine q_seq (q_region (q_x (v := (.bool true)) hF hS (ex_assign rfl) rfl rfl fun a hF => q_end (n_sq (q_ret ?_))))
  obtain rfl := someI hr
  exact ret_of hF hS rfl (.tmp rfl .nil) rfl

theorem c_spec_uWhere (p_s : List impl_Variable) (p_where : List Int) (r : Bool) (hr : spec_uWhere p_s p_where = some r) (w0 : World) (m : Mem) (hv : Vis m w0) (s1 : Sl) (h1 : Rd m s1 p_s) (s2 : Sl) (h2 : Rd m s2 p_where) :
  Ret Try.prog 66 [s1.v, s2.v] w0 (fun v _ => v = (.bool r)) := by
 unfold spec_uWhere at hr
 refine ret_start Try.func66 rfl 31 rfl rfl m hv fun a hF hS => q_seq (q_region (q_x (v := (.bool false)) hF hS (ex_assign rfl) rfl rfl fun a hF => q_end (n_sq (q_seq (q_seq (q_region (q_x (v := s2.v) hF hS (ex_move rfl) rfl rfl fun a hF => q_x (v := (.int .i64 (goLen p_where))) hF hS (ex_len Try.underlying24 rfl h2.len) rfl rfl fun a hF => q_x (v := s1.v) hF hS (ex_move rfl) rfl rfl fun a hF => q_x (v := (.int .i64 (goLen p_s))) hF hS (ex_len Try.underlying27 rfl h1.len) rfl rfl fun a hF => q_x (v := (.bool ((goLen p_where) != (goLen p_s)))) hF hS (ex_ibin rfl rfl rfl) rfl rfl fun a hF => q_end (n_sq ?_))))))))
 rcases bcase ((goLen p_where) != (goLen p_s)) with hc1 | hc1
 ·have hr := cond_f hc1 hr
  refine q_cond_f hF rfl hc1 (q_skipc (n_sq (q_seq (q_seq (q_region (q_x (v := s1.v) hF hS (ex_move rfl) rfl rfl fun a hF => q_x (v := (.int .i64 (goLen p_s))) hF hS (ex_len Try.underlying27 rfl h1.len) rfl rfl fun a hF => q_x (v := (.int .i64 0)) hF hS (ex_move rfl) rfl rfl fun a hF => q_end (n_sq (q_block ?_))))))))
  obtain ⟨o2, hl2, hr⟩ := bindS hr
  refine q_loop (fun (t_3 : Int) a w => Fr a 31 [(1, s2.v), (12, s1.v), (13, (.int .i64 (goLen p_s))), (14, (.int .i64 t_3))] ∧ St [] w0 w m []) (fun (o : (Unit) ⊕ (Bool)) e a w => o = .inl () ∧ e = .exit 0 ∧ Fr a 31 [] ∧ St [] w0 w m []) hl2 ⟨hF.sub ⟨rfl, rfl, rfl, rfl, trivial⟩, hS⟩ ?_ ?_
  ·clear hF hS
   rintro t_3 a w st ⟨hF, hS⟩ hb2
   unfold spec_uWhere_l1 at hb2
   refine q_seq (q_region (q_x (v := (.bool (decide (t_3 < (goLen p_s))))) hF hS (ex_ibin rfl rfl rfl) rfl rfl fun a hF => q_end (n_sq (q_seq ?_))))
   rcases bcase (decide (t_3 < (goLen p_s))) with hc3 | hc3
   ·have hb2 := cond_f hc3 hb2
    refine q_cond_f hF rfl hc3 (q_exit (x_sq ?_))
    obtain rfl := someI hb2
    exact ⟨nofun, .inl ⟨rfl, rfl, hF.sub trivial, hS⟩⟩
   ·have hb2 := cond_t hc3 hb2
    refine q_cond_t hF rfl hc3 (q_skipc (n_sq (q_seq (q_block (q_seq (q_region (q_x (v := (.int .i64 t_3)) hF hS (ex_move rfl) rfl rfl fun a hF => ?_)))))))
    obtain ⟨e_4, he_4, hb2⟩ := bindS hb2
    obtain ⟨vs5, at5, d5⟩ := h1.at he_4 2 rfl
    obtain rfl : vs5 = [(strV e_4.Name), (.int .i64 e_4.Levels)] := d5
    refine q_x (v := (elP s1 (t_3.toNat * 2))) hF hS (ex_indexAddr Try.underlying27 sz58 rfl rfl (h1.idx he_4)) rfl rfl fun a hF => q_x (v := (.agg #[(strV e_4.Name), (.int .i64 e_4.Levels)])) hF hS (ex_loadEA (us := [(strV e_4.Name), (.int .i64 e_4.Levels)]) 0 Try.underlying58 rfl sz58 rfl ((at5).at) rfl rfl rfl) rfl rfl fun a hF => q_alloc (cs := [(strV ([] : List UInt8)), (.int .i64 0)]) hF hS rfl rfl rfl fun a w b6 hF hS => q_x (v := (.int .i64 t_3)) hF hS (ex_assign rfl) rfl rfl fun a hF => q_store (vs := [(strV e_4.Name), (.int .i64 e_4.Levels)]) (cs' := [(strV e_4.Name), (.int .i64 e_4.Levels)]) 0 0 hF hS sz58 rfl rfl rfl rfl rfl rfl rfl rfl fun a w hF hS => q_end (n_sq (q_seq (e_region ⟨[], []⟩ mixed fun w' hw' => ?_)))
    have hS := hS.below hw'
    refine e_p (v := s2.v) 0 hF rfl (ex_move rfl) rfl rfl (by kernel_rfl) (by kernel_rfl) (by kernel_rfl) fun a hF => e_p (v := (.int .i64 t_3)) 1 hF rfl (ex_move rfl) rfl rfl (by kernel_rfl) (by kernel_rfl) (by kernel_rfl) fun a hF => ?_
    obtain ⟨e_7, he_7, hb2⟩ := bindS hb2
    obtain ⟨vs8, at8, d8⟩ := h2.at he_7 1 rfl
    obtain rfl : vs8 = [(.int .i64 e_7)] := d8
    refine e_p (v := (elP s2 (t_3.toNat * 1))) 2 hF rfl (ex_indexAddr Try.underlying24 sz3 rfl rfl (h2.idx he_7)) rfl rfl (by kernel_rfl) (by kernel_rfl) (by kernel_rfl) fun a hF => e_x (v := (.int .i64 e_7)) 3 hF hS rfl (ex_loadE1 0 Try.underlying3 rfl rfl ((at8).at) rfl rfl) rfl rfl (by kernel_rfl) (by kernel_rfl) (by kernel_rfl) (by kernel_rfl) fun a hF => e_p (v := (.pointer (some ⟨b6, 1, none⟩))) 4 hF rfl (ex_fieldAddr Try.underlying58 rfl sz3 rfl rfl) rfl rfl (by kernel_rfl) (by kernel_rfl) (by kernel_rfl) fun a hF => e_x (v := (.int .i64 e_4.Levels)) 5 hF hS rfl (ex_load1 0 0 Try.underlying3 rfl rfl rfl rfl) rfl rfl (by kernel_rfl) (by kernel_rfl) (by kernel_rfl) (by kernel_rfl) fun a hF => e_p (v := (.int .u64 (IntKind.wrap .u64 e_4.Levels))) 6 hF rfl (ex_conv Try.underlying3 Try.underlying94 rfl) rfl rfl (by kernel_rfl) (by kernel_rfl) (by kernel_rfl) fun a hF => ?_
    obtain ⟨t_9, ht_9, hb2⟩ := bindS hb2
    refine e_p (v := (.int .i64 t_9)) 7 hF rfl (ex_shl rfl rfl ht_9) rfl rfl (by kernel_rfl) (by kernel_rfl) (by kernel_rfl) fun a hF => e_p (v := (.int .i64 (w64 (t_9 - 1)))) 8 hF rfl (ex_ibin rfl rfl rfl) rfl rfl (by kernel_rfl) (by kernel_rfl) (by kernel_rfl) fun a hF => e_one 9 (by kernel_rfl) ?_
    obtain ⟨t_10, ht_10, hb2⟩ := bindS hb2
    refine e_call (vs := [(.int .i64 e_7), (.int .i64 0), (.int .i64 (w64 (t_9 - 1)))]) hF hS rfl Try.func67 (by kernel_rfl) rfl rfl rfl (c_spec_l1In e_7 0 (w64 (t_9 - 1)) t_10 ht_10 _ m hS.vis) ?_
    rintro a w _ rfl hF hS
    refine e_p (v := (.bool (!t_10))) 10 hF rfl (ex_not rfl) rfl rfl (by kernel_rfl) (by kernel_rfl) (by kernel_rfl) fun a hF => e_end (by kernel_rfl) (n_sq ?_) _
    rcases bcase (!t_10) with hc4 | hc4
    ·have hb2 := cond_f hc4 hb2
     refine q_cond_f hF rfl hc4 (q_skipc (n_ib (n_sq (q_region (q_x (v := (.int .i64 (w64 (t_3 + 1)))) hF hS (ex_ibin rfl rfl rfl) rfl rfl fun a hF => q_x (v := (.int .i64 (w64 (t_3 + 1)))) hF hS (ex_move rfl) rfl rfl fun a hF => q_end ?_)))))
     obtain rfl := someI hb2
     exact ⟨rfl, hF.sub ⟨rfl, rfl, rfl, rfl, trivial⟩, hS.mask [false]⟩
    ·have hb2 := cond_t hc4 hb2
     refine q_cond_t hF rfl hc4 (q_seq (q_region (q_x (v := (.bool false)) hF hS (ex_assign rfl) rfl rfl fun a hF => q_end (n_sq (q_ret (r_ib (r_sq ?_)))))))
     obtain rfl := someI hb2
     refine ⟨nofun, .inr fun ho => ?_⟩
     subst ho
     refine r_ib (r_sq ?_)
     obtain rfl := someI hr
     exact ret_of hF hS rfl (.tmp rfl .nil) rfl
  ·rintro e a w ⟨rfl, rfl, hF, hS⟩
   refine x_ib (n_sq ?_)
   refine q_seq (q_region (q_x (v := (.bool true)) hF hS (ex_assign rfl) rfl rfl fun a hF => q_end (n_sq (q_ret ?_))))
   obtain rfl := someI hr
   exact ret_of hF hS rfl (.tmp rfl .nil) rfl
 ·have hr := cond_t hc1 hr
  refine q_cond_t hF rfl hc1 (q_seq (q_region (q_x (v := (.bool false)) hF hS (ex_assign rfl) rfl rfl fun a hF => q_end (n_sq (q_ret (r_sq ?_))))))
  obtain rfl := someI hr
  exact ret_of hF hS rfl (.tmp rfl .nil) rfl

theorem c_spec_sPart (p_s : List impl_Variable) (p_vars : List Int) (r : (List impl_Variable)) (hr : spec_sPart p_s p_vars = some r) (w0 : World) (m : Mem) (hv : Vis m w0) (s1 : Sl) (h1 : Rd m s1 p_s) (s2 : Sl) (h2 : Rd m s2 p_vars) :
  Ret Try.prog 84 [s1.v, s2.v] w0 (fun v w => ∃ (q0' : Piece) (s0' : Sl), v = s0'.v ∧ St [] w0 w m [q0'] ∧ OwnL m 58 q0' s0' r) := by
 unfold spec_sPart at hr
 refine ret_start Try.func84 rfl 23 rfl rfl m hv fun a hF hS => q_seq (q_region (q_x (v := nilS.v) hF hS (ex_assign rfl) rfl rfl fun a hF => q_end (n_sq (q_seq (q_region (q_x (v := nilS.v) hF hS (ex_assign rfl) rfl rfl fun a hF => q_end (n_sq (q_seq (q_seq (q_region (q_x (v := s2.v) hF hS (ex_move rfl) rfl rfl fun a hF => q_x (v := (.int .i64 (goLen p_vars))) hF hS (ex_len Try.underlying24 rfl h2.len) rfl rfl fun a hF => q_x (v := (.int .i64 0)) hF hS (ex_move rfl) rfl rfl fun a hF => q_end (n_sq (q_block ?_)))))))))))))
 obtain ⟨out_13, hl1, hr⟩ := bindS hr
 refine q_loop (fun (s : (List impl_Variable) × Int) a w => ∃ (q4 : Piece), ∃ (s4 : Sl), ∃ out_3, ∃ t_5, s = (out_3, t_5) ∧ Fr a 23 [(0, s1.v), (5, s4.v), (8, s2.v), (9, (.int .i64 (goLen p_vars))), (10, (.int .i64 t_5))] ∧ St [] w0 w m [q4] ∧ OwnL m 58 q4 s4 out_3) (fun (out_13 : (List impl_Variable)) e a w => ∃ (q14 : Piece), ∃ (s14 : Sl), e = .exit 0 ∧ Fr a 23 [(5, s14.v)] ∧ St [] w0 w m [q14] ∧ OwnL m 58 q14 s14 out_13) hl1 ⟨[], nilS, _, _, rfl, hF.sub ⟨rfl, rfl, rfl, rfl, rfl, trivial⟩, hS.sel [0] (by decide), (OwnL.nil (α := impl_Variable) m 58)⟩ ?_ ?_
 ·clear hF hS
  rintro s a w st ⟨q4, s4, out_3, t_5, rfl, hF, hS, h4⟩ hb1
  unfold spec_sPart_l1 at hb1
  refine q_seq (q_region (q_x (v := (.bool (decide (t_5 < (goLen p_vars))))) hF hS (ex_ibin rfl rfl rfl) rfl rfl fun a hF => q_end (n_sq (q_seq ?_))))
  rcases bcase (decide (t_5 < (goLen p_vars))) with hc2 | hc2
  ·have hb1 := cond_f hc2 hb1
   refine q_cond_f hF rfl hc2 (q_exit (x_sq ?_))
   obtain rfl := someI hb1
   exact ⟨nofun, .inl ⟨q4, s4, rfl, hF.sub ⟨rfl, trivial⟩, hS, h4⟩⟩
  ·have hb1 := cond_t hc2 hb1
   refine q_cond_t hF rfl hc2 (q_skipc (n_sq (q_seq (q_block (q_seq (q_region ?_))))))
   obtain ⟨e_6, he_6, hb1⟩ := bindS hb1
   obtain ⟨vs7, at7, d7⟩ := h2.at he_6 1 rfl
   obtain rfl : vs7 = [(.int .i64 e_6)] := d7
   refine q_x (v := (elP s2 (t_5.toNat * 1))) hF hS (ex_indexAddr Try.underlying24 sz3 rfl rfl (h2.idx he_6)) rfl rfl fun a hF => q_x (v := (.int .i64 e_6)) hF hS (ex_loadE1 0 Try.underlying3 rfl rfl ((at7).at) rfl rfl) rfl rfl fun a hF => q_x (v := (.int .i64 e_6)) hF hS (ex_assign rfl) rfl rfl fun a hF => q_end (n_sq (q_region (q_x (v := s4.v) hF hS (ex_move rfl) rfl rfl fun a hF => q_x (v := s1.v) hF hS (ex_move rfl) rfl rfl fun a hF => q_x (v := (.int .i64 e_6)) hF hS (ex_move rfl) rfl rfl fun a hF => ?_)))
   obtain ⟨e_8, he_8, hb1⟩ := bindS hb1
   obtain ⟨vs9, at9, d9⟩ := h1.at he_8 2 rfl
   obtain rfl : vs9 = [(strV e_8.Name), (.int .i64 e_8.Levels)] := d9
   refine q_x (v := (elP s1 (e_6.toNat * 2))) hF hS (ex_indexAddr Try.underlying27 sz58 rfl rfl (h1.idx he_8)) rfl rfl fun a hF => q_x (v := (.agg #[(strV e_8.Name), (.int .i64 e_8.Levels)])) hF hS (ex_loadEA (us := [(strV e_8.Name), (.int .i64 e_8.Levels)]) 0 Try.underlying58 rfl sz58 rfl ((at9).at) rfl rfl rfl) rfl rfl fun a hF => q_do rfl fun _ hK => wp_buildSlice' (l := ([e_8] : List impl_Variable)) (cells := [(strV e_8.Name), (.int .i64 e_8.Levels)]) hF hS Try.underlying27 inf58 rfl rfl (by kernel_rfl) rfl rfl rfl ⟨rfl, rfl⟩ rfl rfl fun a w q10 s10 hF hS h10 _ => hK _ _ ?_
   have hS : St _ _ _ _ [q4, q10] := hS.sel [1, 0] (by decide)
   obtain ⟨l_11, hl_11, hb1⟩ := bindS hb1
   refine q_do rfl fun _ hK => wp_append hF hS h4 Try.underlying27 inf58 rfl rfl rfl rfl (h10.vw hS (j := 1) rfl) rfl (by decide) hl_11 rfl fun a w q12 s12 hF hS h12 => hK _ _ (q_x (v := s12.v) hF hS (ex_assign rfl) rfl rfl fun a hF => q_end (n_ib (n_sq (q_region (q_x (v := (.int .i64 (w64 (t_5 + 1)))) hF hS (ex_ibin rfl rfl rfl) rfl rfl fun a hF => q_x (v := (.int .i64 (w64 (t_5 + 1)))) hF hS (ex_move rfl) rfl rfl fun a hF => q_end ?_)))))
   obtain rfl := someI hb1
   exact ⟨rfl, q12, s12, _, _, rfl, hF.sub ⟨rfl, rfl, rfl, rfl, rfl, trivial⟩, hS.mask [true, false], h12⟩
 ·rintro e a w ⟨q14, s14, rfl, hF, hS, h14⟩
  refine x_ib (n_sq ?_)
  refine q_seq (q_region (q_x (v := s14.v) hF hS (ex_move rfl) rfl rfl fun a hF => q_x (v := s14.v) hF hS (ex_assign rfl) rfl rfl fun a hF => q_end (n_sq (q_ret ?_))))
  obtain rfl := someI hr
  exact ret_of hF hS rfl (.tmp rfl .nil) ⟨q14, s14, rfl, hS.sel [0] (by decide), h14⟩

theorem c_spec_sCount (p_s : List impl_Variable) (r : Int) (hr : spec_sCount p_s = some r) (w0 : World) (m : Mem) (hv : Vis m w0) (s1 : Sl) (h1 : Rd m s1 p_s) :
  Ret Try.prog 83 [s1.v] w0 (fun v _ => v = (.int .i64 r)) := by
 unfold spec_sCount at hr
 refine ret_start Try.func83 rfl 18 rfl rfl m hv fun a hF hS => q_seq (q_region (q_x (v := (.int .i64 0)) hF hS (ex_assign rfl) rfl rfl fun a hF => q_end (n_sq (q_seq (q_region (q_x (v := (.int .i64 1)) hF hS (ex_assign rfl) rfl rfl fun a hF => q_end (n_sq (q_seq (q_seq (q_region (q_x (v := s1.v) hF hS (ex_move rfl) rfl rfl fun a hF => q_x (v := (.int .i64 (goLen p_s))) hF hS (ex_len Try.underlying27 rfl h1.len) rfl rfl fun a hF => q_x (v := (.int .i64 0)) hF hS (ex_move rfl) rfl rfl fun a hF => q_end (n_sq (q_block ?_)))))))))))))
 obtain ⟨n_7, hl1, hr⟩ := bindS hr
 refine q_loop (fun (s : Int × Int) a w => ∃ n_2, ∃ t_3, s = (n_2, t_3) ∧ Fr a 18 [(3, (.int .i64 n_2)), (6, s1.v), (7, (.int .i64 (goLen p_s))), (8, (.int .i64 t_3))] ∧ St [] w0 w m []) (fun (n_7 : Int) e a w => e = .exit 0 ∧ Fr a 18 [(3, (.int .i64 n_7))] ∧ St [] w0 w m []) hl1 ⟨_, _, rfl, hF.sub ⟨rfl, rfl, rfl, rfl, trivial⟩, hS⟩ ?_ ?_
 ·clear hF hS
  rintro s a w st ⟨n_2, t_3, rfl, hF, hS⟩ hb1
  unfold spec_sCount_l1 at hb1
  refine q_seq (q_region (q_x (v := (.bool (decide (t_3 < (goLen p_s))))) hF hS (ex_ibin rfl rfl rfl) rfl rfl fun a hF => q_end (n_sq (q_seq ?_))))
  rcases bcase (decide (t_3 < (goLen p_s))) with hc2 | hc2
  ·have hb1 := cond_f hc2 hb1
   refine q_cond_f hF rfl hc2 (q_exit (x_sq ?_))
   obtain rfl := someI hb1
   exact ⟨nofun, .inl ⟨rfl, hF.sub ⟨rfl, trivial⟩, hS⟩⟩
  ·have hb1 := cond_t hc2 hb1
   refine q_cond_t hF rfl hc2 (q_skipc (n_sq (q_seq (q_block (q_seq (q_region ?_))))))
   obtain ⟨e_4, he_4, hb1⟩ := bindS hb1
   obtain ⟨vs5, at5, d5⟩ := h1.at he_4 2 rfl
   obtain rfl : vs5 = [(strV e_4.Name), (.int .i64 e_4.Levels)] := d5
   refine q_x (v := (elP s1 (t_3.toNat * 2))) hF hS (ex_indexAddr Try.underlying27 sz58 rfl rfl (h1.idx he_4)) rfl rfl fun a hF => q_x (v := (.agg #[(strV e_4.Name), (.int .i64 e_4.Levels)])) hF hS (ex_loadEA (us := [(strV e_4.Name), (.int .i64 e_4.Levels)]) 0 Try.underlying58 rfl sz58 rfl ((at5).at) rfl rfl rfl) rfl rfl fun a hF => q_alloc (cs := [(strV ([] : List UInt8)), (.int .i64 0)]) hF hS rfl rfl rfl fun a w b6 hF hS => q_store (vs := [(strV e_4.Name), (.int .i64 e_4.Levels)]) (cs' := [(strV e_4.Name), (.int .i64 e_4.Levels)]) 0 0 hF hS sz58 rfl rfl rfl rfl rfl rfl rfl rfl fun a w hF hS => q_end (n_sq (q_region (q_x (v := (.int .i64 n_2)) hF hS (ex_move rfl) rfl rfl fun a hF => q_x (v := (.pointer (some ⟨b6, 1, none⟩))) hF hS (ex_fieldAddr Try.underlying58 rfl sz3 rfl rfl) rfl rfl fun a hF => q_x (v := (.int .i64 e_4.Levels)) hF hS (ex_load1 0 0 Try.underlying3 rfl rfl rfl rfl) rfl rfl fun a hF => q_x (v := (.int .i64 (w64 (n_2 * e_4.Levels)))) hF hS (ex_ibin rfl rfl rfl) rfl rfl fun a hF => q_x (v := (.int .i64 (w64 (n_2 * e_4.Levels)))) hF hS (ex_assign rfl) rfl rfl fun a hF => q_end (n_ib (n_sq (q_region (q_x (v := (.int .i64 (w64 (t_3 + 1)))) hF hS (ex_ibin rfl rfl rfl) rfl rfl fun a hF => q_x (v := (.int .i64 (w64 (t_3 + 1)))) hF hS (ex_move rfl) rfl rfl fun a hF => q_end ?_)))))))
   obtain rfl := someI hb1
   exact ⟨rfl, _, _, rfl, hF.sub ⟨rfl, rfl, rfl, rfl, trivial⟩, hS.mask [false]⟩
 ·rintro e a w ⟨rfl, hF, hS⟩
  refine x_ib (n_sq ?_)
  refine q_seq (q_region (q_x (v := (.int .i64 n_7)) hF hS (ex_move rfl) rfl rfl fun a hF => q_x (v := (.int .i64 n_7)) hF hS (ex_assign rfl) rfl rfl fun a hF => q_end (n_sq (q_ret ?_))))
  obtain rfl := someI hr
  exact ret_of hF hS rfl (.tmp rfl .nil) rfl

theorem c_spec_uCount (p_g : impl_Geo) (p_s : List impl_Variable) (p_t : impl_Table) (r : Int) (hr : spec_uCount p_g p_s p_t = some r) (w0 : World) (m : Mem) (hv : Vis m w0) (s1 : Sl) (h1 : Rd m s1 p_g.Parents) (s2 : Sl) (h2 : Rd m s2 p_s) (s3 : Sl) (h3 : Rd m s3 p_t.Vars) (s4 : Sl) (h4 : Rd m s4 p_t.Where) :
  Ret Try.prog 47 [(.agg #[s1.v]), s2.v, (.agg #[(.int .i64 p_t.Level), s3.v, s4.v, (.int .i64 p_t.Sum)])] w0 (fun v _ => v = (.int .i64 r)) := by
 unfold spec_uCount at hr
 refine ret_start Try.func47 rfl 18 rfl rfl m hv fun a hF hS => q_seq (q_region (q_box (cs := [s1.v]) hF hS rfl rfl rfl fun a w b5 hF hS => q_box (cs := [(.int .i64 p_t.Level), s3.v, s4.v, (.int .i64 p_t.Sum)]) hF hS rfl rfl rfl fun a w b6 hF hS => q_x (v := (.int .i64 0)) hF hS (ex_assign rfl) rfl rfl fun a hF => q_end (n_sq (q_seq (e_region ⟨[], []⟩ mixed fun w' hw' => ?_)))))
 have hS := hS.below hw'
 refine e_x (v := (.agg #[s1.v])) 0 hF hS rfl (ex_loadA (vs := [s1.v]) 1 0 Try.underlying26 rfl sz26 rfl rfl rfl rfl) rfl rfl (by kernel_rfl) (by kernel_rfl) (by kernel_rfl) (by kernel_rfl) fun a hF => e_p (v := (.pointer (some ⟨b6, 0, none⟩))) 1 hF rfl (ex_fieldAddr Try.underlying29 rfl sz3 rfl rfl) rfl rfl (by kernel_rfl) (by kernel_rfl) (by kernel_rfl) fun a hF => e_x (v := (.int .i64 p_t.Level)) 2 hF hS rfl (ex_load1 0 0 Try.underlying3 rfl rfl rfl rfl) rfl rfl (by kernel_rfl) (by kernel_rfl) (by kernel_rfl) (by kernel_rfl) fun a hF => e_p (v := s2.v) 5 hF rfl (ex_move rfl) rfl rfl (by kernel_rfl) (by kernel_rfl) (by kernel_rfl) fun a hF => e_p (v := (.pointer (some ⟨b6, 1, none⟩))) 6 hF rfl (ex_fieldAddr Try.underlying29 rfl sz24 rfl rfl) rfl rfl (by kernel_rfl) (by kernel_rfl) (by kernel_rfl) fun a hF => e_x (v := s3.v) 7 hF hS rfl (ex_load1 0 0 Try.underlying24 rfl rfl rfl rfl) rfl rfl (by kernel_rfl) (by kernel_rfl) (by kernel_rfl) (by kernel_rfl) fun a hF => e_one 3 (by kernel_rfl) ?_
 obtain ⟨t_16, ht_16, hr⟩ := bindS hr
 refine e_call (vs := [(.agg #[s1.v]), (.int .i64 p_t.Level)]) hF hS rfl Try.func64 (by kernel_rfl) rfl rfl rfl (c_spec_gLevel p_g p_t.Level t_16 ht_16 _ m hS.vis s1 h1) ?_
 rintro a w _ ⟨q18, s18, rfl, hR17, h18⟩ hF hS2
 have hS : St _ _ _ _ [q18, [⟨b6, [(.int .i64 p_t.Level), s3.v, s4.v, (.int .i64 p_t.Sum)], 29⟩], [⟨b5, [s1.v], 26⟩]] := hS.joinF hR17
 refine e_p (v := (.int .i64 (goLen t_16))) 4 hF rfl (ex_len Try.underlying24 rfl h18.len) rfl rfl (by kernel_rfl) (by kernel_rfl) (by kernel_rfl) fun a hF => e_one 8 (by kernel_rfl) ?_
 obtain ⟨t_19, ht_19, hr⟩ := bindS hr
 refine e_call (vs := [s2.v, s3.v]) hF hS rfl Try.func84 (by kernel_rfl) rfl rfl rfl (c_spec_sPart p_s p_t.Vars t_19 ht_19 _ m hS.vis s2 h2 s3 h3) ?_
 rintro a w _ ⟨q21, s21, rfl, hR20, h21⟩ hF hS2
 have hS : St _ _ _ _ [q21, q18, [⟨b6, [(.int .i64 p_t.Level), s3.v, s4.v, (.int .i64 p_t.Sum)], 29⟩], [⟨b5, [s1.v], 26⟩]] := hS.joinF hR20
 refine e_one 9 (by kernel_rfl) ?_
 obtain ⟨m23, hl23, hv23, hz23⟩ := hS.lend
 obtain ⟨t_22, ht_22, hr⟩ := bindS hr
 refine e_call (vs := [s21.v]) hF hS rfl Try.func83 (by kernel_rfl) rfl rfl rfl (c_spec_sCount t_19 t_22 ht_22 _ m23 hv23 s21 (h21.froz hl23 (hz23 0 _ rfl))) ?_
 rintro a w _ rfl hF hS
 refine e_p (v := (.int .i64 (w64 ((goLen t_16) * t_22)))) 10 hF rfl (ex_ibin rfl rfl rfl) rfl rfl (by kernel_rfl) (by kernel_rfl) (by kernel_rfl) fun a hF => e_p (v := (.int .i64 (w64 ((goLen t_16) * t_22)))) 11 hF rfl (ex_assign rfl) rfl rfl (by kernel_rfl) (by kernel_rfl) (by kernel_rfl) fun a hF => e_end (by kernel_rfl) (n_sq (q_ret ?_)) _
 obtain rfl := someI hr
 exact ret_of hF hS rfl (.tmp rfl .nil) rfl

theorem c_spec_uGood (p_g : impl_Geo) (p_s : List impl_Variable) (p_t : impl_Table) (r : Bool) (hr : spec_uGood p_g p_s p_t = some r) (w0 : World) (m : Mem) (hv : Vis m w0) (s1 : Sl) (h1 : Rd m s1 p_g.Parents) (s2 : Sl) (h2 : Rd m s2 p_s) (s3 : Sl) (h3 : Rd m s3 p_t.Vars) (s4 : Sl) (h4 : Rd m s4 p_t.Where) :
  Ret Try.prog 35 [(.agg #[s1.v]), s2.v, (.agg #[(.int .i64 p_t.Level), s3.v, s4.v, (.int .i64 p_t.Sum)])] w0 (fun v _ => v = (.bool r)) := by
 unfold spec_uGood at hr
 refine ret_start Try.func35 rfl 53 rfl rfl m hv fun a hF hS => q_seq (q_region (q_box (cs := [s1.v]) hF hS rfl rfl rfl fun a w b5 hF hS => q_box (cs := [(.int .i64 p_t.Level), s3.v, s4.v, (.int .i64 p_t.Sum)]) hF hS rfl rfl rfl fun a w b6 hF hS => q_x (v := (.bool false)) hF hS (ex_assign rfl) rfl rfl fun a hF => q_end (n_sq (q_seq (q_seq ?_)))))
 obtain ⟨t_15, hj1, hr⟩ := bindS hr
 refine q_join (fun a w => Fr a 53 [(1, s2.v), (3, (.pointer (some ⟨b5, 0, none⟩))), (5, (.pointer (some ⟨b6, 0, none⟩))), (47, (.bool t_15))] ∧ St [] w0 w m [[⟨b6, [(.int .i64 p_t.Level), s3.v, s4.v, (.int .i64 p_t.Sum)], 29⟩], [⟨b5, [s1.v], 26⟩]]) ?_ ?_
 ·refine q_region (q_x (v := (.agg #[s1.v])) hF hS (ex_loadA (vs := [s1.v]) 1 0 Try.underlying26 rfl sz26 rfl rfl rfl rfl) rfl rfl fun a hF => ?_)
  obtain ⟨t_7, ht_7, hj1⟩ := bindS hj1
  refine q_call (vs := [(.agg #[s1.v])]) hF hS Try.func62 (by kernel_rfl) rfl rfl rfl (c_spec_gGood p_g t_7 ht_7 _ m hS.vis s1 h1) ?_
  rintro a w _ rfl hF hS
  refine q_x (v := (.bool (!t_7))) hF hS (ex_not rfl) rfl rfl fun a hF => q_x (v := (.bool (!t_7))) hF hS (ex_move rfl) rfl rfl fun a hF => ?_
  rcases bcase (!t_7) with hc2 | hc2
  ·have hj1 := cond_f hc2 hj1
   refine q_xg (v := s2.v) hF hS (ex_move rfl) (wanted_t hF rfl rfl rfl hc2) rfl fun a hF => ?_
   obtain ⟨t_8, ht_8, hj1⟩ := bindS hj1
   refine q_callg (vs := [s2.v]) hF hS (wanted_t hF rfl rfl rfl hc2) Try.func63 (by kernel_rfl) rfl rfl rfl (c_spec_sGood p_s t_8 ht_8 _ m hS.vis s2 h2) ?_
   rintro a w _ rfl hF hS
   refine q_xg (v := (.bool (!t_8))) hF hS (ex_not rfl) (wanted_t hF rfl rfl rfl hc2) rfl fun a hF => q_x (v := (.bool (!t_8))) hF hS (ex_pick_f rfl rfl hc2) rfl rfl fun a hF => q_x (v := (.bool (!t_8))) hF hS (ex_move rfl) rfl rfl fun a hF => ?_
   rcases bcase (!t_8) with hc3 | hc3
   ·have hj1 := cond_f hc3 hj1
    refine q_xg (v := (.agg #[s1.v])) hF hS (ex_loadA (vs := [s1.v]) 1 0 Try.underlying26 rfl sz26 rfl rfl rfl rfl) (wanted_t hF rfl rfl rfl hc3) rfl fun a hF => q_xg (v := (.pointer (some ⟨b6, 0, none⟩))) hF hS (ex_fieldAddr Try.underlying29 rfl sz3 rfl rfl) (wanted_t hF rfl rfl rfl hc3) rfl fun a hF => q_xg (v := (.int .i64 p_t.Level)) hF hS (ex_load1 0 0 Try.underlying3 rfl rfl rfl rfl) (wanted_t hF rfl rfl rfl hc3) rfl fun a hF => ?_
    obtain ⟨t_9, ht_9, hj1⟩ := bindS hj1
    refine q_callg (vs := [(.agg #[s1.v]), (.int .i64 p_t.Level)]) hF hS (wanted_t hF rfl rfl rfl hc3) Try.func64 (by kernel_rfl) rfl rfl rfl (c_spec_gLevel p_g p_t.Level t_9 ht_9 _ m hS.vis s1 h1) ?_
    rintro a w _ ⟨q11, s11, rfl, hR10, h11⟩ hF hS2
    have hS : St _ _ _ _ [q11, [⟨b6, [(.int .i64 p_t.Level), s3.v, s4.v, (.int .i64 p_t.Sum)], 29⟩], [⟨b5, [s1.v], 26⟩]] := hS.joinF hR10
    refine q_xg (v := (.int .i64 (goLen t_9))) hF hS (ex_len Try.underlying24 rfl h11.len) (wanted_t hF rfl rfl rfl hc3) rfl fun a hF => q_xg (v := (.bool ((goLen t_9) == 0))) hF hS (ex_ibin rfl rfl rfl) (wanted_t hF rfl rfl rfl hc3) rfl fun a hF => q_x (v := (.bool ((goLen t_9) == 0))) hF hS (ex_pick_f rfl rfl hc3) rfl rfl fun a hF => q_x (v := (.bool ((goLen t_9) == 0))) hF hS (ex_move rfl) rfl rfl fun a hF => ?_
    rcases bcase ((goLen t_9) == 0) with hc4 | hc4
    ·have hj1 := cond_f hc4 hj1
     refine q_xg (v := (.pointer (some ⟨b6, 1, none⟩))) hF hS (ex_fieldAddr Try.underlying29 rfl sz24 rfl rfl) (wanted_t hF rfl rfl rfl hc4) rfl fun a hF => q_xg (v := s3.v) hF hS (ex_load1 1 0 Try.underlying24 rfl rfl rfl rfl) (wanted_t hF rfl rfl rfl hc4) rfl fun a hF => q_xg (v := s2.v) hF hS (ex_move rfl) (wanted_t hF rfl rfl rfl hc4) rfl fun a hF => q_xg (v := (.int .i64 (goLen p_s))) hF hS (ex_len Try.underlying27 rfl h2.len) (wanted_t hF rfl rfl rfl hc4) rfl fun a hF => q_xg (v := (.int .i64 (w64 ((goLen p_s) - 1)))) hF hS (ex_ibin rfl rfl rfl) (wanted_t hF rfl rfl rfl hc4) rfl fun a hF => ?_
     obtain ⟨t_12, ht_12, hj1⟩ := bindS hj1
     refine q_callg (vs := [s3.v, (.int .i64 0), (.int .i64 (w64 ((goLen p_s) - 1)))]) hF hS (wanted_t hF rfl rfl rfl hc4) Try.func65 (by kernel_rfl) rfl rfl rfl (c_spec_l1Rising p_t.Vars 0 (w64 ((goLen p_s) - 1)) t_12 ht_12 _ m hS.vis s3 h3) ?_
     rintro a w _ rfl hF hS
     refine q_xg (v := (.bool (!t_12))) hF hS (ex_not rfl) (wanted_t hF rfl rfl rfl hc4) rfl fun a hF => q_x (v := (.bool (!t_12))) hF hS (ex_pick_f rfl rfl hc4) rfl rfl fun a hF => q_x (v := (.bool (!t_12))) hF hS (ex_move rfl) rfl rfl fun a hF => ?_
     rcases bcase (!t_12) with hc5 | hc5
     ·have hj1 := cond_f hc5 hj1
      refine q_xg (v := s2.v) hF hS (ex_move rfl) (wanted_t hF rfl rfl rfl hc5) rfl fun a hF => q_xg (v := (.pointer (some ⟨b6, 2, none⟩))) hF hS (ex_fieldAddr Try.underlying29 rfl sz24 rfl rfl) (wanted_t hF rfl rfl rfl hc5) rfl fun a hF => q_xg (v := s4.v) hF hS (ex_load1 1 0 Try.underlying24 rfl rfl rfl rfl) (wanted_t hF rfl rfl rfl hc5) rfl fun a hF => ?_
      obtain ⟨t_13, ht_13, hj1⟩ := bindS hj1
      refine q_callg (vs := [s2.v, s4.v]) hF hS (wanted_t hF rfl rfl rfl hc5) Try.func66 (by kernel_rfl) rfl rfl rfl (c_spec_uWhere p_s p_t.Where t_13 ht_13 _ m hS.vis s2 h2 s4 h4) ?_
      rintro a w _ rfl hF hS
      refine q_xg (v := (.bool (!t_13))) hF hS (ex_not rfl) (wanted_t hF rfl rfl rfl hc5) rfl fun a hF => q_x (v := (.bool (!t_13))) hF hS (ex_pick_f rfl rfl hc5) rfl rfl fun a hF => q_x (v := (.bool (!t_13))) hF hS (ex_move rfl) rfl rfl fun a hF => ?_
      rcases bcase (!t_13) with hc6 | hc6
      ·have hj1 := cond_f hc6 hj1
       refine q_xg (v := (.pointer (some ⟨b6, 3, none⟩))) hF hS (ex_fieldAddr Try.underlying29 rfl sz3 rfl rfl) (wanted_t hF rfl rfl rfl hc6) rfl fun a hF => q_xg (v := (.int .i64 p_t.Sum)) hF hS (ex_load1 1 0 Try.underlying3 rfl rfl rfl rfl) (wanted_t hF rfl rfl rfl hc6) rfl fun a hF => q_xg (v := s2.v) hF hS (ex_move rfl) (wanted_t hF rfl rfl rfl hc6) rfl fun a hF => q_xg (v := (.int .i64 (goLen p_s))) hF hS (ex_len Try.underlying27 rfl h2.len) (wanted_t hF rfl rfl rfl hc6) rfl fun a hF => q_xg (v := (.int .i64 (w64 ((goLen p_s) - 1)))) hF hS (ex_ibin rfl rfl rfl) (wanted_t hF rfl rfl rfl hc6) rfl fun a hF => ?_
       obtain ⟨t_14, ht_14, hj1⟩ := bindS hj1
       refine q_callg (vs := [(.int .i64 p_t.Sum), (.int .i64 (-1)), (.int .i64 (w64 ((goLen p_s) - 1)))]) hF hS (wanted_t hF rfl rfl rfl hc6) Try.func67 (by kernel_rfl) rfl rfl rfl (c_spec_l1In p_t.Sum (-1) (w64 ((goLen p_s) - 1)) t_14 ht_14 _ m hS.vis) ?_
       rintro a w _ rfl hF hS
       refine q_xg (v := (.bool (!t_14))) hF hS (ex_not rfl) (wanted_t hF rfl rfl rfl hc6) rfl fun a hF => q_x (v := (.bool (!t_14))) hF hS (ex_pick_f rfl rfl hc6) rfl rfl fun a hF => q_end (n_jn ?_)
       obtain rfl := someI hj1
       exact ⟨hF.sub ⟨rfl, rfl, rfl, rfl, trivial⟩, hS.mask [false, true, true]⟩
      ·have hj1 := cond_t hc6 hj1
       refine q_skip hF (wanted_f hF rfl rfl rfl hc6 rfl) rfl fun a hF => q_skip hF (wanted_f hF rfl rfl rfl hc6 rfl) rfl fun a hF => q_skip hF (wanted_f hF rfl rfl rfl hc6 rfl) rfl fun a hF => q_skip hF (wanted_f hF rfl rfl rfl hc6 rfl) rfl fun a hF => q_skip hF (wanted_f hF rfl rfl rfl hc6 rfl) rfl fun a hF => q_skip hF (wanted_f hF rfl rfl rfl hc6 rfl) rfl fun a hF => q_skip hF (wanted_f hF rfl rfl rfl hc6 rfl) rfl fun a hF => q_x (v := (.bool true)) hF hS (ex_pick_t rfl rfl hc6) rfl rfl fun a hF => q_end (n_jn ?_)
       obtain rfl := someI hj1
       exact ⟨hF.sub ⟨rfl, rfl, rfl, rfl, trivial⟩, hS.mask [false, true, true]⟩
     ·have hj1 := cond_t hc5 hj1
      refine q_skip hF (wanted_f hF rfl rfl rfl hc5 rfl) rfl fun a hF => q_skip hF (wanted_f hF rfl rfl rfl hc5 rfl) rfl fun a hF => q_skip hF (wanted_f hF rfl rfl rfl hc5 rfl) rfl fun a hF => q_skip hF (wanted_f hF rfl rfl rfl hc5 rfl) rfl fun a hF => q_skip hF (wanted_f hF rfl rfl rfl hc5 rfl) rfl fun a hF => q_x (v := (.bool true)) hF hS (ex_pick_t rfl rfl hc5) rfl rfl fun a hF => q_x (v := (.bool true)) hF hS (ex_move rfl) rfl rfl fun a hF => q_skip hF (wanted_f hF rfl rfl rfl rfl rfl) rfl fun a hF => q_skip hF (wanted_f hF rfl rfl rfl rfl rfl) rfl fun a hF => q_skip hF (wanted_f hF rfl rfl rfl rfl rfl) rfl fun a hF => q_skip hF (wanted_f hF rfl rfl rfl rfl rfl) rfl fun a hF => q_skip hF (wanted_f hF rfl rfl rfl rfl rfl) rfl fun a hF => q_skip hF (wanted_f hF rfl rfl rfl rfl rfl) rfl fun a hF => q_skip hF (wanted_f hF rfl rfl rfl rfl rfl) rfl fun a hF => q_x (v := (.bool true)) hF hS (ex_pick_t rfl rfl rfl) rfl rfl fun a hF => q_end (n_jn ?_)
      obtain rfl := someI hj1
      exact ⟨hF.sub ⟨rfl, rfl, rfl, rfl, trivial⟩, hS.mask [false, true, true]⟩
    ·have hj1 := cond_t hc4 hj1
     refine q_skip hF (wanted_f hF rfl rfl rfl hc4 rfl) rfl fun a hF => q_skip hF (wanted_f hF rfl rfl rfl hc4 rfl) rfl fun a hF => q_skip hF (wanted_f hF rfl rfl rfl hc4 rfl) rfl fun a hF => q_skip hF (wanted_f hF rfl rfl rfl hc4 rfl) rfl fun a hF => q_skip hF (wanted_f hF rfl rfl rfl hc4 rfl) rfl fun a hF => q_skip hF (wanted_f hF rfl rfl rfl hc4 rfl) rfl fun a hF => q_skip hF (wanted_f hF rfl rfl rfl hc4 rfl) rfl fun a hF => q_x (v := (.bool true)) hF hS (ex_pick_t rfl rfl hc4) rfl rfl fun a hF => q_x (v := (.bool true)) hF hS (ex_move rfl) rfl rfl fun a hF => q_skip hF (wanted_f hF rfl rfl rfl rfl rfl) rfl fun a hF => q_skip hF (wanted_f hF rfl rfl rfl rfl rfl) rfl fun a hF => q_skip hF (wanted_f hF rfl rfl rfl rfl rfl) rfl fun a hF => q_skip hF (wanted_f hF rfl rfl rfl rfl rfl) rfl fun a hF => q_skip hF (wanted_f hF rfl rfl rfl rfl rfl) rfl fun a hF => q_x (v := (.bool true)) hF hS (ex_pick_t rfl rfl rfl) rfl rfl fun a hF => q_x (v := (.bool true)) hF hS (ex_move rfl) rfl rfl fun a hF => q_skip hF (wanted_f hF rfl rfl rfl rfl rfl) rfl fun a hF => q_skip hF (wanted_f hF rfl rfl rfl rfl rfl) rfl fun a hF => q_skip hF (wanted_f hF rfl rfl rfl rfl rfl) rfl fun a hF => q_skip hF (wanted_f hF rfl rfl rfl rfl rfl) rfl fun a hF => q_skip hF (wanted_f hF rfl rfl rfl rfl rfl) rfl fun a hF => q_skip hF (wanted_f hF rfl rfl rfl rfl rfl) rfl fun a hF => q_skip hF (wanted_f hF rfl rfl rfl rfl rfl) rfl fun a hF => q_x (v := (.bool true)) hF hS (ex_pick_t rfl rfl rfl) rfl rfl fun a hF => q_end (n_jn ?_)
     obtain rfl := someI hj1
     exact ⟨hF.sub ⟨rfl, rfl, rfl, rfl, trivial⟩, hS.mask [false, true, true]⟩
   ·have hj1 := cond_t hc3 hj1
    refine q_skip hF (wanted_f hF rfl rfl rfl hc3 rfl) rfl fun a hF => q_skip hF (wanted_f hF rfl rfl rfl hc3 rfl) rfl fun a hF => q_skip hF (wanted_f hF rfl rfl rfl hc3 rfl) rfl fun a hF => q_skip hF (wanted_f hF rfl rfl rfl hc3 rfl) rfl fun a hF => q_skip hF (wanted_f hF rfl rfl rfl hc3 rfl) rfl fun a hF => q_skip hF (wanted_f hF rfl rfl rfl hc3 rfl) rfl fun a hF => q_x (v := (.bool true)) hF hS (ex_pick_t rfl rfl hc3) rfl rfl fun a hF => q_x (v := (.bool true)) hF hS (ex_move rfl) rfl rfl fun a hF => q_skip hF (wanted_f hF rfl rfl rfl rfl rfl) rfl fun a hF => q_skip hF (wanted_f hF rfl rfl rfl rfl rfl) rfl fun a hF => q_skip hF (wanted_f hF rfl rfl rfl rfl rfl) rfl fun a hF => q_skip hF (wanted_f hF rfl rfl rfl rfl rfl) rfl fun a hF => q_skip hF (wanted_f hF rfl rfl rfl rfl rfl) rfl fun a hF => q_skip hF (wanted_f hF rfl rfl rfl rfl rfl) rfl fun a hF => q_skip hF (wanted_f hF rfl rfl rfl rfl rfl) rfl fun a hF => q_x (v := (.bool true)) hF hS (ex_pick_t rfl rfl rfl) rfl rfl fun a hF => q_x (v := (.bool true)) hF hS (ex_move rfl) rfl rfl fun a hF => q_skip hF (wanted_f hF rfl rfl rfl rfl rfl) rfl fun a hF => q_skip hF (wanted_f hF rfl rfl rfl rfl rfl) rfl fun a hF => q_skip hF (wanted_f hF rfl rfl rfl rfl rfl) rfl fun a hF => q_skip hF (wanted_f hF rfl rfl rfl rfl rfl) rfl fun a hF => q_skip hF (wanted_f hF rfl rfl rfl rfl rfl) rfl fun a hF => q_x (v := (.bool true)) hF hS (ex_pick_t rfl rfl rfl) rfl rfl fun a hF => q_x (v := (.bool true)) hF hS (ex_move rfl) rfl rfl fun a hF => q_skip hF (wanted_f hF rfl rfl rfl rfl rfl) rfl fun a hF => ?_
    refine q_skip hF (wanted_f hF rfl rfl rfl rfl rfl) rfl fun a hF => q_skip hF (wanted_f hF rfl rfl rfl rfl rfl) rfl fun a hF => q_skip hF (wanted_f hF rfl rfl rfl rfl rfl) rfl fun a hF => q_skip hF (wanted_f hF rfl rfl rfl rfl rfl) rfl fun a hF => q_skip hF (wanted_f hF rfl rfl rfl rfl rfl) rfl fun a hF => q_skip hF (wanted_f hF rfl rfl rfl rfl rfl) rfl fun a hF => q_x (v := (.bool true)) hF hS (ex_pick_t rfl rfl rfl) rfl rfl fun a hF => q_end (n_jn ?_)
    obtain rfl := someI hj1
    exact ⟨hF.sub ⟨rfl, rfl, rfl, rfl, trivial⟩, hS⟩
  ·have hj1 := cond_t hc2 hj1
   refine q_skip hF (wanted_f hF rfl rfl rfl hc2 rfl) rfl fun a hF => q_skip hF (wanted_f hF rfl rfl rfl hc2 rfl) rfl fun a hF => q_skip hF (wanted_f hF rfl rfl rfl hc2 rfl) rfl fun a hF => q_x (v := (.bool true)) hF hS (ex_pick_t rfl rfl hc2) rfl rfl fun a hF => q_x (v := (.bool true)) hF hS (ex_move rfl) rfl rfl fun a hF => q_skip hF (wanted_f hF rfl rfl rfl rfl rfl) rfl fun a hF => q_skip hF (wanted_f hF rfl rfl rfl rfl rfl) rfl fun a hF => q_skip hF (wanted_f hF rfl rfl rfl rfl rfl) rfl fun a hF => q_skip hF (wanted_f hF rfl rfl rfl rfl rfl) rfl fun a hF => q_skip hF (wanted_f hF rfl rfl rfl rfl rfl) rfl fun a hF => q_skip hF (wanted_f hF rfl rfl rfl rfl rfl) rfl fun a hF => q_x (v := (.bool true)) hF hS (ex_pick_t rfl rfl rfl) rfl rfl fun a hF => q_x (v := (.bool true)) hF hS (ex_move rfl) rfl rfl fun a hF => q_skip hF (wanted_f hF rfl rfl rfl rfl rfl) rfl fun a hF => q_skip hF (wanted_f hF rfl rfl rfl rfl rfl) rfl fun a hF => q_skip hF (wanted_f hF rfl rfl rfl rfl rfl) rfl fun a hF => q_skip hF (wanted_f hF rfl rfl rfl rfl rfl) rfl fun a hF => q_skip hF (wanted_f hF rfl rfl rfl rfl rfl) rfl fun a hF => q_skip hF (wanted_f hF rfl rfl rfl rfl rfl) rfl fun a hF => q_skip hF (wanted_f hF rfl rfl rfl rfl rfl) rfl fun a hF => q_x (v := (.bool true)) hF hS (ex_pick_t rfl rfl rfl) rfl rfl fun a hF => q_x (v := (.bool true)) hF hS (ex_move rfl) rfl rfl fun a hF => q_skip hF (wanted_f hF rfl rfl rfl rfl rfl) rfl fun a hF => q_skip hF (wanted_f hF rfl rfl rfl rfl rfl) rfl fun a hF => q_skip hF (wanted_f hF rfl rfl rfl rfl rfl) rfl fun a hF => ?_
   refine q_skip hF (wanted_f hF rfl rfl rfl rfl rfl) rfl fun a hF => q_skip hF (wanted_f hF rfl rfl rfl rfl rfl) rfl fun a hF => q_x (v := (.bool true)) hF hS (ex_pick_t rfl rfl rfl) rfl rfl fun a hF => q_x (v := (.bool true)) hF hS (ex_move rfl) rfl rfl fun a hF => q_skip hF (wanted_f hF rfl rfl rfl rfl rfl) rfl fun a hF => q_skip hF (wanted_f hF rfl rfl rfl rfl rfl) rfl fun a hF => q_skip hF (wanted_f hF rfl rfl rfl rfl rfl) rfl fun a hF => q_skip hF (wanted_f hF rfl rfl rfl rfl rfl) rfl fun a hF => q_skip hF (wanted_f hF rfl rfl rfl rfl rfl) rfl fun a hF => q_skip hF (wanted_f hF rfl rfl rfl rfl rfl) rfl fun a hF => q_skip hF (wanted_f hF rfl rfl rfl rfl rfl) rfl fun a hF => q_x (v := (.bool true)) hF hS (ex_pick_t rfl rfl rfl) rfl rfl fun a hF => q_end (n_jn ?_)
   obtain rfl := someI hj1
   exact ⟨hF.sub ⟨rfl, rfl, rfl, rfl, trivial⟩, hS⟩
 ·rintro a w ⟨hF, hS⟩
  refine n_sq ?_
  rcases bcase (t_15) with hc7 | hc7
  ·have hr := cond_f hc7 hr
   refine q_cond_f hF rfl hc7 (q_skipc (n_sq (q_seq (q_region (q_x (v := (.agg #[s1.v])) hF hS (ex_loadA (vs := [s1.v]) 1 0 Try.underlying26 rfl sz26 rfl rfl rfl rfl) rfl rfl fun a hF => q_x (v := s2.v) hF hS (ex_move rfl) rfl rfl fun a hF => q_x (v := (.agg #[(.int .i64 p_t.Level), s3.v, s4.v, (.int .i64 p_t.Sum)])) hF hS (ex_loadA (vs := [(.int .i64 p_t.Level), s3.v, s4.v, (.int .i64 p_t.Sum)]) 0 0 Try.underlying29 rfl sz29 rfl rfl rfl rfl) rfl rfl fun a hF => ?_)))))
   obtain ⟨t_16, ht_16, hr⟩ := bindS hr
   refine q_call (vs := [(.agg #[s1.v]), s2.v, (.agg #[(.int .i64 p_t.Level), s3.v, s4.v, (.int .i64 p_t.Sum)])]) hF hS Try.func47 (by kernel_rfl) rfl rfl rfl (c_spec_uCount p_g p_s p_t t_16 ht_16 _ m hS.vis s1 h1 s2 h2 s3 h3 s4 h4) ?_
   rintro a w _ rfl hF hS
   refine q_x (v := (.bool (decide (t_16 ≤ 600)))) hF hS (ex_ibin rfl rfl rfl) rfl rfl fun a hF => q_x (v := (.bool (decide (t_16 ≤ 600)))) hF hS (ex_assign rfl) rfl rfl fun a hF => q_end (n_sq (q_ret ?_))
   obtain rfl := someI hr
   exact ret_of hF hS rfl (.tmp rfl .nil) rfl
  ·have hr := cond_t hc7 hr
   refine q_cond_t hF rfl hc7 (q_seq (q_region (q_x (v := (.bool false)) hF hS (ex_assign rfl) rfl rfl fun a hF => q_end (n_sq (q_ret (r_sq ?_))))))
   obtain rfl := someI hr
   exact ret_of hF hS rfl (.tmp rfl .nil) rfl

theorem c_spec_l1Most (p_a : Int) (p_b : Int) (r : Int) (hr : spec_l1Most p_a p_b = some r) (w0 : World) (m : Mem) (hv : Vis m w0) :
  Ret Try.prog 51 [(.int .i64 p_a), (.int .i64 p_b)] w0 (fun v _ => v = (.int .i64 r)) := by
 unfold spec_l1Most at hr
 refine ret_start Try.func51 rfl 10 rfl rfl m hv fun a hF hS => q_seq (q_region (q_x (v := (.int .i64 0)) hF hS (ex_assign rfl) rfl rfl fun a hF => q_end (n_sq (q_seq (q_seq (q_region (q_x (v := (.int .i64 p_a)) hF hS (ex_move rfl) rfl rfl fun a hF => q_x (v := (.int .i64 p_b)) hF hS (ex_move rfl) rfl rfl fun a hF => q_x (v := (.bool (decide (p_b < p_a)))) hF hS (ex_ibin rfl rfl rfl) rfl rfl fun a hF => q_end (n_sq ?_))))))))
 rcases bcase (decide (p_b < p_a)) with hc1 | hc1
 ·have hr := cond_f hc1 hr
  refine q_cond_f hF rfl hc1 (q_skipc (n_sq (q_seq (q_region (q_x (v := (.int .i64 p_b)) hF hS (ex_move rfl) rfl rfl fun a hF => q_x (v := (.int .i64 p_b)) hF hS (ex_assign rfl) rfl rfl fun a hF => q_end (n_sq (q_ret ?_)))))))
  obtain rfl := someI hr
  exact ret_of hF hS rfl (.tmp rfl .nil) rfl
 ·have hr := cond_t hc1 hr
  refine q_cond_t hF rfl hc1 (q_seq (q_region (q_x (v := (.int .i64 p_a)) hF hS (ex_move rfl) rfl rfl fun a hF => q_x (v := (.int .i64 p_a)) hF hS (ex_assign rfl) rfl rfl fun a hF => q_end (n_sq (q_ret (r_sq ?_))))))
  obtain rfl := someI hr
  exact ret_of hF hS rfl (.tmp rfl .nil) rfl

theorem c_spec_l1Put (p_l : List Int) (p_n : Int) (r : (List Int)) (hr : spec_l1Put p_l p_n = some r) (w0 : World) (m : Mem) (hv : Vis m w0) (s1 : Sl) (h1 : Rd m s1 p_l) :
  Ret Try.prog 69 [s1.v, (.int .i64 p_n)] w0 (fun v w => ∃ (m' : Mem) (s0' : Sl), v = s0'.v ∧ MLe [] w0.heap.size m m' ∧ St [] w0 w m' [] ∧ Rd m' s0' r) := by
 unfold spec_l1Put at hr
 refine ret_start Try.func69 rfl 48 rfl rfl m hv fun a hF hS => q_seq (q_region (q_x (v := nilS.v) hF hS (ex_assign rfl) rfl rfl fun a hF => q_end (n_sq (q_seq (q_region (q_x (v := (.int .i64 0)) hF hS (ex_assign rfl) rfl rfl fun a hF => q_end (n_sq (q_seq (q_block ?_)))))))))
 obtain ⟨k_6, hl1, hr⟩ := bindS hr
 refine q_loop (fun (k_2 : Int) a w => Fr a 48 [(0, s1.v), (1, (.int .i64 p_n)), (5, (.int .i64 k_2))] ∧ St [] w0 w m []) (fun (k_6 : Int) e a w => e = .exit 0 ∧ Fr a 48 [(0, s1.v), (1, (.int .i64 p_n)), (5, (.int .i64 k_6))] ∧ St [] w0 w m []) hl1 ⟨hF.sub ⟨rfl, rfl, rfl, trivial⟩, hS⟩ ?_ ?_
 ·clear hF hS
  rintro k_2 a w st ⟨hF, hS⟩ hb1
  unfold spec_l1Put_l1 at hb1
  refine q_seq (q_seq ?_)
  obtain ⟨t_5, hj2, hb1⟩ := bindS hb1
  refine q_join (fun a w => Fr a 48 [(0, s1.v), (1, (.int .i64 p_n)), (5, (.int .i64 k_2)), (18, (.bool t_5))] ∧ St [] w0 w m []) ?_ ?_
  ·refine q_region (q_x (v := (.int .i64 k_2)) hF hS (ex_move rfl) rfl rfl fun a hF => q_x (v := s1.v) hF hS (ex_move rfl) rfl rfl fun a hF => q_x (v := (.int .i64 (goLen p_l))) hF hS (ex_len Try.underlying24 rfl h1.len) rfl rfl fun a hF => q_x (v := (.bool (decide (k_2 < (goLen p_l))))) hF hS (ex_ibin rfl rfl rfl) rfl rfl fun a hF => q_x (v := (.bool (decide (k_2 < (goLen p_l))))) hF hS (ex_move rfl) rfl rfl fun a hF => ?_)
   rcases bcase (decide (k_2 < (goLen p_l))) with hc3 | hc3
   ·have hj2 := cond_f hc3 hj2
    refine q_skip hF (wanted_f hF rfl rfl rfl hc3 rfl) rfl fun a hF => q_skip hF (wanted_f hF rfl rfl rfl hc3 rfl) rfl fun a hF => q_skip hF (wanted_f hF rfl rfl rfl hc3 rfl) rfl fun a hF => q_skip hF (wanted_f hF rfl rfl rfl hc3 rfl) rfl fun a hF => q_skip hF (wanted_f hF rfl rfl rfl hc3 rfl) rfl fun a hF => q_skip hF (wanted_f hF rfl rfl rfl hc3 rfl) rfl fun a hF => q_x (v := (.bool false)) hF hS (ex_pick_f rfl rfl hc3) rfl rfl fun a hF => q_end (n_jn ?_)
    obtain rfl := someI hj2
    exact ⟨hF.sub ⟨rfl, rfl, rfl, rfl, trivial⟩, hS⟩
   ·have hj2 := cond_t hc3 hj2
    refine q_xg (v := s1.v) hF hS (ex_move rfl) (wanted_t hF rfl rfl rfl hc3) rfl fun a hF => q_xg (v := (.int .i64 k_2)) hF hS (ex_move rfl) (wanted_t hF rfl rfl rfl hc3) rfl fun a hF => ?_
    obtain ⟨e_3, he_3, hj2⟩ := bindS hj2
    obtain ⟨vs4, at4, d4⟩ := h1.at he_3 1 rfl
    obtain rfl : vs4 = [(.int .i64 e_3)] := d4
    refine q_xg (v := (elP s1 (k_2.toNat * 1))) hF hS (ex_indexAddr Try.underlying24 sz3 rfl rfl (h1.idx he_3)) (wanted_t hF rfl rfl rfl hc3) rfl fun a hF => q_xg (v := (.int .i64 e_3)) hF hS (ex_loadE1 0 Try.underlying3 rfl rfl ((at4).at) rfl rfl) (wanted_t hF rfl rfl rfl hc3) rfl fun a hF => q_xg (v := (.int .i64 p_n)) hF hS (ex_move rfl) (wanted_t hF rfl rfl rfl hc3) rfl fun a hF => q_xg (v := (.bool (decide (e_3 < p_n)))) hF hS (ex_ibin rfl rfl rfl) (wanted_t hF rfl rfl rfl hc3) rfl fun a hF => q_x (v := (.bool (decide (e_3 < p_n)))) hF hS (ex_pick_t rfl rfl hc3) rfl rfl fun a hF => q_end (n_jn ?_)
    obtain rfl := someI hj2
    exact ⟨hF.sub ⟨rfl, rfl, rfl, rfl, trivial⟩, hS⟩
  ·rintro a w ⟨hF, hS⟩
   refine n_sq ?_
   rcases bcase (t_5) with hc4 | hc4
   ·have hb1 := cond_f hc4 hb1
    refine q_cond_f hF rfl hc4 (q_exit (x_sq ?_))
    obtain rfl := someI hb1
    exact ⟨nofun, .inl ⟨rfl, hF.sub ⟨rfl, rfl, rfl, trivial⟩, hS⟩⟩
   ·have hb1 := cond_t hc4 hb1
    refine q_cond_t hF rfl hc4 (q_skipc (n_sq (q_block (q_region (q_x (v := (.int .i64 k_2)) hF hS (ex_move rfl) rfl rfl fun a hF => q_x (v := (.int .i64 (w64 (k_2 + 1)))) hF hS (ex_ibin rfl rfl rfl) rfl rfl fun a hF => q_x (v := (.int .i64 (w64 (k_2 + 1)))) hF hS (ex_assign rfl) rfl rfl fun a hF => q_end (n_ib ?_))))))
    obtain rfl := someI hb1
    exact ⟨rfl, hF.sub ⟨rfl, rfl, rfl, trivial⟩, hS⟩
 ·rintro e a w ⟨rfl, hF, hS⟩
  refine x_ib (n_sq ?_)
  refine q_seq (q_seq ?_)
  obtain ⟨t_9, hj5, hr⟩ := bindS hr
  refine q_join (fun a w => Fr a 48 [(0, s1.v), (1, (.int .i64 p_n)), (5, (.int .i64 k_6)), (32, (.bool t_9))] ∧ St [] w0 w m []) ?_ ?_
  ·refine q_region (q_x (v := (.int .i64 k_6)) hF hS (ex_move rfl) rfl rfl fun a hF => q_x (v := s1.v) hF hS (ex_move rfl) rfl rfl fun a hF => q_x (v := (.int .i64 (goLen p_l))) hF hS (ex_len Try.underlying24 rfl h1.len) rfl rfl fun a hF => q_x (v := (.bool (decide (k_6 < (goLen p_l))))) hF hS (ex_ibin rfl rfl rfl) rfl rfl fun a hF => q_x (v := (.bool (decide (k_6 < (goLen p_l))))) hF hS (ex_move rfl) rfl rfl fun a hF => ?_)
   rcases bcase (decide (k_6 < (goLen p_l))) with hc6 | hc6
   ·have hj5 := cond_f hc6 hj5
    refine q_skip hF (wanted_f hF rfl rfl rfl hc6 rfl) rfl fun a hF => q_skip hF (wanted_f hF rfl rfl rfl hc6 rfl) rfl fun a hF => q_skip hF (wanted_f hF rfl rfl rfl hc6 rfl) rfl fun a hF => q_skip hF (wanted_f hF rfl rfl rfl hc6 rfl) rfl fun a hF => q_skip hF (wanted_f hF rfl rfl rfl hc6 rfl) rfl fun a hF => q_skip hF (wanted_f hF rfl rfl rfl hc6 rfl) rfl fun a hF => q_x (v := (.bool false)) hF hS (ex_pick_f rfl rfl hc6) rfl rfl fun a hF => q_end (n_jn ?_)
    obtain rfl := someI hj5
    exact ⟨hF.sub ⟨rfl, rfl, rfl, rfl, trivial⟩, hS⟩
   ·have hj5 := cond_t hc6 hj5
    refine q_xg (v := s1.v) hF hS (ex_move rfl) (wanted_t hF rfl rfl rfl hc6) rfl fun a hF => q_xg (v := (.int .i64 k_6)) hF hS (ex_move rfl) (wanted_t hF rfl rfl rfl hc6) rfl fun a hF => ?_
    obtain ⟨e_7, he_7, hj5⟩ := bindS hj5
    obtain ⟨vs8, at8, d8⟩ := h1.at he_7 1 rfl
    obtain rfl : vs8 = [(.int .i64 e_7)] := d8
    refine q_xg (v := (elP s1 (k_6.toNat * 1))) hF hS (ex_indexAddr Try.underlying24 sz3 rfl rfl (h1.idx he_7)) (wanted_t hF rfl rfl rfl hc6) rfl fun a hF => q_xg (v := (.int .i64 e_7)) hF hS (ex_loadE1 0 Try.underlying3 rfl rfl ((at8).at) rfl rfl) (wanted_t hF rfl rfl rfl hc6) rfl fun a hF => q_xg (v := (.int .i64 p_n)) hF hS (ex_move rfl) (wanted_t hF rfl rfl rfl hc6) rfl fun a hF => q_xg (v := (.bool (e_7 == p_n))) hF hS (ex_ibin rfl rfl rfl) (wanted_t hF rfl rfl rfl hc6) rfl fun a hF => q_x (v := (.bool (e_7 == p_n))) hF hS (ex_pick_t rfl rfl hc6) rfl rfl fun a hF => q_end (n_jn ?_)
    obtain rfl := someI hj5
    exact ⟨hF.sub ⟨rfl, rfl, rfl, rfl, trivial⟩, hS⟩
  ·rintro a w ⟨hF, hS⟩
   refine n_sq ?_
   rcases bcase (t_9) with hc7 | hc7
   ·have hr := cond_f hc7 hr
    refine q_cond_f hF rfl hc7 (q_skipc (n_sq (q_seq (q_region (q_do rfl fun _ hK => wp_build0 (α := Int) hF hS Try.underlying24 inf3 rfl fun a w q10 s10 hF hS h10 _ => hK _ _ (q_x (v := s1.v) hF hS (ex_move rfl) rfl rfl fun a hF => q_x (v := (.int .i64 k_6)) hF hS (ex_move rfl) rfl rfl fun a hF => ?_))))))
    obtain ⟨l_11, hl_11, hr⟩ := bindS hr
    have h12 : Rd m (subS s1 1 (0 : Int).toNat k_6.toNat s1.cap) l_11 := h1.sub' hl_11 1 rfl
    refine q_x (v := (subS s1 1 (0 : Int).toNat k_6.toNat s1.cap).v) hF hS (ex_slice Try.underlying24 sz3 rfl rfl rfl (.inl ⟨rfl, rfl⟩) (.inr ⟨_, rfl⟩) (h1.subok hl_11)) rfl rfl fun a hF => ?_
    obtain ⟨l_13, hl_13, hr⟩ := bindS hr
    refine q_do rfl fun _ hK => wp_append hF hS h10 Try.underlying24 inf3 rfl rfl rfl rfl (h12.vw hS.vis) rfl (by decide) hl_13 rfl fun a w q14 s14 hF hS h14 => hK _ _ (q_x (v := s14.v) hF hS (ex_assign rfl) rfl rfl fun a hF => q_end (n_sq (q_seq (q_region (q_x (v := s14.v) hF hS (ex_move rfl) rfl rfl fun a hF => q_x (v := (.int .i64 p_n)) hF hS (ex_move rfl) rfl rfl fun a hF => q_do rfl fun _ hK => wp_buildSlice' (l := ([p_n] : List Int)) (cells := [(.int .i64 p_n)]) hF hS Try.underlying24 inf3 rfl rfl (by kernel_rfl) rfl rfl rfl ⟨rfl, rfl⟩ rfl rfl fun a w q15 s15 hF hS h15 _ => hK _ _ ?_)))))
    have hS : St _ _ _ _ [q14, q15] := hS.sel [1, 0] (by decide)
    obtain ⟨l_16, hl_16, hr⟩ := bindS hr
    refine q_do rfl fun _ hK => wp_append hF hS h14 Try.underlying24 inf3 rfl rfl rfl rfl (h15.vw hS (j := 1) rfl) rfl (by decide) hl_16 rfl fun a w q17 s17 hF hS h17 => hK _ _ (q_x (v := s17.v) hF hS (ex_assign rfl) rfl rfl fun a hF => q_end (n_sq (q_seq (q_region (q_x (v := s17.v) hF hS (ex_move rfl) rfl rfl fun a hF => q_x (v := s1.v) hF hS (ex_move rfl) rfl rfl fun a hF => q_x (v := (.int .i64 k_6)) hF hS (ex_move rfl) rfl rfl fun a hF => ?_)))))
    obtain ⟨l_18, hl_18, hr⟩ := bindS hr
    have h19 : Rd m (subS s1 1 (k_6 : Int).toNat (goLen p_l).toNat s1.cap) l_18 := h1.sub' hl_18 1 rfl
    refine q_x (v := (subS s1 1 (k_6 : Int).toNat (goLen p_l).toNat s1.cap).v) hF hS (ex_slice Try.underlying24 sz3 rfl rfl rfl (.inr ⟨_, rfl⟩) (.inl ⟨rfl, h1.jlen⟩) (h1.subok hl_18)) rfl rfl fun a hF => ?_
    obtain ⟨l_20, hl_20, hr⟩ := bindS hr
    refine q_do rfl fun _ hK => wp_append hF hS h17 Try.underlying24 inf3 rfl rfl rfl rfl (h19.vw hS.vis) rfl (by decide) hl_20 rfl fun a w q21 s21 hF hS h21 => hK _ _ (q_x (v := s21.v) hF hS (ex_assign rfl) rfl rfl fun a hF => q_end (n_sq (q_ret ?_)))
    obtain rfl := someI hr
    obtain ⟨m22, hm22, hS, hz22⟩ := hS.freeze
    have h22 := h21.froz hm22.le hz22
    exact ret_of hF hS rfl (.tmp rfl .nil) ⟨m22, s21, rfl, hm22, hS.sel [] (by decide), h22⟩
   ·have hr := cond_t hc7 hr
    refine q_cond_t hF rfl hc7 (q_seq (q_region (q_x (v := s1.v) hF hS (ex_move rfl) rfl rfl fun a hF => q_x (v := s1.v) hF hS (ex_assign rfl) rfl rfl fun a hF => q_end (n_sq (q_ret (r_sq ?_))))))
    obtain rfl := someI hr
    exact ret_of hF hS rfl (.tmp rfl .nil) ⟨m, s1, rfl, (MLe.refl _ _), hS.sel [] (by decide), h1⟩

theorem c_spec_eFull (p_s : List impl_Variable) (p_v : Int) (r : Int) (hr : spec_eFull p_s p_v = some r) (w0 : World) (m : Mem) (hv : Vis m w0) (s1 : Sl) (h1 : Rd m s1 p_s) :
  Ret Try.prog 95 [s1.v, (.int .i64 p_v)] w0 (fun v _ => v = (.int .i64 r)) := by
 unfold spec_eFull at hr
 refine ret_start Try.func95 rfl 13 rfl rfl m hv fun a hF hS => q_seq (q_region (q_x (v := (.int .i64 0)) hF hS (ex_assign rfl) rfl rfl fun a hF => q_end (n_sq (q_seq (q_region (q_x (v := s1.v) hF hS (ex_move rfl) rfl rfl fun a hF => q_x (v := (.int .i64 p_v)) hF hS (ex_move rfl) rfl rfl fun a hF => ?_))))))
 obtain ⟨e_2, he_2, hr⟩ := bindS hr
 obtain ⟨vs3, at3, d3⟩ := h1.at he_2 2 rfl
 obtain rfl : vs3 = [(strV e_2.Name), (.int .i64 e_2.Levels)] := d3
 refine q_x (v := (elP s1 (p_v.toNat * 2))) hF hS (ex_indexAddr Try.underlying27 sz58 rfl rfl (h1.idx he_2)) rfl rfl fun a hF => q_x (v := (elP s1 (p_v.toNat * 2 + 1))) hF hS (ex_fieldAddrE Try.underlying58 rfl sz3 rfl (h1.idx he_2) rfl) rfl rfl fun a hF => q_x (v := (.int .i64 e_2.Levels)) hF hS (ex_loadE1 1 Try.underlying3 rfl rfl ((at3).at) rfl rfl) rfl rfl fun a hF => q_x (v := (.int .u64 (IntKind.wrap .u64 e_2.Levels))) hF hS (ex_conv Try.underlying3 Try.underlying94 rfl) rfl rfl fun a hF => ?_
 obtain ⟨t_4, ht_4, hr⟩ := bindS hr
 refine q_x (v := (.int .i64 t_4)) hF hS (ex_shl rfl rfl ht_4) rfl rfl fun a hF => q_x (v := (.int .i64 (w64 (t_4 - 1)))) hF hS (ex_ibin rfl rfl rfl) rfl rfl fun a hF => q_x (v := (.int .i64 (w64 (t_4 - 1)))) hF hS (ex_assign rfl) rfl rfl fun a hF => q_end (n_sq (q_ret ?_))
 obtain rfl := someI hr
 exact ret_of hF hS rfl (.tmp rfl .nil) rfl

theorem c_spec_lSet (p_s : List impl_Variable) (p_t : impl_Table) (p_v : Int) (r : Int) (hr : spec_lSet p_s p_t p_v = some r) (w0 : World) (m : Mem) (hv : Vis m w0) (s1 : Sl) (h1 : Rd m s1 p_s) (s2 : Sl) (h2 : Rd m s2 p_t.Vars) (s3 : Sl) (h3 : Rd m s3 p_t.Where) :
  Ret Try.prog 70 [s1.v, (.agg #[(.int .i64 p_t.Level), s2.v, s3.v, (.int .i64 p_t.Sum)]), (.int .i64 p_v)] w0 (fun v _ => v = (.int .i64 r)) := by
 unfold spec_lSet at hr
 refine ret_start Try.func70 rfl 21 rfl rfl m hv fun a hF hS => q_seq (q_region (q_box (cs := [(.int .i64 p_t.Level), s2.v, s3.v, (.int .i64 p_t.Sum)]) hF hS rfl rfl rfl fun a w b4 hF hS => q_x (v := (.int .i64 0)) hF hS (ex_assign rfl) rfl rfl fun a hF => q_end (n_sq (q_seq (q_seq (q_region (q_x (v := (.pointer (some ⟨b4, 2, none⟩))) hF hS (ex_fieldAddr Try.underlying29 rfl sz24 rfl rfl) rfl rfl fun a hF => q_x (v := s3.v) hF hS (ex_load1 0 0 Try.underlying24 rfl rfl rfl rfl) rfl rfl fun a hF => q_x (v := (.int .i64 p_v)) hF hS (ex_move rfl) rfl rfl fun a hF => ?_)))))))
 obtain ⟨e_5, he_5, hr⟩ := bindS hr
 obtain ⟨vs6, at6, d6⟩ := h3.at he_5 1 rfl
 obtain rfl : vs6 = [(.int .i64 e_5)] := d6
 refine q_x (v := (elP s3 (p_v.toNat * 1))) hF hS (ex_indexAddr Try.underlying24 sz3 rfl rfl (h3.idx he_5)) rfl rfl fun a hF => q_x (v := (.int .i64 e_5)) hF hS (ex_loadE1 0 Try.underlying3 rfl rfl ((at6).at) rfl rfl) rfl rfl fun a hF => q_x (v := (.bool (e_5 == 0))) hF hS (ex_ibin rfl rfl rfl) rfl rfl fun a hF => q_end (n_sq ?_)
 rcases bcase (e_5 == 0) with hc1 | hc1
 ·have hr := cond_f hc1 hr
  refine q_cond_f hF rfl hc1 (q_skipc (n_sq (q_seq (q_region (q_x (v := (.pointer (some ⟨b4, 2, none⟩))) hF hS (ex_fieldAddr Try.underlying29 rfl sz24 rfl rfl) rfl rfl fun a hF => q_x (v := s3.v) hF hS (ex_load1 0 0 Try.underlying24 rfl rfl rfl rfl) rfl rfl fun a hF => q_x (v := (.int .i64 p_v)) hF hS (ex_move rfl) rfl rfl fun a hF => ?_)))))
  obtain ⟨e_7, he_7, hr⟩ := bindS hr
  obtain ⟨vs8, at8, d8⟩ := h3.at he_7 1 rfl
  obtain rfl : vs8 = [(.int .i64 e_7)] := d8
  refine q_x (v := (elP s3 (p_v.toNat * 1))) hF hS (ex_indexAddr Try.underlying24 sz3 rfl rfl (h3.idx he_7)) rfl rfl fun a hF => q_x (v := (.int .i64 e_7)) hF hS (ex_loadE1 0 Try.underlying3 rfl rfl ((at8).at) rfl rfl) rfl rfl fun a hF => q_x (v := (.int .i64 e_7)) hF hS (ex_assign rfl) rfl rfl fun a hF => q_end (n_sq (q_ret ?_))
  obtain rfl := someI hr
  exact ret_of hF hS rfl (.tmp rfl .nil) rfl
 ·have hr := cond_t hc1 hr
  refine q_cond_t hF rfl hc1 (q_seq (q_region (q_x (v := s1.v) hF hS (ex_move rfl) rfl rfl fun a hF => q_x (v := (.int .i64 p_v)) hF hS (ex_move rfl) rfl rfl fun a hF => ?_)))
  obtain ⟨t_9, ht_9, hr⟩ := bindS hr
  refine q_call (vs := [s1.v, (.int .i64 p_v)]) hF hS Try.func95 (by kernel_rfl) rfl rfl rfl (c_spec_eFull p_s p_v t_9 ht_9 _ m hS.vis s1 h1) ?_
  rintro a w _ rfl hF hS
  refine q_x (v := (.int .i64 t_9)) hF hS (ex_assign rfl) rfl rfl fun a hF => q_end (n_sq (q_ret (r_sq ?_)))
  obtain rfl := someI hr
  exact ret_of hF hS rfl (.tmp rfl .nil) rfl

theorem c_spec_nNormal (p_s : List impl_Variable) (p_t : impl_Table) (r : impl_Table) (hr : spec_nNormal p_s p_t = some r) (w0 : World) (m : Mem) (hv : Vis m w0) (s1 : Sl) (h1 : Rd m s1 p_s) (s2 : Sl) (h2 : Rd m s2 p_t.Vars) (s3 : Sl) (h3 : Rd m s3 p_t.Where) :
  Ret Try.prog 71 [s1.v, (.agg #[(.int .i64 p_t.Level), s2.v, s3.v, (.int .i64 p_t.Sum)])] w0 (fun v w => ∃ (q0' : Piece) (q1' : Piece) (s0' : Sl) (s1' : Sl), v = (.agg #[(.int .i64 r.Level), s0'.v, s1'.v, (.int .i64 r.Sum)]) ∧ St [] w0 w m [q0', q1'] ∧ OwnL m 3 q0' s0' r.Vars ∧ OwnL m 3 q1' s1' r.Where) := by
 unfold spec_nNormal at hr
 refine ret_start Try.func71 rfl 29 rfl rfl m hv fun a hF hS => q_seq (q_region (q_box (cs := [(.int .i64 p_t.Level), s2.v, s3.v, (.int .i64 p_t.Sum)]) hF hS rfl rfl rfl fun a w b4 hF hS => q_alloc (cs := [(.int .i64 0), nilS.v, nilS.v, (.int .i64 0)]) hF hS rfl rfl rfl fun a w b5 hF hS => q_end (n_sq (q_seq (q_region (q_x (v := (.agg #[(.int .i64 p_t.Level), s2.v, s3.v, (.int .i64 p_t.Sum)])) hF hS (ex_loadA (vs := [(.int .i64 p_t.Level), s2.v, s3.v, (.int .i64 p_t.Sum)]) 1 0 Try.underlying29 rfl sz29 rfl rfl rfl rfl) rfl rfl fun a hF => ?_))))))
 obtain ⟨t_6, ht_6, hr⟩ := bindS hr
 refine q_call (vs := [(.agg #[(.int .i64 p_t.Level), s2.v, s3.v, (.int .i64 p_t.Sum)])]) hF hS Try.func75 (by kernel_rfl) rfl rfl rfl (c_spec_nOwn p_t t_6 ht_6 _ m hS.vis s2 h2 s3 h3) ?_
 rintro a w _ ⟨q8, q9, s8, s9, rfl, hR7, h8, h9⟩ hF hS2
 have hS : St _ _ _ _ [q8, q9, [⟨b5, [(.int .i64 0), nilS.v, nilS.v, (.int .i64 0)], 29⟩], [⟨b4, [(.int .i64 p_t.Level), s2.v, s3.v, (.int .i64 p_t.Sum)], 29⟩]] := hS.joinF hR7
 refine q_alloc (cs := [(.int .i64 0), nilS.v, nilS.v, (.int .i64 0)]) hF hS rfl rfl rfl fun a w b10 hF hS => q_store (vs := [(.int .i64 t_6.Level), s8.v, s9.v, (.int .i64 t_6.Sum)]) (cs' := [(.int .i64 t_6.Level), s8.v, s9.v, (.int .i64 t_6.Sum)]) 0 0 hF hS sz29 rfl rfl rfl rfl rfl rfl rfl rfl fun a w hF hS => q_end (n_sq (q_seq (q_seq (q_region (q_x (v := s1.v) hF hS (ex_move rfl) rfl rfl fun a hF => q_x (v := (.int .i64 (goLen p_s))) hF hS (ex_len Try.underlying27 rfl h1.len) rfl rfl fun a hF => q_x (v := (.int .i64 0)) hF hS (ex_move rfl) rfl rfl fun a hF => q_end (n_sq (q_block ?_)))))))
 obtain ⟨out_24, hl1, hr⟩ := bindS hr
 refine q_loop (fun (s : Int × impl_Table) a w => ∃ (q14 : Piece), ∃ t_11, ∃ out_12, s = (t_11, out_12) ∧ Fr a 29 [(0, s1.v), (4, (.pointer (some ⟨b5, 0, none⟩))), (5, (.pointer (some ⟨b10, 0, none⟩))), (10, (.int .i64 (goLen p_s))), (11, (.int .i64 t_11))] ∧ St [] w0 w m [q14, [⟨b10, [(.int .i64 out_12.Level), s8.v, s9.v, (.int .i64 out_12.Sum)], 29⟩], q8, [⟨b5, [(.int .i64 0), nilS.v, nilS.v, (.int .i64 0)], 29⟩]] ∧ OwnL m 3 q8 s8 out_12.Vars ∧ out_12.Vars = t_6.Vars ∧ OwnL m 3 q14 s9 out_12.Where) (fun (out_24 : impl_Table) e a w => ∃ (q26 : Piece), e = .exit 0 ∧ Fr a 29 [(4, (.pointer (some ⟨b5, 0, none⟩))), (5, (.pointer (some ⟨b10, 0, none⟩)))] ∧ St [] w0 w m [q8, q26, [⟨b10, [(.int .i64 out_24.Level), s8.v, s9.v, (.int .i64 out_24.Sum)], 29⟩], [⟨b5, [(.int .i64 0), nilS.v, nilS.v, (.int .i64 0)], 29⟩]] ∧ OwnL m 3 q8 s8 out_24.Vars ∧ out_24.Vars = t_6.Vars ∧ OwnL m 3 q26 s9 out_24.Where) hl1 ⟨q9, _, _, rfl, hF.sub ⟨rfl, rfl, rfl, rfl, rfl, trivial⟩, hS.sel [2, 0, 1, 3] (by decide), h8, rfl, h9⟩ ?_ ?_
 ·clear hF hS
  rintro s a w st ⟨q14, t_11, out_12, rfl, hF, hS, h13, h13k, h14⟩ hb1
  unfold spec_nNormal_l1 at hb1
  refine q_seq (q_region (q_x (v := (.bool (decide (t_11 < (goLen p_s))))) hF hS (ex_ibin rfl rfl rfl) rfl rfl fun a hF => q_end (n_sq (q_seq ?_))))
  rcases bcase (decide (t_11 < (goLen p_s))) with hc2 | hc2
  ·have hb1 := cond_f hc2 hb1
   refine q_cond_f hF rfl hc2 (q_exit (x_sq ?_))
   obtain rfl := someI hb1
   exact ⟨nofun, .inl ⟨q14, rfl, hF.sub ⟨rfl, rfl, trivial⟩, hS.sel [2, 0, 1, 3] (by decide), h13, h13k, h14⟩⟩
  ·have hb1 := cond_t hc2 hb1
   refine q_cond_t hF rfl hc2 (q_skipc (n_sq (q_seq (q_block (q_seq (q_region (q_x (v := (.int .i64 t_11)) hF hS (ex_move rfl) rfl rfl fun a hF => q_x (v := (.int .i64 t_11)) hF hS (ex_assign rfl) rfl rfl fun a hF => q_end (n_sq (q_seq (e_region ⟨[], []⟩ mixed fun w' hw' => ?_))))))))))
   have hS := hS.below hw'
   refine e_p (v := (.pointer (some ⟨b10, 2, none⟩))) 0 hF rfl (ex_fieldAddr Try.underlying29 rfl sz24 rfl rfl) rfl rfl (by kernel_rfl) (by kernel_rfl) (by kernel_rfl) fun a hF => e_x (v := s9.v) 1 hF hS rfl (ex_load1 1 0 Try.underlying24 rfl rfl rfl rfl) rfl rfl (by kernel_rfl) (by kernel_rfl) (by kernel_rfl) (by kernel_rfl) fun a hF => e_p (v := (.int .i64 t_11)) 2 hF rfl (ex_move rfl) rfl rfl (by kernel_rfl) (by kernel_rfl) (by kernel_rfl) fun a hF => ?_
   obtain ⟨e_15, he_15, hb1⟩ := bindS hb1
   obtain ⟨vs16, at16, d16⟩ := h14.at he_15 1 rfl
   obtain rfl : vs16 = [(.int .i64 e_15)] := d16
   refine e_p (v := (elP s9 (t_11.toNat * 1))) 3 hF rfl (ex_indexAddr Try.underlying24 sz3 rfl rfl (h14.idx he_15)) rfl rfl (by kernel_rfl) (by kernel_rfl) (by kernel_rfl) fun a hF => e_x (v := (.int .i64 e_15)) 4 hF hS rfl (ex_loadE1 0 Try.underlying3 rfl rfl (at16.at 0 rfl) rfl rfl) rfl rfl (by kernel_rfl) (by kernel_rfl) (by kernel_rfl) (by kernel_rfl) fun a hF => e_p (v := s1.v) 5 hF rfl (ex_move rfl) rfl rfl (by kernel_rfl) (by kernel_rfl) (by kernel_rfl) fun a hF => e_p (v := (.int .i64 t_11)) 6 hF rfl (ex_move rfl) rfl rfl (by kernel_rfl) (by kernel_rfl) (by kernel_rfl) fun a hF => e_one 7 (by kernel_rfl) ?_
   obtain ⟨t_17, ht_17, hb1⟩ := bindS hb1
   refine e_call (vs := [s1.v, (.int .i64 t_11)]) hF hS rfl Try.func95 (by kernel_rfl) rfl rfl rfl (c_spec_eFull p_s t_11 t_17 ht_17 _ m hS.vis s1 h1) ?_
   rintro a w _ rfl hF hS
   refine e_p (v := (.bool (e_15 == t_17))) 8 hF rfl (ex_ibin rfl rfl rfl) rfl rfl (by kernel_rfl) (by kernel_rfl) (by kernel_rfl) fun a hF => e_end (by kernel_rfl) (n_sq ?_) _
   obtain ⟨out_21, hj3, hb1⟩ := bindS hb1
   refine q_join (fun a w => ∃ (q23 : Piece), Fr a 29 [(0, s1.v), (4, (.pointer (some ⟨b5, 0, none⟩))), (5, (.pointer (some ⟨b10, 0, none⟩))), (10, (.int .i64 (goLen p_s))), (11, (.int .i64 t_11))] ∧ St [] w0 w m [q8, q23, [⟨b10, [(.int .i64 out_21.Level), s8.v, s9.v, (.int .i64 out_21.Sum)], 29⟩], [⟨b5, [(.int .i64 0), nilS.v, nilS.v, (.int .i64 0)], 29⟩]] ∧ OwnL m 3 q8 s8 out_21.Vars ∧ out_21.Vars = t_6.Vars ∧ OwnL m 3 q23 s9 out_21.Where) ?_ ?_
   ·rcases bcase (e_15 == t_17) with hc4 | hc4
    ·have hj3 := cond_f hc4 hj3
     refine q_cond_f hF rfl hc4 (q_skipc (n_jn ?_))
     obtain rfl := someI hj3
     exact ⟨q14, hF.sub ⟨rfl, rfl, rfl, rfl, rfl, trivial⟩, hS.sel [2, 0, 1, 3] (by decide), h13, h13k, h14⟩
    ·have hj3 := cond_t hc4 hj3
     refine q_cond_t hF rfl hc4 (q_region (q_x (v := (.pointer (some ⟨b10, 2, none⟩))) hF hS (ex_fieldAddr Try.underlying29 rfl sz24 rfl rfl) rfl rfl fun a hF => q_x (v := s9.v) hF hS (ex_load1 1 0 Try.underlying24 rfl rfl rfl rfl) rfl rfl fun a hF => q_x (v := (.int .i64 t_11)) hF hS (ex_move rfl) rfl rfl fun a hF => ?_))
     obtain ⟨e_18, he_18, hj3⟩ := bindS hj3
     obtain ⟨vs19, at19, d19⟩ := h14.at he_18 1 rfl
     obtain rfl : vs19 = [(.int .i64 e_18)] := d19
     refine q_x (v := (elP s9 (t_11.toNat * 1))) hF hS (ex_indexAddr Try.underlying24 sz3 rfl rfl (h14.idx he_18)) rfl rfl fun a hF => q_do rfl fun _ hK => wp_storeE (e' := 0) (us := [(.int .i64 0)]) (vs := [(.int .i64 e_18)]) 0 hF hS h14 sz3 rfl rfl rfl rfl rfl rfl rfl he_18 at19 rfl rfl rfl fun w q20 hS h20 => hK _ _ (q_end (n_jn ?_))
     obtain rfl := someI hj3
     exact ⟨q20, hF.sub ⟨rfl, rfl, rfl, rfl, rfl, trivial⟩, hS.sel [2, 0, 1, 3] (by decide), h13, h13k, h20⟩
   ·rintro a w ⟨q23, hF, hS, h22, h22k, h23⟩
    refine n_ib (n_sq ?_)
    refine q_region (q_x (v := (.int .i64 (w64 (t_11 + 1)))) hF hS (ex_ibin rfl rfl rfl) rfl rfl fun a hF => q_x (v := (.int .i64 (w64 (t_11 + 1)))) hF hS (ex_move rfl) rfl rfl fun a hF => q_end ?_)
    obtain rfl := someI hb1
    exact ⟨rfl, q23, _, _, rfl, hF.sub ⟨rfl, rfl, rfl, rfl, rfl, trivial⟩, hS.sel [1, 2, 0, 3] (by decide), h22, h22k, h23⟩
 ·rintro e a w ⟨q26, rfl, hF, hS, h25, h25k, h26⟩
  refine x_ib (n_sq ?_)
  refine q_seq (q_region (q_x (v := (.agg #[(.int .i64 out_24.Level), s8.v, s9.v, (.int .i64 out_24.Sum)])) hF hS (ex_loadA (vs := [(.int .i64 out_24.Level), s8.v, s9.v, (.int .i64 out_24.Sum)]) 2 0 Try.underlying29 rfl sz29 rfl rfl rfl rfl) rfl rfl fun a hF => q_store (vs := [(.int .i64 out_24.Level), s8.v, s9.v, (.int .i64 out_24.Sum)]) (cs' := [(.int .i64 out_24.Level), s8.v, s9.v, (.int .i64 out_24.Sum)]) 3 0 hF hS sz29 rfl rfl rfl rfl rfl rfl rfl rfl fun a w hF hS => q_end (n_sq (q_ret ?_))))
  obtain rfl := someI hr
  exact ret_of hF hS rfl (.cellA (us := [(.int .i64 out_24.Level), s8.v, s9.v, (.int .i64 out_24.Sum)]) 3 0 Try.underlying29 rfl sz29 rfl rfl rfl rfl .nil) ⟨q8, q26, s8, s9, rfl, hS.sel [0, 1] (by decide), h25, h26⟩

theorem c_spec_lJoin (p_g : impl_Geo) (p_s : List impl_Variable) (p_a : impl_Table) (p_b : impl_Table) (r : impl_Table) (hr : spec_lJoin p_g p_s p_a p_b = some r) (w0 : World) (m : Mem) (hv : Vis m w0) (s1 : Sl) (h1 : Rd m s1 p_g.Parents) (s2 : Sl) (h2 : Rd m s2 p_s) (s3 : Sl) (h3 : Rd m s3 p_a.Vars) (s4 : Sl) (h4 : Rd m s4 p_a.Where) (s5 : Sl) (h5 : Rd m s5 p_b.Vars) (s6 : Sl) (h6 : Rd m s6 p_b.Where) :
  Ret Try.prog 36 [(.agg #[s1.v]), s2.v, (.agg #[(.int .i64 p_a.Level), s3.v, s4.v, (.int .i64 p_a.Sum)]), (.agg #[(.int .i64 p_b.Level), s5.v, s6.v, (.int .i64 p_b.Sum)])] w0 (fun v w => ∃ (m' : Mem) (q0' : Piece) (q1' : Piece) (s0' : Sl) (s1' : Sl), v = (.agg #[(.int .i64 r.Level), s0'.v, s1'.v, (.int .i64 r.Sum)]) ∧ MLe [] w0.heap.size m m' ∧ St [] w0 w m' [q0', q1'] ∧ OwnL m' 3 q0' s0' r.Vars ∧ OwnL m' 3 q1' s1' r.Where) := by
 unfold spec_lJoin at hr
 refine ret_start Try.func36 rfl 99 rfl rfl m hv fun a hF hS => q_seq (q_region (q_box (cs := [s1.v]) hF hS rfl rfl rfl fun a w b7 hF hS => q_box (cs := [(.int .i64 p_a.Level), s3.v, s4.v, (.int .i64 p_a.Sum)]) hF hS rfl rfl rfl fun a w b8 hF hS => q_box (cs := [(.int .i64 p_b.Level), s5.v, s6.v, (.int .i64 p_b.Sum)]) hF hS rfl rfl rfl fun a w b9 hF hS => q_alloc (cs := [(.int .i64 0), nilS.v, nilS.v, (.int .i64 0)]) hF hS rfl rfl rfl fun a w b10 hF hS => q_end (n_sq (q_seq ?_))))
 obtain ⟨t_16, hj1, hr⟩ := bindS hr
 refine q_join (fun a w => ∃ b15, Fr a 99 [(1, s2.v), (6, (.pointer (some ⟨b8, 0, none⟩))), (7, (.pointer (some ⟨b9, 0, none⟩))), (8, (.pointer (some ⟨b10, 0, none⟩))), (9, (.pointer (some ⟨b15, 0, none⟩)))] ∧ St [] w0 w m [[⟨b15, [(.int .i64 t_16.Level), nilS.v, nilS.v, (.int .i64 t_16.Sum)], 29⟩], [⟨b10, [(.int .i64 0), nilS.v, nilS.v, (.int .i64 0)], 29⟩], [⟨b9, [(.int .i64 p_b.Level), s5.v, s6.v, (.int .i64 p_b.Sum)], 29⟩], [⟨b8, [(.int .i64 p_a.Level), s3.v, s4.v, (.int .i64 p_a.Sum)], 29⟩]]) ?_ ?_
 ·refine e_region ⟨[9], [b8, b9]⟩ mixed fun w' hw' => ?_
  have hS := hS.below hw'
  refine e_p (v := (.pointer (some ⟨b8, 0, none⟩))) 0 hF rfl (ex_fieldAddr Try.underlying29 rfl sz3 rfl rfl) rfl rfl (by kernel_rfl) (by kernel_rfl) (by kernel_rfl) fun a hF => e_xb (v := (.int .i64 p_a.Level)) 1 2 hF hS (.head _) rfl rfl (ex_load1 0 0 Try.underlying3 rfl rfl rfl rfl) rfl rfl (by kernel_rfl) (by kernel_rfl) (by kernel_rfl) fun a hF => e_p (v := (.pointer (some ⟨b9, 0, none⟩))) 2 hF rfl (ex_fieldAddr Try.underlying29 rfl sz3 rfl rfl) rfl rfl (by kernel_rfl) (by kernel_rfl) (by kernel_rfl) fun a hF => e_xb (v := (.int .i64 p_b.Level)) 3 1 hF hS (.tail _ (.head _)) rfl rfl (ex_load1 0 0 Try.underlying3 rfl rfl rfl rfl) rfl rfl (by kernel_rfl) (by kernel_rfl) (by kernel_rfl) fun a hF => e_p (v := (.pointer (some ⟨b8, 3, none⟩))) 5 hF rfl (ex_fieldAddr Try.underlying29 rfl sz3 rfl rfl) rfl rfl (by kernel_rfl) (by kernel_rfl) (by kernel_rfl) fun a hF => e_xb (v := (.int .i64 p_a.Sum)) 6 2 hF hS (.head _) rfl rfl (ex_load1 0 0 Try.underlying3 rfl rfl rfl rfl) rfl rfl (by kernel_rfl) (by kernel_rfl) (by kernel_rfl) fun a hF => ?_
  obtain ⟨t_14, ht_14, hj1⟩ := bindS hj1
  refine e_all [4, 8] (by kernel_rfl) rfl ⟨?_, ?_, trivial⟩
  ·refine e_call (vs := [(.int .i64 p_a.Level), (.int .i64 p_b.Level)]) hF hS rfl Try.func51 (by kernel_rfl) rfl rfl rfl (c_spec_l1Most p_a.Level p_b.Level t_14 ht_14 _ m hS.vis) ?_
   rintro a w _ rfl hF hS
   refine e_p (v := (.agg #[(.int .i64 t_14), nilS.v, nilS.v, (.int .i64 p_a.Sum)])) 7 hF rfl (ex_build (cells := [(.int .i64 t_14), nilS.v, nilS.v, (.int .i64 p_a.Sum)]) rfl (by kernel_rfl)) rfl rfl (by kernel_rfl) (by kernel_rfl) (by kernel_rfl) fun a hF => e_one 8 (by kernel_rfl) (e_alloc (cs := [(.int .i64 0), nilS.v, nilS.v, (.int .i64 0)]) hF hS rfl rfl rfl rfl fun a w b15 hF hS => e_one 9 (by kernel_rfl) ?_)
   have hSo := hS
   refine e_store (vs := [(.int .i64 t_14), nilS.v, nilS.v, (.int .i64 p_a.Sum)]) (cs' := [(.int .i64 t_14), nilS.v, nilS.v, (.int .i64 p_a.Sum)]) 0 0 hF hS rfl rfl sz29 rfl rfl rfl rfl rfl rfl rfl rfl fun a w hF hS => ⟨kpC hSo hS 3 3 rfl rfl (kpC hSo hS 2 2 rfl rfl kpN), ?_⟩
   refine e_end (by kernel_rfl) (n_jn ?_) _
   obtain rfl := someI hj1
   exact ⟨b15, hF.sub ⟨rfl, rfl, rfl, rfl, rfl, trivial⟩, hS.mask [true, true, true, true, false]⟩
  ·refine e_alloc (cs := [(.int .i64 0), nilS.v, nilS.v, (.int .i64 0)]) hF hS rfl rfl rfl rfl fun a w b15 hF hS => e_one 4 (by kernel_rfl) (e_call (vs := [(.int .i64 p_a.Level), (.int .i64 p_b.Level)]) hF hS rfl Try.func51 (by kernel_rfl) rfl rfl rfl (c_spec_l1Most p_a.Level p_b.Level t_14 ht_14 _ m hS.vis) ?_)
   rintro a w _ rfl hF hS
   refine e_p (v := (.agg #[(.int .i64 t_14), nilS.v, nilS.v, (.int .i64 p_a.Sum)])) 7 hF rfl (ex_build (cells := [(.int .i64 t_14), nilS.v, nilS.v, (.int .i64 p_a.Sum)]) rfl (by kernel_rfl)) rfl rfl (by kernel_rfl) (by kernel_rfl) (by kernel_rfl) fun a hF => e_one 9 (by kernel_rfl) ?_
   have hSo := hS
   refine e_store (vs := [(.int .i64 t_14), nilS.v, nilS.v, (.int .i64 p_a.Sum)]) (cs' := [(.int .i64 t_14), nilS.v, nilS.v, (.int .i64 p_a.Sum)]) 0 0 hF hS rfl rfl sz29 rfl rfl rfl rfl rfl rfl rfl rfl fun a w hF hS => ⟨kpC hSo hS 3 3 rfl rfl (kpC hSo hS 2 2 rfl rfl kpN), ?_⟩
   refine e_end (by kernel_rfl) (n_jn ?_) _
   obtain rfl := someI hj1
   exact ⟨b15, hF.sub ⟨rfl, rfl, rfl, rfl, rfl, trivial⟩, hS.mask [true, true, true, true, false]⟩
 ·rintro a w ⟨b15, hF, hS⟩
  refine n_sq ?_
  refine q_seq (q_seq (e_region ⟨[5], [b8, b9]⟩ mixed fun w' hw' => ?_))
  have hS := hS.below hw'
  refine e_p (v := (.pointer (some ⟨b8, 1, none⟩))) 0 hF rfl (ex_fieldAddr Try.underlying29 rfl sz24 rfl rfl) rfl rfl (by kernel_rfl) (by kernel_rfl) (by kernel_rfl) fun a hF => e_xb (v := s3.v) 1 3 hF hS (.head _) rfl rfl (ex_load1 0 0 Try.underlying24 rfl rfl rfl rfl) rfl rfl (by kernel_rfl) (by kernel_rfl) (by kernel_rfl) fun a hF => e_p (v := (.pointer (some ⟨b9, 1, none⟩))) 3 hF rfl (ex_fieldAddr Try.underlying29 rfl sz24 rfl rfl) rfl rfl (by kernel_rfl) (by kernel_rfl) (by kernel_rfl) fun a hF => e_xb (v := s5.v) 4 2 hF hS (.tail _ (.head _)) rfl rfl (ex_load1 0 0 Try.underlying24 rfl rfl rfl rfl) rfl rfl (by kernel_rfl) (by kernel_rfl) (by kernel_rfl) fun a hF => e_p (v := (.int .i64 0)) 7 hF rfl (ex_move rfl) rfl rfl (by kernel_rfl) (by kernel_rfl) (by kernel_rfl) fun a hF => e_one 2 (by kernel_rfl) ?_
  obtain ⟨t_26, ht_26, hr⟩ := bindS hr
  refine e_call (vs := [s3.v]) hF hS rfl Try.func68 (by kernel_rfl) rfl rfl rfl (c_spec_l1Own p_a.Vars t_26 ht_26 _ m hS.vis s3 h3) ?_
  rintro a w _ ⟨q28, s28, rfl, hR27, h28⟩ hF hS2
  have hS : St _ _ _ _ [q28, [⟨b15, [(.int .i64 t_16.Level), nilS.v, nilS.v, (.int .i64 t_16.Sum)], 29⟩], [⟨b10, [(.int .i64 0), nilS.v, nilS.v, (.int .i64 0)], 29⟩], [⟨b9, [(.int .i64 p_b.Level), s5.v, s6.v, (.int .i64 p_b.Sum)], 29⟩], [⟨b8, [(.int .i64 p_a.Level), s3.v, s4.v, (.int .i64 p_a.Sum)], 29⟩]] := hS.joinF hR27
  refine e_one 5 (by kernel_rfl) ?_
  obtain ⟨l_29, hl_29, hr⟩ := bindS hr
  have hSo := hS
  refine e_opl rfl rfl rfl fun _ hK => wp_append hF hS h28 Try.underlying24 inf3 rfl rfl rfl rfl (h5.vw hS.vis) rfl (by decide) hl_29 rfl fun a w q30 s30 hF hS h30 => hK _ _ (⟨kpC hSo hS 4 4 rfl rfl (kpC hSo hS 3 3 rfl rfl kpN), ?_⟩)
  refine e_p (v := (.int .i64 (goLen l_29))) 6 hF rfl (ex_len Try.underlying24 rfl h30.len) rfl rfl (by kernel_rfl) (by kernel_rfl) (by kernel_rfl) fun a hF => e_end (by kernel_rfl) (n_sq ?_) _
  refine q_block ?_
  obtain ⟨t_40, hl2, hr⟩ := bindS hr
  refine q_loop (fun (s : Int × impl_Table) a w => ∃ (m34 : Mem), ∃ (s33 : Sl), ∃ t_31, ∃ t_32, s = (t_31, t_32) ∧ Fr a 99 [(1, s2.v), (6, (.pointer (some ⟨b8, 0, none⟩))), (7, (.pointer (some ⟨b9, 0, none⟩))), (8, (.pointer (some ⟨b10, 0, none⟩))), (9, (.pointer (some ⟨b15, 0, none⟩))), (30, s30.v), (31, (.int .i64 (goLen l_29))), (32, (.int .i64 t_31))] ∧ St [] w0 w m34 [q30, [⟨b15, [(.int .i64 t_32.Level), s33.v, nilS.v, (.int .i64 t_32.Sum)], 29⟩], [⟨b10, [(.int .i64 0), nilS.v, nilS.v, (.int .i64 0)], 29⟩], [⟨b9, [(.int .i64 p_b.Level), s5.v, s6.v, (.int .i64 p_b.Sum)], 29⟩], [⟨b8, [(.int .i64 p_a.Level), s3.v, s4.v, (.int .i64 p_a.Sum)], 29⟩]] ∧ MLe [] w0.heap.size m m34 ∧ Rd m34 s33 t_32.Vars) (fun (t_40 : impl_Table) e a w => ∃ (m42 : Mem), ∃ (s41 : Sl), e = .exit 0 ∧ Fr a 99 [(1, s2.v), (6, (.pointer (some ⟨b8, 0, none⟩))), (7, (.pointer (some ⟨b9, 0, none⟩))), (8, (.pointer (some ⟨b10, 0, none⟩))), (9, (.pointer (some ⟨b15, 0, none⟩)))] ∧ St [] w0 w m42 [[⟨b15, [(.int .i64 t_40.Level), s41.v, nilS.v, (.int .i64 t_40.Sum)], 29⟩], [⟨b10, [(.int .i64 0), nilS.v, nilS.v, (.int .i64 0)], 29⟩], [⟨b9, [(.int .i64 p_b.Level), s5.v, s6.v, (.int .i64 p_b.Sum)], 29⟩], [⟨b8, [(.int .i64 p_a.Level), s3.v, s4.v, (.int .i64 p_a.Sum)], 29⟩]] ∧ MLe [] w0.heap.size m m42 ∧ Rd m42 s41 t_40.Vars) hl2 ⟨m, nilS, _, _, rfl, hF.sub ⟨rfl, rfl, rfl, rfl, rfl, rfl, rfl, rfl, trivial⟩, hS, (MLe.refl _ _), (Rd.nil0 (α := Int) m)⟩ ?_ ?_
  ·clear hF hS
   rintro s a w st ⟨m34, s33, t_31, t_32, rfl, hF, hS, hm34, h33⟩ hb2
   unfold spec_lJoin_l1 at hb2
   refine q_seq (q_region (q_x (v := (.bool (decide (t_31 < (goLen l_29))))) hF hS (ex_ibin rfl rfl rfl) rfl rfl fun a hF => q_end (n_sq (q_seq ?_))))
   rcases bcase (decide (t_31 < (goLen l_29))) with hc3 | hc3
   ·have hb2 := cond_f hc3 hb2
    refine q_cond_f hF rfl hc3 (q_exit (x_sq ?_))
    obtain rfl := someI hb2
    exact ⟨nofun, .inl ⟨m34, s33, rfl, hF.sub ⟨rfl, rfl, rfl, rfl, rfl, trivial⟩, hS.mask [false, true, true, true, true], hm34, h33⟩⟩
   ·have hb2 := cond_t hc3 hb2
    refine q_cond_t hF rfl hc3 (q_skipc (n_sq (q_seq (q_block (q_seq (q_region ?_))))))
    obtain ⟨e_35, he_35, hb2⟩ := bindS hb2
    obtain ⟨vs36, at36, d36⟩ := (h30.mono hm34.le).at he_35 1 rfl
    obtain rfl : vs36 = [(.int .i64 e_35)] := d36
    refine q_x (v := (elP s30 (t_31.toNat * 1))) hF hS (ex_indexAddr Try.underlying24 sz3 rfl rfl ((h30.mono hm34.le).idx he_35)) rfl rfl fun a hF => q_x (v := (.int .i64 e_35)) hF hS (ex_loadE1 0 Try.underlying3 rfl rfl (at36.at 0 rfl) rfl rfl) rfl rfl fun a hF => q_x (v := (.int .i64 e_35)) hF hS (ex_assign rfl) rfl rfl fun a hF => q_end (n_sq (q_region (q_x (v := (.pointer (some ⟨b15, 1, none⟩))) hF hS (ex_fieldAddr Try.underlying29 rfl sz24 rfl rfl) rfl rfl fun a hF => q_x (v := s33.v) hF hS (ex_load1 1 0 Try.underlying24 rfl rfl rfl rfl) rfl rfl fun a hF => q_x (v := (.int .i64 e_35)) hF hS (ex_move rfl) rfl rfl fun a hF => ?_)))
    obtain ⟨t_37, ht_37, hb2⟩ := bindS hb2
    refine q_call (vs := [s33.v, (.int .i64 e_35)]) hF hS Try.func69 (by kernel_rfl) rfl rfl rfl (c_spec_l1Put t_32.Vars e_35 t_37 ht_37 _ m34 hS.vis s33 h33) ?_
    have hT := hS
    rintro a w _ ⟨m38, s39, rfl, hm38, hR38, h39⟩ hF hS2
    have hS : St _ _ _ _ [q30, [⟨b15, [(.int .i64 t_32.Level), s33.v, nilS.v, (.int .i64 t_32.Sum)], 29⟩], [⟨b10, [(.int .i64 0), nilS.v, nilS.v, (.int .i64 0)], 29⟩], [⟨b9, [(.int .i64 p_b.Level), s5.v, s6.v, (.int .i64 p_b.Sum)], 29⟩], [⟨b8, [(.int .i64 p_a.Level), s3.v, s4.v, (.int .i64 p_a.Sum)], 29⟩]] := hS.join hR38 hm38
    have hm38 := MLe.weakX (O0 := []) hT hm38
    refine q_x (v := (.pointer (some ⟨b15, 1, none⟩))) hF hS (ex_fieldAddr Try.underlying29 rfl sz24 rfl rfl) rfl rfl fun a hF => q_store (vs := [s39.v]) (cs' := [(.int .i64 t_32.Level), s39.v, nilS.v, (.int .i64 t_32.Sum)]) 1 0 hF hS sz24 rfl rfl rfl rfl rfl rfl rfl rfl fun a w hF hS => q_end (n_ib (n_sq (q_region (q_x (v := (.int .i64 (w64 (t_31 + 1)))) hF hS (ex_ibin rfl rfl rfl) rfl rfl fun a hF => q_x (v := (.int .i64 (w64 (t_31 + 1)))) hF hS (ex_move rfl) rfl rfl fun a hF => q_end ?_))))
    obtain rfl := someI hb2
    exact ⟨rfl, m38, s39, _, _, rfl, hF.sub ⟨rfl, rfl, rfl, rfl, rfl, rfl, rfl, rfl, trivial⟩, hS, (hm34.trans hm38), h39⟩
  ·rintro e a w ⟨m42, s41, rfl, hF, hS, hm42, h41⟩
   refine x_ib (n_sq ?_)
   refine q_seq (q_seq (q_region (q_x (v := (.pointer (some ⟨b8, 3, none⟩))) hF hS (ex_fieldAddr Try.underlying29 rfl sz3 rfl rfl) rfl rfl fun a hF => q_x (v := (.int .i64 p_a.Sum)) hF hS (ex_load1 3 0 Try.underlying3 rfl rfl rfl rfl) rfl rfl fun a hF => q_x (v := (.pointer (some ⟨b9, 3, none⟩))) hF hS (ex_fieldAddr Try.underlying29 rfl sz3 rfl rfl) rfl rfl fun a hF => q_x (v := (.int .i64 p_b.Sum)) hF hS (ex_load1 2 0 Try.underlying3 rfl rfl rfl rfl) rfl rfl fun a hF => q_x (v := (.bool (p_a.Sum != p_b.Sum))) hF hS (ex_ibin rfl rfl rfl) rfl rfl fun a hF => q_end (n_sq ?_))))
   obtain ⟨t_59, hj4, hr⟩ := bindS hr
   refine q_join (fun a w => ∃ (m61 : Mem), ∃ (s60 : Sl), Fr a 99 [(1, s2.v), (6, (.pointer (some ⟨b8, 0, none⟩))), (7, (.pointer (some ⟨b9, 0, none⟩))), (8, (.pointer (some ⟨b10, 0, none⟩))), (9, (.pointer (some ⟨b15, 0, none⟩)))] ∧ St [] w0 w m61 [[⟨b15, [(.int .i64 t_59.Level), s60.v, nilS.v, (.int .i64 t_59.Sum)], 29⟩], [⟨b10, [(.int .i64 0), nilS.v, nilS.v, (.int .i64 0)], 29⟩], [⟨b9, [(.int .i64 p_b.Level), s5.v, s6.v, (.int .i64 p_b.Sum)], 29⟩], [⟨b8, [(.int .i64 p_a.Level), s3.v, s4.v, (.int .i64 p_a.Sum)], 29⟩]] ∧ MLe [] w0.heap.size m42 m61 ∧ Rd m61 s60 t_59.Vars) ?_ ?_
   ·rcases bcase (p_a.Sum != p_b.Sum) with hc5 | hc5
    ·have hj4 := cond_f hc5 hj4
     refine q_cond_f hF rfl hc5 (q_skipc (n_jn ?_))
     obtain rfl := someI hj4
     exact ⟨m42, s41, hF.sub ⟨rfl, rfl, rfl, rfl, rfl, trivial⟩, hS, (MLe.refl _ _), h41⟩
    ·have hj4 := cond_t hc5 hj4
     refine q_cond_t hF rfl hc5 (q_seq (q_region (q_x (v := (.pointer (some ⟨b15, 3, none⟩))) hF hS (ex_fieldAddr Try.underlying29 rfl sz3 rfl rfl) rfl rfl fun a hF => q_store (vs := [(.int .i64 (-1))]) (cs' := [(.int .i64 t_40.Level), s41.v, nilS.v, (.int .i64 (-1))]) 0 0 hF hS sz3 rfl rfl rfl rfl rfl rfl rfl rfl fun a w hF hS => q_end (n_sq (q_seq (q_region (q_x (v := (.pointer (some ⟨b8, 3, none⟩))) hF hS (ex_fieldAddr Try.underlying29 rfl sz3 rfl rfl) rfl rfl fun a hF => q_x (v := (.int .i64 p_a.Sum)) hF hS (ex_load1 3 0 Try.underlying3 rfl rfl rfl rfl) rfl rfl fun a hF => q_x (v := (.pointer (some ⟨b9, 3, none⟩))) hF hS (ex_fieldAddr Try.underlying29 rfl sz3 rfl rfl) rfl rfl fun a hF => q_x (v := (.int .i64 p_b.Sum)) hF hS (ex_load1 2 0 Try.underlying3 rfl rfl rfl rfl) rfl rfl fun a hF => q_do rfl fun _ hK => wp_buildSlice' (l := ([p_a.Sum, p_b.Sum] : List Int)) (cells := [(.int .i64 p_a.Sum), (.int .i64 p_b.Sum)]) hF hS Try.underlying24 inf3 rfl rfl (by kernel_rfl) rfl rfl rfl ⟨rfl, rfl, rfl⟩ rfl rfl fun a w q43 s43 hF hS h43 _ => hK _ _ (q_x (v := (.int .i64 (goLen ([p_a.Sum, p_b.Sum] : List Int)))) hF hS (ex_len Try.underlying24 rfl h43.len) rfl rfl fun a hF => q_x (v := (.int .i64 0)) hF hS (ex_move rfl) rfl rfl fun a hF => q_end (n_sq (q_block ?_))))))))))
     obtain ⟨t_56, hl6, hj4⟩ := bindS hj4
     refine q_loop (fun (s : Int × impl_Table) a w => ∃ (m47 : Mem), ∃ (s46 : Sl), ∃ t_44, ∃ t_45, s = (t_44, t_45) ∧ Fr a 99 [(1, s2.v), (6, (.pointer (some ⟨b8, 0, none⟩))), (7, (.pointer (some ⟨b9, 0, none⟩))), (8, (.pointer (some ⟨b10, 0, none⟩))), (9, (.pointer (some ⟨b15, 0, none⟩))), (52, s43.v), (53, (.int .i64 (goLen ([p_a.Sum, p_b.Sum] : List Int)))), (54, (.int .i64 t_44))] ∧ St [] w0 w m47 [q43, [⟨b15, [(.int .i64 t_45.Level), s46.v, nilS.v, (.int .i64 t_45.Sum)], 29⟩], [⟨b10, [(.int .i64 0), nilS.v, nilS.v, (.int .i64 0)], 29⟩], [⟨b9, [(.int .i64 p_b.Level), s5.v, s6.v, (.int .i64 p_b.Sum)], 29⟩], [⟨b8, [(.int .i64 p_a.Level), s3.v, s4.v, (.int .i64 p_a.Sum)], 29⟩]] ∧ MLe [] w0.heap.size m42 m47 ∧ Rd m47 s46 t_45.Vars) (fun (t_56 : impl_Table) e a w => ∃ (m58 : Mem), ∃ (s57 : Sl), e = .exit 2 ∧ Fr a 99 [(1, s2.v), (6, (.pointer (some ⟨b8, 0, none⟩))), (7, (.pointer (some ⟨b9, 0, none⟩))), (8, (.pointer (some ⟨b10, 0, none⟩))), (9, (.pointer (some ⟨b15, 0, none⟩)))] ∧ St [] w0 w m58 [[⟨b15, [(.int .i64 t_56.Level), s57.v, nilS.v, (.int .i64 t_56.Sum)], 29⟩], [⟨b10, [(.int .i64 0), nilS.v, nilS.v, (.int .i64 0)], 29⟩], [⟨b9, [(.int .i64 p_b.Level), s5.v, s6.v, (.int .i64 p_b.Sum)], 29⟩], [⟨b8, [(.int .i64 p_a.Level), s3.v, s4.v, (.int .i64 p_a.Sum)], 29⟩]] ∧ MLe [] w0.heap.size m42 m58 ∧ Rd m58 s57 t_56.Vars) hl6 ⟨m42, s41, _, _, rfl, hF.sub ⟨rfl, rfl, rfl, rfl, rfl, rfl, rfl, rfl, trivial⟩, hS, (MLe.refl _ _), h41⟩ ?_ ?_
     ·clear hF hS
      rintro s a w st ⟨m47, s46, t_44, t_45, rfl, hF, hS, hm47, h46⟩ hb6
      unfold spec_lJoin_l2 at hb6
      refine q_seq (q_region (q_x (v := (.bool (decide (t_44 < (goLen ([p_a.Sum, p_b.Sum] : List Int)))))) hF hS (ex_ibin rfl rfl rfl) rfl rfl fun a hF => q_end (n_sq (q_seq ?_))))
      rcases bcase (decide (t_44 < (goLen ([p_a.Sum, p_b.Sum] : List Int)))) with hc7 | hc7
      ·have hb6 := cond_f hc7 hb6
       refine q_cond_f hF rfl hc7 (q_exit (x_sq ?_))
       obtain rfl := someI hb6
       exact ⟨nofun, .inl ⟨m47, s46, rfl, hF.sub ⟨rfl, rfl, rfl, rfl, rfl, trivial⟩, hS.mask [false, true, true, true, true], hm47, h46⟩⟩
      ·have hb6 := cond_t hc7 hb6
       refine q_cond_t hF rfl hc7 (q_skipc (n_sq (q_seq (q_block (q_seq (q_region ?_))))))
       obtain ⟨e_48, he_48, hb6⟩ := bindS hb6
       obtain ⟨vs49, at49, d49⟩ := (h43.mono hm47.le).at he_48 1 rfl
       obtain rfl : vs49 = [(.int .i64 e_48)] := d49
       refine q_x (v := (elP s43 (t_44.toNat * 1))) hF hS (ex_indexAddr Try.underlying24 sz3 rfl rfl ((h43.mono hm47.le).idx he_48)) rfl rfl fun a hF => q_x (v := (.int .i64 e_48)) hF hS (ex_loadE1 0 Try.underlying3 rfl rfl (at49.at 0 rfl) rfl rfl) rfl rfl fun a hF => q_x (v := (.int .i64 e_48)) hF hS (ex_assign rfl) rfl rfl fun a hF => q_end (n_sq (q_seq (q_region (q_x (v := (.int .i64 e_48)) hF hS (ex_move rfl) rfl rfl fun a hF => q_x (v := (.bool (decide (0 ≤ e_48)))) hF hS (ex_ibin rfl rfl rfl) rfl rfl fun a hF => q_end (n_sq ?_)))))
       obtain ⟨t_53, hj8, hb6⟩ := bindS hb6
       refine q_join (fun a w => ∃ (m55 : Mem), ∃ (s54 : Sl), Fr a 99 [(1, s2.v), (6, (.pointer (some ⟨b8, 0, none⟩))), (7, (.pointer (some ⟨b9, 0, none⟩))), (8, (.pointer (some ⟨b10, 0, none⟩))), (9, (.pointer (some ⟨b15, 0, none⟩))), (52, s43.v), (53, (.int .i64 (goLen ([p_a.Sum, p_b.Sum] : List Int)))), (54, (.int .i64 t_44))] ∧ St [] w0 w m55 [q43, [⟨b15, [(.int .i64 t_53.Level), s54.v, nilS.v, (.int .i64 t_53.Sum)], 29⟩], [⟨b10, [(.int .i64 0), nilS.v, nilS.v, (.int .i64 0)], 29⟩], [⟨b9, [(.int .i64 p_b.Level), s5.v, s6.v, (.int .i64 p_b.Sum)], 29⟩], [⟨b8, [(.int .i64 p_a.Level), s3.v, s4.v, (.int .i64 p_a.Sum)], 29⟩]] ∧ MLe [] w0.heap.size m47 m55 ∧ Rd m55 s54 t_53.Vars) ?_ ?_
       ·rcases bcase (decide (0 ≤ e_48)) with hc9 | hc9
        ·have hj8 := cond_f hc9 hj8
         refine q_cond_f hF rfl hc9 (q_skipc (n_jn ?_))
         obtain rfl := someI hj8
         exact ⟨m47, s46, hF.sub ⟨rfl, rfl, rfl, rfl, rfl, rfl, rfl, rfl, trivial⟩, hS, (MLe.refl _ _), h46⟩
        ·have hj8 := cond_t hc9 hj8
         refine q_cond_t hF rfl hc9 (q_region (q_x (v := (.pointer (some ⟨b15, 1, none⟩))) hF hS (ex_fieldAddr Try.underlying29 rfl sz24 rfl rfl) rfl rfl fun a hF => q_x (v := s46.v) hF hS (ex_load1 1 0 Try.underlying24 rfl rfl rfl rfl) rfl rfl fun a hF => q_x (v := (.int .i64 e_48)) hF hS (ex_move rfl) rfl rfl fun a hF => ?_))
         obtain ⟨t_50, ht_50, hj8⟩ := bindS hj8
         refine q_call (vs := [s46.v, (.int .i64 e_48)]) hF hS Try.func69 (by kernel_rfl) rfl rfl rfl (c_spec_l1Put t_45.Vars e_48 t_50 ht_50 _ m47 hS.vis s46 h46) ?_
         have hT := hS
         rintro a w _ ⟨m51, s52, rfl, hm51, hR51, h52⟩ hF hS2
         have hS : St _ _ _ _ [q43, [⟨b15, [(.int .i64 t_45.Level), s46.v, nilS.v, (.int .i64 t_45.Sum)], 29⟩], [⟨b10, [(.int .i64 0), nilS.v, nilS.v, (.int .i64 0)], 29⟩], [⟨b9, [(.int .i64 p_b.Level), s5.v, s6.v, (.int .i64 p_b.Sum)], 29⟩], [⟨b8, [(.int .i64 p_a.Level), s3.v, s4.v, (.int .i64 p_a.Sum)], 29⟩]] := hS.join hR51 hm51
         have hm51 := MLe.weakX (O0 := []) hT hm51
         refine q_x (v := (.pointer (some ⟨b15, 1, none⟩))) hF hS (ex_fieldAddr Try.underlying29 rfl sz24 rfl rfl) rfl rfl fun a hF => q_store (vs := [s52.v]) (cs' := [(.int .i64 t_45.Level), s52.v, nilS.v, (.int .i64 t_45.Sum)]) 1 0 hF hS sz24 rfl rfl rfl rfl rfl rfl rfl rfl fun a w hF hS => q_end (n_jn ?_)
         obtain rfl := someI hj8
         exact ⟨m51, s52, hF.sub ⟨rfl, rfl, rfl, rfl, rfl, rfl, rfl, rfl, trivial⟩, hS, hm51, h52⟩
       ·rintro a w ⟨m55, s54, hF, hS, hm55, h54⟩
        refine n_ib (n_sq ?_)
        refine q_region (q_x (v := (.int .i64 (w64 (t_44 + 1)))) hF hS (ex_ibin rfl rfl rfl) rfl rfl fun a hF => q_x (v := (.int .i64 (w64 (t_44 + 1)))) hF hS (ex_move rfl) rfl rfl fun a hF => q_end ?_)
        obtain rfl := someI hb6
        exact ⟨rfl, m55, s54, _, _, rfl, hF.sub ⟨rfl, rfl, rfl, rfl, rfl, rfl, rfl, rfl, trivial⟩, hS, (hm47.trans hm55), h54⟩
     ·rintro e a w ⟨m58, s57, rfl, hF, hS, hm58, h57⟩
      refine x_ib (n_jn ?_)
      obtain rfl := someI hj4
      exact ⟨m58, s57, hF.sub ⟨rfl, rfl, rfl, rfl, rfl, trivial⟩, hS, hm58, h57⟩
   ·rintro a w ⟨m61, s60, hF, hS, hm61, h60⟩
    refine n_sq ?_
    refine q_seq (q_seq (q_region (q_x (v := s2.v) hF hS (ex_move rfl) rfl rfl fun a hF => q_x (v := (.int .i64 (goLen p_s))) hF hS (ex_len Try.underlying27 rfl ((h2.mono hm42.le).mono hm61.le).len) rfl rfl fun a hF => q_x (v := (.int .i64 0)) hF hS (ex_move rfl) rfl rfl fun a hF => q_end (n_sq (q_block ?_)))))
    obtain ⟨t_82, hl10, hr⟩ := bindS hr
    refine q_loop (fun (s : Int × impl_Table) a w => ∃ (m66 : Mem), ∃ (s64 : Sl), ∃ (q65 : Piece), ∃ (s65 : Sl), ∃ t_62, ∃ t_63, s = (t_62, t_63) ∧ Fr a 99 [(1, s2.v), (6, (.pointer (some ⟨b8, 0, none⟩))), (7, (.pointer (some ⟨b9, 0, none⟩))), (8, (.pointer (some ⟨b10, 0, none⟩))), (9, (.pointer (some ⟨b15, 0, none⟩))), (67, (.int .i64 (goLen p_s))), (68, (.int .i64 t_62))] ∧ St [] w0 w m66 [q65, [⟨b15, [(.int .i64 t_63.Level), s64.v, s65.v, (.int .i64 t_63.Sum)], 29⟩], [⟨b10, [(.int .i64 0), nilS.v, nilS.v, (.int .i64 0)], 29⟩], [⟨b9, [(.int .i64 p_b.Level), s5.v, s6.v, (.int .i64 p_b.Sum)], 29⟩], [⟨b8, [(.int .i64 p_a.Level), s3.v, s4.v, (.int .i64 p_a.Sum)], 29⟩]] ∧ MLe [] w0.heap.size m61 m66 ∧ Rd m66 s64 t_63.Vars ∧ OwnL m66 3 q65 s65 t_63.Where) (fun (t_82 : impl_Table) e a w => ∃ (m85 : Mem), ∃ (s83 : Sl), ∃ (q84 : Piece), ∃ (s84 : Sl), e = .exit 4 ∧ Fr a 99 [(1, s2.v), (8, (.pointer (some ⟨b10, 0, none⟩))), (9, (.pointer (some ⟨b15, 0, none⟩)))] ∧ St [] w0 w m85 [q84, [⟨b15, [(.int .i64 t_82.Level), s83.v, s84.v, (.int .i64 t_82.Sum)], 29⟩], [⟨b10, [(.int .i64 0), nilS.v, nilS.v, (.int .i64 0)], 29⟩]] ∧ MLe [] w0.heap.size m61 m85 ∧ Rd m85 s83 t_82.Vars ∧ OwnL m85 3 q84 s84 t_82.Where) hl10 ⟨m61, s60, [], nilS, _, _, rfl, hF.sub ⟨rfl, rfl, rfl, rfl, rfl, rfl, rfl, trivial⟩, hS.sel [4, 0, 1, 2, 3] (by decide), (MLe.refl _ _), h60, (OwnL.nil (α := Int) m61 3)⟩ ?_ ?_
    ·clear hF hS
     rintro s a w st ⟨m66, s64, q65, s65, t_62, t_63, rfl, hF, hS, hm66, h64, h65⟩ hb10
     unfold spec_lJoin_l3 at hb10
     refine q_seq (q_region (q_x (v := (.bool (decide (t_62 < (goLen p_s))))) hF hS (ex_ibin rfl rfl rfl) rfl rfl fun a hF => q_end (n_sq (q_seq ?_))))
     rcases bcase (decide (t_62 < (goLen p_s))) with hc11 | hc11
     ·have hb10 := cond_f hc11 hb10
      refine q_cond_f hF rfl hc11 (q_exit (x_sq ?_))
      obtain rfl := someI hb10
      exact ⟨nofun, .inl ⟨m66, s64, q65, s65, rfl, hF.sub ⟨rfl, rfl, rfl, trivial⟩, hS.mask [true, true, true, false, false], hm66, h64, h65⟩⟩
     ·have hb10 := cond_t hc11 hb10
      refine q_cond_t hF rfl hc11 (q_skipc (n_sq (q_seq (q_block (q_seq (q_region (q_x (v := (.int .i64 t_62)) hF hS (ex_move rfl) rfl rfl fun a hF => q_x (v := (.int .i64 t_62)) hF hS (ex_assign rfl) rfl rfl fun a hF => q_end (n_sq (q_seq (e_region ⟨[], []⟩ mixed fun w' hw' => ?_))))))))))
      have hS := hS.below hw'
      refine e_p (v := s2.v) 0 hF rfl (ex_move rfl) rfl rfl (by kernel_rfl) (by kernel_rfl) (by kernel_rfl) fun a hF => e_x (v := (.agg #[(.int .i64 p_a.Level), s3.v, s4.v, (.int .i64 p_a.Sum)])) 1 hF hS rfl (ex_loadA (vs := [(.int .i64 p_a.Level), s3.v, s4.v, (.int .i64 p_a.Sum)]) 4 0 Try.underlying29 rfl sz29 rfl rfl rfl rfl) rfl rfl (by kernel_rfl) (by kernel_rfl) (by kernel_rfl) (by kernel_rfl) fun a hF => e_p (v := (.int .i64 t_62)) 2 hF rfl (ex_move rfl) rfl rfl (by kernel_rfl) (by kernel_rfl) (by kernel_rfl) fun a hF => e_p (v := s2.v) 4 hF rfl (ex_move rfl) rfl rfl (by kernel_rfl) (by kernel_rfl) (by kernel_rfl) fun a hF => e_x (v := (.agg #[(.int .i64 p_b.Level), s5.v, s6.v, (.int .i64 p_b.Sum)])) 5 hF hS rfl (ex_loadA (vs := [(.int .i64 p_b.Level), s5.v, s6.v, (.int .i64 p_b.Sum)]) 3 0 Try.underlying29 rfl sz29 rfl rfl rfl rfl) rfl rfl (by kernel_rfl) (by kernel_rfl) (by kernel_rfl) (by kernel_rfl) fun a hF => e_p (v := (.int .i64 t_62)) 6 hF rfl (ex_move rfl) rfl rfl (by kernel_rfl) (by kernel_rfl) (by kernel_rfl) fun a hF => e_one 3 (by kernel_rfl) ?_
      obtain ⟨t_70, ht_70, hb10⟩ := bindS hb10
      refine e_call (vs := [s2.v, (.agg #[(.int .i64 p_a.Level), s3.v, s4.v, (.int .i64 p_a.Sum)]), (.int .i64 t_62)]) hF hS rfl Try.func70 (by kernel_rfl) rfl rfl rfl (c_spec_lSet p_s p_a t_62 t_70 ht_70 _ m66 hS.vis s2 (((h2.mono hm42.le).mono hm61.le).mono hm66.le) s3 (((h3.mono hm42.le).mono hm61.le).mono hm66.le) s4 (((h4.mono hm42.le).mono hm61.le).mono hm66.le)) ?_
      rintro a w _ rfl hF hS
      refine e_one 7 (by kernel_rfl) ?_
      obtain ⟨t_71, ht_71, hb10⟩ := bindS hb10
      refine e_call (vs := [s2.v, (.agg #[(.int .i64 p_b.Level), s5.v, s6.v, (.int .i64 p_b.Sum)]), (.int .i64 t_62)]) hF hS rfl Try.func70 (by kernel_rfl) rfl rfl rfl (c_spec_lSet p_s p_b t_62 t_71 ht_71 _ m66 hS.vis s2 (((h2.mono hm42.le).mono hm61.le).mono hm66.le) s5 (((h5.mono hm42.le).mono hm61.le).mono hm66.le) s6 (((h6.mono hm42.le).mono hm61.le).mono hm66.le)) ?_
      rintro a w _ rfl hF hS
      refine e_p (v := (.int .i64 t_70)) 8 hF rfl (ex_assign rfl) rfl rfl (by kernel_rfl) (by kernel_rfl) (by kernel_rfl) fun a hF => e_p (v := (.int .i64 t_71)) 9 hF rfl (ex_assign rfl) rfl rfl (by kernel_rfl) (by kernel_rfl) (by kernel_rfl) fun a hF => e_end (by kernel_rfl) (n_sq ?_) _
      refine q_seq (q_seq (q_region (q_x (v := (.int .i64 t_70)) hF hS (ex_move rfl) rfl rfl fun a hF => q_x (v := (.int .i64 t_71)) hF hS (ex_move rfl) rfl rfl fun a hF => q_x (v := (.bool (t_70 != t_71))) hF hS (ex_ibin rfl rfl rfl) rfl rfl fun a hF => q_end (n_sq ?_))))
      obtain ⟨t_75, hj12, hb10⟩ := bindS hb10
      refine q_join (fun a w => ∃ (m78 : Mem), ∃ (s76 : Sl), Fr a 99 [(1, s2.v), (6, (.pointer (some ⟨b8, 0, none⟩))), (7, (.pointer (some ⟨b9, 0, none⟩))), (8, (.pointer (some ⟨b10, 0, none⟩))), (9, (.pointer (some ⟨b15, 0, none⟩))), (15, (.int .i64 t_70)), (16, (.int .i64 t_71)), (67, (.int .i64 (goLen p_s))), (68, (.int .i64 t_62))] ∧ St [] w0 w m78 [q65, [⟨b15, [(.int .i64 t_75.Level), s76.v, s65.v, (.int .i64 t_75.Sum)], 29⟩], [⟨b10, [(.int .i64 0), nilS.v, nilS.v, (.int .i64 0)], 29⟩], [⟨b9, [(.int .i64 p_b.Level), s5.v, s6.v, (.int .i64 p_b.Sum)], 29⟩], [⟨b8, [(.int .i64 p_a.Level), s3.v, s4.v, (.int .i64 p_a.Sum)], 29⟩]] ∧ MLe [] w0.heap.size m66 m78 ∧ Rd m78 s76 t_75.Vars ∧ OwnL m78 3 q65 s65 t_75.Where) ?_ ?_
      ·rcases bcase (t_70 != t_71) with hc13 | hc13
       ·have hj12 := cond_f hc13 hj12
        refine q_cond_f hF rfl hc13 (q_skipc (n_jn ?_))
        obtain rfl := someI hj12
        exact ⟨m66, s64, hF.sub ⟨rfl, rfl, rfl, rfl, rfl, rfl, rfl, rfl, rfl, trivial⟩, hS, (MLe.refl _ _), h64, h65⟩
       ·have hj12 := cond_t hc13 hj12
        refine q_cond_t hF rfl hc13 (q_region (q_x (v := (.pointer (some ⟨b15, 1, none⟩))) hF hS (ex_fieldAddr Try.underlying29 rfl sz24 rfl rfl) rfl rfl fun a hF => q_x (v := s64.v) hF hS (ex_load1 1 0 Try.underlying24 rfl rfl rfl rfl) rfl rfl fun a hF => q_x (v := (.int .i64 t_62)) hF hS (ex_move rfl) rfl rfl fun a hF => ?_))
        obtain ⟨t_72, ht_72, hj12⟩ := bindS hj12
        refine q_call (vs := [s64.v, (.int .i64 t_62)]) hF hS Try.func69 (by kernel_rfl) rfl rfl rfl (c_spec_l1Put t_63.Vars t_62 t_72 ht_72 _ m66 hS.vis s64 h64) ?_
        have hT := hS
        rintro a w _ ⟨m73, s74, rfl, hm73, hR73, h74⟩ hF hS2
        have hS : St _ _ _ _ [q65, [⟨b15, [(.int .i64 t_63.Level), s64.v, s65.v, (.int .i64 t_63.Sum)], 29⟩], [⟨b10, [(.int .i64 0), nilS.v, nilS.v, (.int .i64 0)], 29⟩], [⟨b9, [(.int .i64 p_b.Level), s5.v, s6.v, (.int .i64 p_b.Sum)], 29⟩], [⟨b8, [(.int .i64 p_a.Level), s3.v, s4.v, (.int .i64 p_a.Sum)], 29⟩]] := hS.join hR73 hm73
        have hm73 := MLe.weakX (O0 := []) hT hm73
        refine q_x (v := (.pointer (some ⟨b15, 1, none⟩))) hF hS (ex_fieldAddr Try.underlying29 rfl sz24 rfl rfl) rfl rfl fun a hF => q_store (vs := [s74.v]) (cs' := [(.int .i64 t_63.Level), s74.v, s65.v, (.int .i64 t_63.Sum)]) 1 0 hF hS sz24 rfl rfl rfl rfl rfl rfl rfl rfl fun a w hF hS => q_end (n_jn ?_)
        obtain rfl := someI hj12
        exact ⟨m73, s74, hF.sub ⟨rfl, rfl, rfl, rfl, rfl, rfl, rfl, rfl, rfl, trivial⟩, hS, hm73, h74, (h65.mono hm73.le)⟩
      ·rintro a w ⟨m78, s76, hF, hS, hm78, h76, h77⟩
       refine n_sq ?_
       refine q_region (q_x (v := (.pointer (some ⟨b15, 2, none⟩))) hF hS (ex_fieldAddr Try.underlying29 rfl sz24 rfl rfl) rfl rfl fun a hF => q_x (v := s65.v) hF hS (ex_load1 1 0 Try.underlying24 rfl rfl rfl rfl) rfl rfl fun a hF => q_x (v := (.int .i64 t_70)) hF hS (ex_move rfl) rfl rfl fun a hF => q_x (v := (.int .i64 t_71)) hF hS (ex_move rfl) rfl rfl fun a hF => q_x (v := (.int .i64 (goBits .or .i64 t_70 t_71))) hF hS (ex_bits rfl rfl rfl) rfl rfl fun a hF => q_do rfl fun _ hK => wp_buildSlice' (l := ([goBits .or .i64 t_70 t_71] : List Int)) (cells := [(.int .i64 (goBits .or .i64 t_70 t_71))]) hF hS Try.underlying24 inf3 rfl rfl (by kernel_rfl) rfl rfl rfl ⟨rfl, rfl⟩ rfl rfl fun a w q79 s79 hF hS h79 _ => hK _ _ ?_)
       have hS : St _ _ _ _ [q65, q79, [⟨b15, [(.int .i64 t_75.Level), s76.v, s65.v, (.int .i64 t_75.Sum)], 29⟩], [⟨b10, [(.int .i64 0), nilS.v, nilS.v, (.int .i64 0)], 29⟩], [⟨b9, [(.int .i64 p_b.Level), s5.v, s6.v, (.int .i64 p_b.Sum)], 29⟩], [⟨b8, [(.int .i64 p_a.Level), s3.v, s4.v, (.int .i64 p_a.Sum)], 29⟩]] := hS.sel [1, 0, 2, 3, 4, 5] (by decide)
       obtain ⟨l_80, hl_80, hb10⟩ := bindS hb10
       refine q_do rfl fun _ hK => wp_append hF hS h77 Try.underlying24 inf3 rfl rfl rfl rfl (h79.vw hS (j := 1) rfl) rfl (by decide) hl_80 rfl fun a w q81 s81 hF hS h81 => hK _ _ (q_x (v := (.pointer (some ⟨b15, 2, none⟩))) hF hS (ex_fieldAddr Try.underlying29 rfl sz24 rfl rfl) rfl rfl fun a hF => q_store (vs := [s81.v]) (cs' := [(.int .i64 t_75.Level), s76.v, s81.v, (.int .i64 t_75.Sum)]) 2 0 hF hS sz24 rfl rfl rfl rfl rfl rfl rfl rfl fun a w hF hS => q_end (n_ib (n_sq (q_region (q_x (v := (.int .i64 (w64 (t_62 + 1)))) hF hS (ex_ibin rfl rfl rfl) rfl rfl fun a hF => q_x (v := (.int .i64 (w64 (t_62 + 1)))) hF hS (ex_move rfl) rfl rfl fun a hF => q_end ?_)))))
       obtain rfl := someI hb10
       exact ⟨rfl, m78, s76, q81, s81, _, _, rfl, hF.sub ⟨rfl, rfl, rfl, rfl, rfl, rfl, rfl, trivial⟩, hS.mask [true, false, true, true, true, true], (hm66.trans hm78), h76, h81⟩
    ·rintro e a w ⟨m85, s83, q84, s84, rfl, hF, hS, hm85, h83, h84⟩
     refine x_ib (n_sq ?_)
     refine q_seq (q_region (q_x (v := s2.v) hF hS (ex_move rfl) rfl rfl fun a hF => q_x (v := (.agg #[(.int .i64 t_82.Level), s83.v, s84.v, (.int .i64 t_82.Sum)])) hF hS (ex_loadA (vs := [(.int .i64 t_82.Level), s83.v, s84.v, (.int .i64 t_82.Sum)]) 1 0 Try.underlying29 rfl sz29 rfl rfl rfl rfl) rfl rfl fun a hF => ?_))
     obtain ⟨m87, hl87, hv87, hz87⟩ := hS.lend
     obtain ⟨t_86, ht_86, hr⟩ := bindS hr
     refine q_call (vs := [s2.v, (.agg #[(.int .i64 t_82.Level), s83.v, s84.v, (.int .i64 t_82.Sum)])]) hF hS Try.func71 (by kernel_rfl) rfl rfl rfl (c_spec_nNormal p_s t_82 t_86 ht_86 _ m87 hv87 s2 ((((h2.mono hm42.le).mono hm61.le).mono hm85.le).mono hl87) s83 (h83.mono hl87) s84 (h84.froz hl87 (hz87 0 _ rfl))) ?_
     rintro a w _ ⟨q89, q90, s89, s90, rfl, hR88, h89, h90⟩ hF hS2
     have hS : St _ _ _ _ [q89, q90, q84, [⟨b15, [(.int .i64 t_82.Level), s83.v, s84.v, (.int .i64 t_82.Sum)], 29⟩], [⟨b10, [(.int .i64 0), nilS.v, nilS.v, (.int .i64 0)], 29⟩]] := hS.joinF hR88
     have h89 := h89.any m85
     have h90 := h90.any m85
     refine q_store (vs := [(.int .i64 t_86.Level), s89.v, s90.v, (.int .i64 t_86.Sum)]) (cs' := [(.int .i64 t_86.Level), s89.v, s90.v, (.int .i64 t_86.Sum)]) 4 0 hF hS sz29 rfl rfl rfl rfl rfl rfl rfl rfl fun a w hF hS => q_end (n_sq (q_ret ?_))
     obtain rfl := someI hr
     exact ret_of hF hS rfl (.cellA (us := [(.int .i64 t_86.Level), s89.v, s90.v, (.int .i64 t_86.Sum)]) 4 0 Try.underlying29 rfl sz29 rfl rfl rfl rfl .nil) ⟨m85, q89, q90, s89, s90, rfl, ((hm42.trans hm61).trans hm85), hS.sel [0, 1] (by decide), h89, h90⟩

theorem c_spec_gUp (p_g : impl_Geo) (p_i : Int) (p_level : Int) (r : Int) (hr : spec_gUp p_g p_i p_level = some r) (w0 : World) (m : Mem) (hv : Vis m w0) (s1 : Sl) (h1 : Rd m s1 p_g.Parents) :
  Ret Try.prog 97 [(.agg #[s1.v]), (.int .i64 p_i), (.int .i64 p_level)] w0 (fun v _ => v = (.int .i64 r)) := by
 unfold spec_gUp at hr
 refine ret_start Try.func97 rfl 27 rfl rfl m hv fun a hF hS => q_seq (q_region (q_box (cs := [s1.v]) hF hS rfl rfl rfl fun a w b2 hF hS => q_x (v := (.int .i64 0)) hF hS (ex_assign rfl) rfl rfl fun a hF => q_end (n_sq (q_seq (q_region (q_x (v := (.agg #[s1.v])) hF hS (ex_loadA (vs := [s1.v]) 0 0 Try.underlying26 rfl sz26 rfl rfl rfl rfl) rfl rfl fun a hF => q_x (v := (.int .i64 p_i)) hF hS (ex_move rfl) rfl rfl fun a hF => ?_))))))
 obtain ⟨t_3, ht_3, hr⟩ := bindS hr
 refine q_call (vs := [(.agg #[s1.v]), (.int .i64 p_i)]) hF hS Try.func94 (by kernel_rfl) rfl rfl rfl (c_spec_gDepth p_g p_i t_3 ht_3 _ m hS.vis s1 h1) ?_
 rintro a w _ rfl hF hS
 refine q_x (v := (.int .i64 t_3)) hF hS (ex_assign rfl) rfl rfl fun a hF => q_end (n_sq (q_seq (q_seq (q_region (q_x (v := (.int .i64 p_level)) hF hS (ex_move rfl) rfl rfl fun a hF => q_x (v := (.bool (decide (p_level < 0)))) hF hS (ex_ibin rfl rfl rfl) rfl rfl fun a hF => q_end (n_sq ?_))))))
 rcases bcase (decide (p_level < 0)) with hc1 | hc1
 ·have hr := cond_f hc1 hr
  refine q_cond_f hF rfl hc1 (q_skipc (n_sq (q_seq (q_block ?_))))
  obtain ⟨o2, hl2, hr⟩ := bindS hr
  refine q_loop (fun (s : Int × Int) a w => ∃ i_4, ∃ d_5, s = (i_4, d_5) ∧ Fr a 27 [(1, (.int .i64 i_4)), (2, (.int .i64 p_level)), (3, (.pointer (some ⟨b2, 0, none⟩))), (7, (.int .i64 d_5))] ∧ St [] w0 w m [[⟨b2, [s1.v], 26⟩]]) (fun (o : Int × Int) e a w => ∃ i_8, ∃ d_9, o = (i_8, d_9) ∧ e = .exit 0 ∧ Fr a 27 [(1, (.int .i64 i_8)), (2, (.int .i64 p_level)), (7, (.int .i64 d_9))] ∧ St [] w0 w m []) hl2 ⟨_, _, rfl, hF.sub ⟨rfl, rfl, rfl, rfl, trivial⟩, hS⟩ ?_ ?_
  ·clear hF hS
   rintro s a w st ⟨i_4, d_5, rfl, hF, hS⟩ hb2
   unfold spec_gUp_l1 at hb2
   refine q_seq (q_seq (q_region (q_x (v := (.int .i64 d_5)) hF hS (ex_move rfl) rfl rfl fun a hF => q_x (v := (.int .i64 p_level)) hF hS (ex_move rfl) rfl rfl fun a hF => q_x (v := (.bool (decide (p_level < d_5)))) hF hS (ex_ibin rfl rfl rfl) rfl rfl fun a hF => q_end (n_sq ?_))))
   rcases bcase (decide (p_level < d_5)) with hc3 | hc3
   ·have hb2 := cond_f hc3 hb2
    refine q_cond_f hF rfl hc3 (q_exit (x_sq ?_))
    obtain rfl := someI hb2
    exact ⟨nofun, .inl ⟨_, _, rfl, rfl, hF.sub ⟨rfl, rfl, rfl, trivial⟩, hS.mask [false]⟩⟩
   ·have hb2 := cond_t hc3 hb2
    refine q_cond_t hF rfl hc3 (q_skipc (n_sq (q_seq (q_block (q_region (q_x (v := (.pointer (some ⟨b2, 0, none⟩))) hF hS (ex_fieldAddr Try.underlying26 rfl sz24 rfl rfl) rfl rfl fun a hF => q_x (v := s1.v) hF hS (ex_load1 0 0 Try.underlying24 rfl rfl rfl rfl) rfl rfl fun a hF => q_x (v := (.int .i64 i_4)) hF hS (ex_move rfl) rfl rfl fun a hF => ?_))))))
    obtain ⟨e_6, he_6, hb2⟩ := bindS hb2
    obtain ⟨vs7, at7, d7⟩ := h1.at he_6 1 rfl
    obtain rfl : vs7 = [(.int .i64 e_6)] := d7
    refine q_x (v := (elP s1 (i_4.toNat * 1))) hF hS (ex_indexAddr Try.underlying24 sz3 rfl rfl (h1.idx he_6)) rfl rfl fun a hF => q_x (v := (.int .i64 e_6)) hF hS (ex_loadE1 0 Try.underlying3 rfl rfl ((at7).at) rfl rfl) rfl rfl fun a hF => q_x (v := (.int .i64 e_6)) hF hS (ex_assign rfl) rfl rfl fun a hF => q_end (n_ib (n_sq (q_region (q_x (v := (.int .i64 d_5)) hF hS (ex_move rfl) rfl rfl fun a hF => q_x (v := (.int .i64 (w64 (d_5 - 1)))) hF hS (ex_ibin rfl rfl rfl) rfl rfl fun a hF => q_x (v := (.int .i64 (w64 (d_5 - 1)))) hF hS (ex_assign rfl) rfl rfl fun a hF => q_end ?_))))
    obtain rfl := someI hb2
    exact ⟨rfl, _, _, rfl, hF.sub ⟨rfl, rfl, rfl, rfl, trivial⟩, hS⟩
  ·rintro e a w ⟨i_8, d_9, rfl, rfl, hF, hS⟩
   refine x_ib (n_sq ?_)
   refine q_seq (q_seq (q_region (q_x (v := (.int .i64 d_9)) hF hS (ex_move rfl) rfl rfl fun a hF => q_x (v := (.int .i64 p_level)) hF hS (ex_move rfl) rfl rfl fun a hF => q_x (v := (.bool (decide (d_9 < p_level)))) hF hS (ex_ibin rfl rfl rfl) rfl rfl fun a hF => q_end (n_sq ?_))))
   rcases bcase (decide (d_9 < p_level)) with hc4 | hc4
   ·have hr := cond_f hc4 hr
    refine q_cond_f hF rfl hc4 (q_skipc (n_sq (q_seq (q_region (q_x (v := (.int .i64 i_8)) hF hS (ex_move rfl) rfl rfl fun a hF => q_x (v := (.int .i64 i_8)) hF hS (ex_assign rfl) rfl rfl fun a hF => q_end (n_sq (q_ret ?_)))))))
    obtain rfl := someI hr
    exact ret_of hF hS rfl (.tmp rfl .nil) rfl
   ·have hr := cond_t hc4 hr
    refine q_cond_t hF rfl hc4 (q_seq (q_region (q_x (v := (.int .i64 (-1))) hF hS (ex_assign rfl) rfl rfl fun a hF => q_end (n_sq (q_ret (r_sq ?_))))))
    obtain rfl := someI hr
    exact ret_of hF hS rfl (.tmp rfl .nil) rfl
 ·have hr := cond_t hc1 hr
  refine q_cond_t hF rfl hc1 (q_seq (q_region (q_x (v := (.int .i64 (-1))) hF hS (ex_assign rfl) rfl rfl fun a hF => q_end (n_sq (q_ret (r_sq ?_))))))
  obtain rfl := someI hr
  exact ret_of hF hS rfl (.tmp rfl .nil) rfl

theorem c_spec_lLevels (p_g : impl_Geo) (p_t : impl_Table) (p_u : impl_Table) (r : Bool) (hr : spec_lLevels p_g p_t p_u = some r) (w0 : World) (m : Mem) (hv : Vis m w0) (s1 : Sl) (h1 : Rd m s1 p_g.Parents) (s2 : Sl) (h2 : Rd m s2 p_t.Vars) (s3 : Sl) (h3 : Rd m s3 p_t.Where) (s4 : Sl) (h4 : Rd m s4 p_u.Vars) (s5 : Sl) (h5 : Rd m s5 p_u.Where) :
  Ret Try.prog 72 [(.agg #[s1.v]), (.agg #[(.int .i64 p_t.Level), s2.v, s3.v, (.int .i64 p_t.Sum)]), (.agg #[(.int .i64 p_u.Level), s4.v, s5.v, (.int .i64 p_u.Sum)])] w0 (fun v _ => v = (.bool r)) := by
 unfold spec_lLevels at hr
 refine ret_start Try.func72 rfl 41 rfl rfl m hv fun a hF hS => q_seq (q_region (q_box (cs := [s1.v]) hF hS rfl rfl rfl fun a w b6 hF hS => q_box (cs := [(.int .i64 p_t.Level), s2.v, s3.v, (.int .i64 p_t.Sum)]) hF hS rfl rfl rfl fun a w b7 hF hS => q_box (cs := [(.int .i64 p_u.Level), s4.v, s5.v, (.int .i64 p_u.Sum)]) hF hS rfl rfl rfl fun a w b8 hF hS => q_x (v := (.bool false)) hF hS (ex_assign rfl) rfl rfl fun a hF => q_end (n_sq (q_seq (q_seq (q_region (q_x (v := (.pointer (some ⟨b7, 0, none⟩))) hF hS (ex_fieldAddr Try.underlying29 rfl sz3 rfl rfl) rfl rfl fun a hF => q_x (v := (.int .i64 p_t.Level)) hF hS (ex_load1 1 0 Try.underlying3 rfl rfl rfl rfl) rfl rfl fun a hF => q_x (v := (.pointer (some ⟨b8, 0, none⟩))) hF hS (ex_fieldAddr Try.underlying29 rfl sz3 rfl rfl) rfl rfl fun a hF => q_x (v := (.int .i64 p_u.Level)) hF hS (ex_load1 0 0 Try.underlying3 rfl rfl rfl rfl) rfl rfl fun a hF => q_x (v := (.bool (decide (p_u.Level ≤ p_t.Level)))) hF hS (ex_ibin rfl rfl rfl) rfl rfl fun a hF => q_end (n_sq ?_))))))))
 rcases bcase (decide (p_u.Level ≤ p_t.Level)) with hc1 | hc1
 ·have hr := cond_f hc1 hr
  refine q_cond_f hF rfl hc1 (q_skipc (n_sq (q_seq (q_seq (q_region (q_x (v := (.agg #[s1.v])) hF hS (ex_loadA (vs := [s1.v]) 2 0 Try.underlying26 rfl sz26 rfl rfl rfl rfl) rfl rfl fun a hF => ?_))))))
  obtain ⟨t_9, ht_9, hr⟩ := bindS hr
  refine q_call (vs := [(.agg #[s1.v])]) hF hS Try.func96 (by kernel_rfl) rfl rfl rfl (c_spec_gLeaves p_g t_9 ht_9 _ m hS.vis s1 h1) ?_
  rintro a w _ ⟨q11, s11, rfl, hR10, h11⟩ hF hS2
  have hS : St _ _ _ _ [q11, [⟨b8, [(.int .i64 p_u.Level), s4.v, s5.v, (.int .i64 p_u.Sum)], 29⟩], [⟨b7, [(.int .i64 p_t.Level), s2.v, s3.v, (.int .i64 p_t.Sum)], 29⟩], [⟨b6, [s1.v], 26⟩]] := hS.joinF hR10
  refine q_x (v := (.int .i64 (goLen t_9))) hF hS (ex_len Try.underlying24 rfl h11.len) rfl rfl fun a hF => q_x (v := (.int .i64 0)) hF hS (ex_move rfl) rfl rfl fun a hF => q_end (n_sq (q_block ?_))
  obtain ⟨o2, hl2, hr⟩ := bindS hr
  refine q_loop (fun (t_12 : Int) a w => Fr a 41 [(3, (.pointer (some ⟨b6, 0, none⟩))), (4, (.pointer (some ⟨b7, 0, none⟩))), (5, (.pointer (some ⟨b8, 0, none⟩))), (20, s11.v), (21, (.int .i64 (goLen t_9))), (22, (.int .i64 t_12))] ∧ St [] w0 w m [q11, [⟨b8, [(.int .i64 p_u.Level), s4.v, s5.v, (.int .i64 p_u.Sum)], 29⟩], [⟨b7, [(.int .i64 p_t.Level), s2.v, s3.v, (.int .i64 p_t.Sum)], 29⟩], [⟨b6, [s1.v], 26⟩]]) (fun (o : (Unit) ⊕ (Bool)) e a w => o = .inl () ∧ e = .exit 0 ∧ Fr a 41 [] ∧ St [] w0 w m []) hl2 ⟨hF.sub ⟨rfl, rfl, rfl, rfl, rfl, rfl, trivial⟩, hS⟩ ?_ ?_
  ·clear hF hS
   rintro t_12 a w st ⟨hF, hS⟩ hb2
   unfold spec_lLevels_l1 at hb2
   refine q_seq (q_region (q_x (v := (.bool (decide (t_12 < (goLen t_9))))) hF hS (ex_ibin rfl rfl rfl) rfl rfl fun a hF => q_end (n_sq (q_seq ?_))))
   rcases bcase (decide (t_12 < (goLen t_9))) with hc3 | hc3
   ·have hb2 := cond_f hc3 hb2
    refine q_cond_f hF rfl hc3 (q_exit (x_sq ?_))
    obtain rfl := someI hb2
    exact ⟨nofun, .inl ⟨rfl, rfl, hF.sub trivial, hS.mask [false, false, false, false]⟩⟩
   ·have hb2 := cond_t hc3 hb2
    refine q_cond_t hF rfl hc3 (q_skipc (n_sq (q_seq (q_block (q_seq (q_region ?_))))))
    obtain ⟨e_13, he_13, hb2⟩ := bindS hb2
    obtain ⟨vs14, at14, d14⟩ := h11.at he_13 1 rfl
    obtain rfl : vs14 = [(.int .i64 e_13)] := d14
    refine q_x (v := (elP s11 (t_12.toNat * 1))) hF hS (ex_indexAddr Try.underlying24 sz3 rfl rfl (h11.idx he_13)) rfl rfl fun a hF => q_x (v := (.int .i64 e_13)) hF hS (ex_loadE1 0 Try.underlying3 rfl rfl (at14.at 0 rfl) rfl rfl) rfl rfl fun a hF => q_x (v := (.int .i64 e_13)) hF hS (ex_assign rfl) rfl rfl fun a hF => q_end (n_sq (q_seq ?_))
    obtain ⟨t_17, hj4, hb2⟩ := bindS hb2
    refine q_join (fun a w => Fr a 41 [(3, (.pointer (some ⟨b6, 0, none⟩))), (4, (.pointer (some ⟨b7, 0, none⟩))), (5, (.pointer (some ⟨b8, 0, none⟩))), (20, s11.v), (21, (.int .i64 (goLen t_9))), (22, (.int .i64 t_12)), (39, (.bool t_17))] ∧ St [] w0 w m [q11, [⟨b8, [(.int .i64 p_u.Level), s4.v, s5.v, (.int .i64 p_u.Sum)], 29⟩], [⟨b7, [(.int .i64 p_t.Level), s2.v, s3.v, (.int .i64 p_t.Sum)], 29⟩], [⟨b6, [s1.v], 26⟩]]) ?_ ?_
    ·refine q_region (q_x (v := (.agg #[s1.v])) hF hS (ex_loadA (vs := [s1.v]) 3 0 Try.underlying26 rfl sz26 rfl rfl rfl rfl) rfl rfl fun a hF => q_x (v := (.int .i64 e_13)) hF hS (ex_move rfl) rfl rfl fun a hF => q_x (v := (.pointer (some ⟨b7, 0, none⟩))) hF hS (ex_fieldAddr Try.underlying29 rfl sz3 rfl rfl) rfl rfl fun a hF => q_x (v := (.int .i64 p_t.Level)) hF hS (ex_load1 2 0 Try.underlying3 rfl rfl rfl rfl) rfl rfl fun a hF => ?_)
     obtain ⟨t_15, ht_15, hj4⟩ := bindS hj4
     refine q_call (vs := [(.agg #[s1.v]), (.int .i64 e_13), (.int .i64 p_t.Level)]) hF hS Try.func97 (by kernel_rfl) rfl rfl rfl (c_spec_gUp p_g e_13 p_t.Level t_15 ht_15 _ m hS.vis s1 h1) ?_
     rintro a w _ rfl hF hS
     refine q_x (v := (.bool (decide (0 ≤ t_15)))) hF hS (ex_ibin rfl rfl rfl) rfl rfl fun a hF => q_x (v := (.bool (decide (0 ≤ t_15)))) hF hS (ex_move rfl) rfl rfl fun a hF => ?_
     rcases bcase (decide (0 ≤ t_15)) with hc5 | hc5
     ·have hj4 := cond_f hc5 hj4
      refine q_skip hF (wanted_f hF rfl rfl rfl hc5 rfl) rfl fun a hF => q_skip hF (wanted_f hF rfl rfl rfl hc5 rfl) rfl fun a hF => q_skip hF (wanted_f hF rfl rfl rfl hc5 rfl) rfl fun a hF => q_skip hF (wanted_f hF rfl rfl rfl hc5 rfl) rfl fun a hF => q_skip hF (wanted_f hF rfl rfl rfl hc5 rfl) rfl fun a hF => q_skip hF (wanted_f hF rfl rfl rfl hc5 rfl) rfl fun a hF => q_x (v := (.bool false)) hF hS (ex_pick_f rfl rfl hc5) rfl rfl fun a hF => q_end (n_jn ?_)
      obtain rfl := someI hj4
      exact ⟨hF.sub ⟨rfl, rfl, rfl, rfl, rfl, rfl, rfl, trivial⟩, hS⟩
     ·have hj4 := cond_t hc5 hj4
      refine q_xg (v := (.agg #[s1.v])) hF hS (ex_loadA (vs := [s1.v]) 3 0 Try.underlying26 rfl sz26 rfl rfl rfl rfl) (wanted_t hF rfl rfl rfl hc5) rfl fun a hF => q_xg (v := (.int .i64 e_13)) hF hS (ex_move rfl) (wanted_t hF rfl rfl rfl hc5) rfl fun a hF => q_xg (v := (.pointer (some ⟨b8, 0, none⟩))) hF hS (ex_fieldAddr Try.underlying29 rfl sz3 rfl rfl) (wanted_t hF rfl rfl rfl hc5) rfl fun a hF => q_xg (v := (.int .i64 p_u.Level)) hF hS (ex_load1 1 0 Try.underlying3 rfl rfl rfl rfl) (wanted_t hF rfl rfl rfl hc5) rfl fun a hF => ?_
      obtain ⟨t_16, ht_16, hj4⟩ := bindS hj4
      refine q_callg (vs := [(.agg #[s1.v]), (.int .i64 e_13), (.int .i64 p_u.Level)]) hF hS (wanted_t hF rfl rfl rfl hc5) Try.func97 (by kernel_rfl) rfl rfl rfl (c_spec_gUp p_g e_13 p_u.Level t_16 ht_16 _ m hS.vis s1 h1) ?_
      rintro a w _ rfl hF hS
      refine q_xg (v := (.bool (decide (t_16 < 0)))) hF hS (ex_ibin rfl rfl rfl) (wanted_t hF rfl rfl rfl hc5) rfl fun a hF => q_x (v := (.bool (decide (t_16 < 0)))) hF hS (ex_pick_t rfl rfl hc5) rfl rfl fun a hF => q_end (n_jn ?_)
      obtain rfl := someI hj4
      exact ⟨hF.sub ⟨rfl, rfl, rfl, rfl, rfl, rfl, rfl, trivial⟩, hS⟩
    ·rintro a w ⟨hF, hS⟩
     refine n_sq ?_
     rcases bcase (t_17) with hc6 | hc6
     ·have hb2 := cond_f hc6 hb2
      refine q_cond_f hF rfl hc6 (q_skipc (n_ib (n_sq (q_region (q_x (v := (.int .i64 (w64 (t_12 + 1)))) hF hS (ex_ibin rfl rfl rfl) rfl rfl fun a hF => q_x (v := (.int .i64 (w64 (t_12 + 1)))) hF hS (ex_move rfl) rfl rfl fun a hF => q_end ?_)))))
      obtain rfl := someI hb2
      exact ⟨rfl, hF.sub ⟨rfl, rfl, rfl, rfl, rfl, rfl, trivial⟩, hS⟩
     ·have hb2 := cond_t hc6 hb2
      refine q_cond_t hF rfl hc6 (q_seq (q_region (q_x (v := (.bool false)) hF hS (ex_assign rfl) rfl rfl fun a hF => q_end (n_sq (q_ret (r_ib (r_sq ?_)))))))
      obtain rfl := someI hb2
      refine ⟨nofun, .inr fun ho => ?_⟩
      subst ho
      refine r_ib (r_sq ?_)
      obtain rfl := someI hr
      exact ret_of hF hS rfl (.tmp rfl .nil) rfl
  ·rintro e a w ⟨rfl, rfl, hF, hS⟩
   refine x_ib (n_sq ?_)
   refine q_seq (q_region (q_x (v := (.bool true)) hF hS (ex_assign rfl) rfl rfl fun a hF => q_end (n_sq (q_ret ?_))))
   obtain rfl := someI hr
   exact ret_of hF hS rfl (.tmp rfl .nil) rfl
 ·have hr := cond_t hc1 hr
  refine q_cond_t hF rfl hc1 (q_seq (q_region (q_x (v := (.pointer (some ⟨b7, 0, none⟩))) hF hS (ex_fieldAddr Try.underlying29 rfl sz3 rfl rfl) rfl rfl fun a hF => q_x (v := (.int .i64 p_t.Level)) hF hS (ex_load1 1 0 Try.underlying3 rfl rfl rfl rfl) rfl rfl fun a hF => q_x (v := (.pointer (some ⟨b8, 0, none⟩))) hF hS (ex_fieldAddr Try.underlying29 rfl sz3 rfl rfl) rfl rfl fun a hF => q_x (v := (.int .i64 p_u.Level)) hF hS (ex_load1 0 0 Try.underlying3 rfl rfl rfl rfl) rfl rfl fun a hF => q_x (v := (.bool (p_t.Level == p_u.Level))) hF hS (ex_ibin rfl rfl rfl) rfl rfl fun a hF => q_x (v := (.bool (p_t.Level == p_u.Level))) hF hS (ex_assign rfl) rfl rfl fun a hF => q_end (n_sq (q_ret (r_sq ?_))))))
  obtain rfl := someI hr
  exact ret_of hF hS rfl (.tmp rfl .nil) rfl

theorem c_spec_l1Has (p_l : List Int) (p_n : Int) (r : Bool) (hr : spec_l1Has p_l p_n = some r) (w0 : World) (m : Mem) (hv : Vis m w0) (s1 : Sl) (h1 : Rd m s1 p_l) :
  Ret Try.prog 73 [s1.v, (.int .i64 p_n)] w0 (fun v _ => v = (.bool r)) := by
 unfold spec_l1Has at hr
 refine ret_start Try.func73 rfl 17 rfl rfl m hv fun a hF hS => q_seq (q_region (q_x (v := (.bool false)) hF hS (ex_assign rfl) rfl rfl fun a hF => q_end (n_sq (q_seq (q_seq (q_region (q_x (v := s1.v) hF hS (ex_move rfl) rfl rfl fun a hF => q_x (v := (.int .i64 (goLen p_l))) hF hS (ex_len Try.underlying24 rfl h1.len) rfl rfl fun a hF => q_x (v := (.int .i64 0)) hF hS (ex_move rfl) rfl rfl fun a hF => q_end (n_sq (q_block ?_)))))))))
 obtain ⟨o1, hl1, hr⟩ := bindS hr
 refine q_loop (fun (t_2 : Int) a w => Fr a 17 [(1, (.int .i64 p_n)), (7, s1.v), (8, (.int .i64 (goLen p_l))), (9, (.int .i64 t_2))] ∧ St [] w0 w m []) (fun (o : (Unit) ⊕ (Bool)) e a w => o = .inl () ∧ e = .exit 0 ∧ Fr a 17 [] ∧ St [] w0 w m []) hl1 ⟨hF.sub ⟨rfl, rfl, rfl, rfl, trivial⟩, hS⟩ ?_ ?_
 ·clear hF hS
  rintro t_2 a w st ⟨hF, hS⟩ hb1
  unfold spec_l1Has_l1 at hb1
  refine q_seq (q_region (q_x (v := (.bool (decide (t_2 < (goLen p_l))))) hF hS (ex_ibin rfl rfl rfl) rfl rfl fun a hF => q_end (n_sq (q_seq ?_))))
  rcases bcase (decide (t_2 < (goLen p_l))) with hc2 | hc2
  ·have hb1 := cond_f hc2 hb1
   refine q_cond_f hF rfl hc2 (q_exit (x_sq ?_))
   obtain rfl := someI hb1
   exact ⟨nofun, .inl ⟨rfl, rfl, hF.sub trivial, hS⟩⟩
  ·have hb1 := cond_t hc2 hb1
   refine q_cond_t hF rfl hc2 (q_skipc (n_sq (q_seq (q_block (q_seq (q_region ?_))))))
   obtain ⟨e_3, he_3, hb1⟩ := bindS hb1
   obtain ⟨vs4, at4, d4⟩ := h1.at he_3 1 rfl
   obtain rfl : vs4 = [(.int .i64 e_3)] := d4
   refine q_x (v := (elP s1 (t_2.toNat * 1))) hF hS (ex_indexAddr Try.underlying24 sz3 rfl rfl (h1.idx he_3)) rfl rfl fun a hF => q_x (v := (.int .i64 e_3)) hF hS (ex_loadE1 0 Try.underlying3 rfl rfl ((at4).at) rfl rfl) rfl rfl fun a hF => q_x (v := (.int .i64 e_3)) hF hS (ex_assign rfl) rfl rfl fun a hF => q_end (n_sq (q_seq (q_region (q_x (v := (.int .i64 e_3)) hF hS (ex_move rfl) rfl rfl fun a hF => q_x (v := (.int .i64 p_n)) hF hS (ex_move rfl) rfl rfl fun a hF => q_x (v := (.bool (e_3 == p_n))) hF hS (ex_ibin rfl rfl rfl) rfl rfl fun a hF => q_end (n_sq ?_)))))
   rcases bcase (e_3 == p_n) with hc3 | hc3
   ·have hb1 := cond_f hc3 hb1
    refine q_cond_f hF rfl hc3 (q_skipc (n_ib (n_sq (q_region (q_x (v := (.int .i64 (w64 (t_2 + 1)))) hF hS (ex_ibin rfl rfl rfl) rfl rfl fun a hF => q_x (v := (.int .i64 (w64 (t_2 + 1)))) hF hS (ex_move rfl) rfl rfl fun a hF => q_end ?_)))))
    obtain rfl := someI hb1
    exact ⟨rfl, hF.sub ⟨rfl, rfl, rfl, rfl, trivial⟩, hS⟩
   ·have hb1 := cond_t hc3 hb1
    refine q_cond_t hF rfl hc3 (q_seq (q_region (q_x (v := (.bool true)) hF hS (ex_assign rfl) rfl rfl fun a hF => q_end (n_sq (q_ret (r_ib (r_sq ?_)))))))
    obtain rfl := someI hb1
    refine ⟨nofun, .inr fun ho => ?_⟩
    subst ho
    refine r_ib (r_sq ?_)
    obtain rfl := someI hr
    exact ret_of hF hS rfl (.tmp rfl .nil) rfl
 ·rintro e a w ⟨rfl, rfl, hF, hS⟩
  refine x_ib (n_sq ?_)
  refine q_seq (q_region (q_x (v := (.bool false)) hF hS (ex_assign rfl) rfl rfl fun a hF => q_end (n_sq (q_ret ?_))))
  obtain rfl := someI hr
  exact ret_of hF hS rfl (.tmp rfl .nil) rfl

theorem c_spec_lFollows (p_g : impl_Geo) (p_s : List impl_Variable) (p_t : impl_Table) (p_u : impl_Table) (r : Bool) (hr : spec_lFollows p_g p_s p_t p_u = some r) (w0 : World) (m : Mem) (hv : Vis m w0) (s1 : Sl) (h1 : Rd m s1 p_g.Parents) (s2 : Sl) (h2 : Rd m s2 p_s) (s3 : Sl) (h3 : Rd m s3 p_t.Vars) (s4 : Sl) (h4 : Rd m s4 p_t.Where) (s5 : Sl) (h5 : Rd m s5 p_u.Vars) (s6 : Sl) (h6 : Rd m s6 p_u.Where) :
  Ret Try.prog 37 [(.agg #[s1.v]), s2.v, (.agg #[(.int .i64 p_t.Level), s3.v, s4.v, (.int .i64 p_t.Sum)]), (.agg #[(.int .i64 p_u.Level), s5.v, s6.v, (.int .i64 p_u.Sum)])] w0 (fun v _ => v = (.bool r)) := by
 unfold spec_lFollows at hr
 refine ret_start Try.func37 rfl 83 rfl rfl m hv fun a hF hS => q_seq (q_region (q_box (cs := [s1.v]) hF hS rfl rfl rfl fun a w b7 hF hS => q_box (cs := [(.int .i64 p_t.Level), s3.v, s4.v, (.int .i64 p_t.Sum)]) hF hS rfl rfl rfl fun a w b8 hF hS => q_box (cs := [(.int .i64 p_u.Level), s5.v, s6.v, (.int .i64 p_u.Sum)]) hF hS rfl rfl rfl fun a w b9 hF hS => q_x (v := (.bool false)) hF hS (ex_assign rfl) rfl rfl fun a hF => q_end (n_sq (q_seq (q_seq ?_)))))
 obtain ⟨t_12, hj1, hr⟩ := bindS hr
 refine q_join (fun a w => Fr a 83 [(1, s2.v), (6, (.pointer (some ⟨b8, 0, none⟩))), (7, (.pointer (some ⟨b9, 0, none⟩))), (38, (.bool t_12))] ∧ St [] w0 w m [[⟨b9, [(.int .i64 p_u.Level), s5.v, s6.v, (.int .i64 p_u.Sum)], 29⟩], [⟨b8, [(.int .i64 p_t.Level), s3.v, s4.v, (.int .i64 p_t.Sum)], 29⟩]]) ?_ ?_
 ·refine q_region (q_x (v := (.agg #[s1.v])) hF hS (ex_loadA (vs := [s1.v]) 2 0 Try.underlying26 rfl sz26 rfl rfl rfl rfl) rfl rfl fun a hF => q_x (v := (.agg #[(.int .i64 p_t.Level), s3.v, s4.v, (.int .i64 p_t.Sum)])) hF hS (ex_loadA (vs := [(.int .i64 p_t.Level), s3.v, s4.v, (.int .i64 p_t.Sum)]) 1 0 Try.underlying29 rfl sz29 rfl rfl rfl rfl) rfl rfl fun a hF => q_x (v := (.agg #[(.int .i64 p_u.Level), s5.v, s6.v, (.int .i64 p_u.Sum)])) hF hS (ex_loadA (vs := [(.int .i64 p_u.Level), s5.v, s6.v, (.int .i64 p_u.Sum)]) 0 0 Try.underlying29 rfl sz29 rfl rfl rfl rfl) rfl rfl fun a hF => ?_)
  obtain ⟨t_10, ht_10, hj1⟩ := bindS hj1
  refine q_call (vs := [(.agg #[s1.v]), (.agg #[(.int .i64 p_t.Level), s3.v, s4.v, (.int .i64 p_t.Sum)]), (.agg #[(.int .i64 p_u.Level), s5.v, s6.v, (.int .i64 p_u.Sum)])]) hF hS Try.func72 (by kernel_rfl) rfl rfl rfl (c_spec_lLevels p_g p_t p_u t_10 ht_10 _ m hS.vis s1 h1 s3 h3 s4 h4 s5 h5 s6 h6) ?_
  rintro a w _ rfl hF hS
  refine q_x (v := (.bool (!t_10))) hF hS (ex_not rfl) rfl rfl fun a hF => q_x (v := (.bool (!t_10))) hF hS (ex_move rfl) rfl rfl fun a hF => ?_
  rcases bcase (!t_10) with hc2 | hc2
  ·have hj1 := cond_f hc2 hj1
   refine q_xg (v := (.pointer (some ⟨b8, 3, none⟩))) hF hS (ex_fieldAddr Try.underlying29 rfl sz3 rfl rfl) (wanted_t hF rfl rfl rfl hc2) rfl fun a hF => q_xg (v := (.int .i64 p_t.Sum)) hF hS (ex_load1 1 0 Try.underlying3 rfl rfl rfl rfl) (wanted_t hF rfl rfl rfl hc2) rfl fun a hF => q_xg (v := (.pointer (some ⟨b9, 3, none⟩))) hF hS (ex_fieldAddr Try.underlying29 rfl sz3 rfl rfl) (wanted_t hF rfl rfl rfl hc2) rfl fun a hF => q_xg (v := (.int .i64 p_u.Sum)) hF hS (ex_load1 0 0 Try.underlying3 rfl rfl rfl rfl) (wanted_t hF rfl rfl rfl hc2) rfl fun a hF => q_xg (v := (.bool (p_t.Sum != p_u.Sum))) hF hS (ex_ibin rfl rfl rfl) (wanted_t hF rfl rfl rfl hc2) rfl fun a hF => q_xg (v := (.bool (p_t.Sum != p_u.Sum))) hF hS (ex_move rfl) (wanted_t hF rfl rfl rfl hc2) rfl fun a hF => ?_
   rcases bcase (p_t.Sum != p_u.Sum) with hc3 | hc3
   ·have hj1 := cond_f hc3 hj1
    refine q_skip hF (wanted_f hF rfl rfl rfl hc3 rfl) rfl fun a hF => q_skip hF (wanted_f hF rfl rfl rfl hc3 rfl) rfl fun a hF => q_skip hF (wanted_f hF rfl rfl rfl hc3 rfl) rfl fun a hF => q_skip hF (wanted_f hF rfl rfl rfl hc3 rfl) rfl fun a hF => q_skip hF (wanted_u hF rfl rfl rfl) rfl fun a hF => q_skip hF (wanted_u hF rfl rfl rfl) rfl fun a hF => q_skip hF (wanted_u hF rfl rfl rfl) rfl fun a hF => q_skip hF (wanted_u hF rfl rfl rfl) rfl fun a hF => q_skip hF (wanted_u hF rfl rfl rfl) rfl fun a hF => q_skip hF (wanted_u hF rfl rfl rfl) rfl fun a hF => q_skip hF (wanted_f hF rfl rfl rfl hc3 rfl) rfl fun a hF => q_xg (v := (.bool false)) hF hS (ex_pick_f rfl rfl hc3) (wanted_t hF rfl rfl rfl hc2) rfl fun a hF => q_x (v := (.bool false)) hF hS (ex_pick_f rfl rfl hc2) rfl rfl fun a hF => q_end (n_jn ?_)
    obtain rfl := someI hj1
    exact ⟨hF.sub ⟨rfl, rfl, rfl, rfl, trivial⟩, hS.mask [true, true, false]⟩
   ·have hj1 := cond_t hc3 hj1
    refine q_xg (v := (.pointer (some ⟨b9, 3, none⟩))) hF hS (ex_fieldAddr Try.underlying29 rfl sz3 rfl rfl) (wanted_t hF rfl rfl rfl hc3) rfl fun a hF => q_xg (v := (.int .i64 p_u.Sum)) hF hS (ex_load1 0 0 Try.underlying3 rfl rfl rfl rfl) (wanted_t hF rfl rfl rfl hc3) rfl fun a hF => q_xg (v := (.bool (p_u.Sum != (-1)))) hF hS (ex_ibin rfl rfl rfl) (wanted_t hF rfl rfl rfl hc3) rfl fun a hF => q_xg (v := (.bool (p_u.Sum != (-1)))) hF hS (ex_move rfl) (wanted_t hF rfl rfl rfl hc3) rfl fun a hF => ?_
    rcases bcase (p_u.Sum != (-1)) with hc4 | hc4
    ·have hj1 := cond_f hc4 hj1
     refine q_xg (v := (.pointer (some ⟨b9, 1, none⟩))) hF hS (ex_fieldAddr Try.underlying29 rfl sz24 rfl rfl) (wanted_t hF rfl rfl rfl hc4) rfl fun a hF => q_xg (v := s5.v) hF hS (ex_load1 0 0 Try.underlying24 rfl rfl rfl rfl) (wanted_t hF rfl rfl rfl hc4) rfl fun a hF => q_xg (v := (.pointer (some ⟨b8, 3, none⟩))) hF hS (ex_fieldAddr Try.underlying29 rfl sz3 rfl rfl) (wanted_t hF rfl rfl rfl hc4) rfl fun a hF => q_xg (v := (.int .i64 p_t.Sum)) hF hS (ex_load1 1 0 Try.underlying3 rfl rfl rfl rfl) (wanted_t hF rfl rfl rfl hc4) rfl fun a hF => ?_
     obtain ⟨t_11, ht_11, hj1⟩ := bindS hj1
     refine q_callg (vs := [s5.v, (.int .i64 p_t.Sum)]) hF hS (wanted_t hF rfl rfl rfl hc4) Try.func73 (by kernel_rfl) rfl rfl rfl (c_spec_l1Has p_u.Vars p_t.Sum t_11 ht_11 _ m hS.vis s5 h5) ?_
     rintro a w _ rfl hF hS
     refine q_xg (v := (.bool (!t_11))) hF hS (ex_not rfl) (wanted_t hF rfl rfl rfl hc4) rfl fun a hF => q_xg (v := (.bool (!t_11))) hF hS (ex_pick_f rfl rfl hc4) (wanted_t hF rfl rfl rfl hc3) rfl fun a hF => q_xg (v := (.bool (!t_11))) hF hS (ex_pick_t rfl rfl hc3) (wanted_t hF rfl rfl rfl hc2) rfl fun a hF => q_x (v := (.bool (!t_11))) hF hS (ex_pick_f rfl rfl hc2) rfl rfl fun a hF => q_end (n_jn ?_)
     obtain rfl := someI hj1
     exact ⟨hF.sub ⟨rfl, rfl, rfl, rfl, trivial⟩, hS.mask [true, true, false]⟩
    ·have hj1 := cond_t hc4 hj1
     refine q_skip hF (wanted_f hF rfl rfl rfl hc4 rfl) rfl fun a hF => q_skip hF (wanted_f hF rfl rfl rfl hc4 rfl) rfl fun a hF => q_skip hF (wanted_f hF rfl rfl rfl hc4 rfl) rfl fun a hF => q_skip hF (wanted_f hF rfl rfl rfl hc4 rfl) rfl fun a hF => q_skip hF (wanted_f hF rfl rfl rfl hc4 rfl) rfl fun a hF => q_skip hF (wanted_f hF rfl rfl rfl hc4 rfl) rfl fun a hF => q_xg (v := (.bool true)) hF hS (ex_pick_t rfl rfl hc4) (wanted_t hF rfl rfl rfl hc3) rfl fun a hF => q_xg (v := (.bool true)) hF hS (ex_pick_t rfl rfl hc3) (wanted_t hF rfl rfl rfl hc2) rfl fun a hF => q_x (v := (.bool true)) hF hS (ex_pick_f rfl rfl hc2) rfl rfl fun a hF => q_end (n_jn ?_)
     obtain rfl := someI hj1
     exact ⟨hF.sub ⟨rfl, rfl, rfl, rfl, trivial⟩, hS.mask [true, true, false]⟩
  ·have hj1 := cond_t hc2 hj1
   refine q_skip hF (wanted_f hF rfl rfl rfl hc2 rfl) rfl fun a hF => q_skip hF (wanted_f hF rfl rfl rfl hc2 rfl) rfl fun a hF => q_skip hF (wanted_f hF rfl rfl rfl hc2 rfl) rfl fun a hF => q_skip hF (wanted_f hF rfl rfl rfl hc2 rfl) rfl fun a hF => q_skip hF (wanted_f hF rfl rfl rfl hc2 rfl) rfl fun a hF => q_skip hF (wanted_f hF rfl rfl rfl hc2 rfl) rfl fun a hF => q_skip hF (wanted_u hF rfl rfl rfl) rfl fun a hF => q_skip hF (wanted_u hF rfl rfl rfl) rfl fun a hF => q_skip hF (wanted_u hF rfl rfl rfl) rfl fun a hF => q_skip hF (wanted_u hF rfl rfl rfl) rfl fun a hF => q_skip hF (wanted_u hF rfl rfl rfl) rfl fun a hF => q_skip hF (wanted_u hF rfl rfl rfl) rfl fun a hF => q_skip hF (wanted_u hF rfl rfl rfl) rfl fun a hF => q_skip hF (wanted_u hF rfl rfl rfl) rfl fun a hF => q_skip hF (wanted_u hF rfl rfl rfl) rfl fun a hF => q_skip hF (wanted_u hF rfl rfl rfl) rfl fun a hF => q_skip hF (wanted_u hF rfl rfl rfl) rfl fun a hF => q_skip hF (wanted_f hF rfl rfl rfl hc2 rfl) rfl fun a hF => q_x (v := (.bool true)) hF hS (ex_pick_t rfl rfl hc2) rfl rfl fun a hF => q_end (n_jn ?_)
   obtain rfl := someI hj1
   exact ⟨hF.sub ⟨rfl, rfl, rfl, rfl, trivial⟩, hS.mask [true, true, false]⟩
 ·rintro a w ⟨hF, hS⟩
  refine n_sq ?_
  rcases bcase (t_12) with hc5 | hc5
  ·have hr := cond_f hc5 hr
   refine q_cond_f hF rfl hc5 (q_skipc (n_sq (q_seq (q_seq (q_region (q_x (v := (.pointer (some ⟨b8, 1, none⟩))) hF hS (ex_fieldAddr Try.underlying29 rfl sz24 rfl rfl) rfl rfl fun a hF => q_x (v := s3.v) hF hS (ex_load1 1 0 Try.underlying24 rfl rfl rfl rfl) rfl rfl fun a hF => q_x (v := (.int .i64 (goLen p_t.Vars))) hF hS (ex_len Try.underlying24 rfl h3.len) rfl rfl fun a hF => q_x (v := (.int .i64 0)) hF hS (ex_move rfl) rfl rfl fun a hF => q_end (n_sq (q_block ?_))))))))
   obtain ⟨o6, hl6, hr⟩ := bindS hr
   refine q_loop (fun (t_13 : Int) a w => Fr a 83 [(1, s2.v), (6, (.pointer (some ⟨b8, 0, none⟩))), (7, (.pointer (some ⟨b9, 0, none⟩))), (40, s3.v), (41, (.int .i64 (goLen p_t.Vars))), (42, (.int .i64 t_13))] ∧ St [] w0 w m [[⟨b9, [(.int .i64 p_u.Level), s5.v, s6.v, (.int .i64 p_u.Sum)], 29⟩], [⟨b8, [(.int .i64 p_t.Level), s3.v, s4.v, (.int .i64 p_t.Sum)], 29⟩]]) (fun (o : (Unit) ⊕ (Bool)) e a w => o = .inl () ∧ e = .exit 0 ∧ Fr a 83 [(1, s2.v), (6, (.pointer (some ⟨b8, 0, none⟩))), (7, (.pointer (some ⟨b9, 0, none⟩)))] ∧ St [] w0 w m [[⟨b9, [(.int .i64 p_u.Level), s5.v, s6.v, (.int .i64 p_u.Sum)], 29⟩], [⟨b8, [(.int .i64 p_t.Level), s3.v, s4.v, (.int .i64 p_t.Sum)], 29⟩]]) hl6 ⟨hF.sub ⟨rfl, rfl, rfl, rfl, rfl, rfl, trivial⟩, hS⟩ ?_ ?_
   ·clear hF hS
    rintro t_13 a w st ⟨hF, hS⟩ hb6
    unfold spec_lFollows_l1 at hb6
    refine q_seq (q_region (q_x (v := (.bool (decide (t_13 < (goLen p_t.Vars))))) hF hS (ex_ibin rfl rfl rfl) rfl rfl fun a hF => q_end (n_sq (q_seq ?_))))
    rcases bcase (decide (t_13 < (goLen p_t.Vars))) with hc7 | hc7
    ·have hb6 := cond_f hc7 hb6
     refine q_cond_f hF rfl hc7 (q_exit (x_sq ?_))
     obtain rfl := someI hb6
     exact ⟨nofun, .inl ⟨rfl, rfl, hF.sub ⟨rfl, rfl, rfl, trivial⟩, hS⟩⟩
    ·have hb6 := cond_t hc7 hb6
     refine q_cond_t hF rfl hc7 (q_skipc (n_sq (q_seq (q_block (q_seq (q_region ?_))))))
     obtain ⟨e_14, he_14, hb6⟩ := bindS hb6
     obtain ⟨vs15, at15, d15⟩ := h3.at he_14 1 rfl
     obtain rfl : vs15 = [(.int .i64 e_14)] := d15
     refine q_x (v := (elP s3 (t_13.toNat * 1))) hF hS (ex_indexAddr Try.underlying24 sz3 rfl rfl (h3.idx he_14)) rfl rfl fun a hF => q_x (v := (.int .i64 e_14)) hF hS (ex_loadE1 0 Try.underlying3 rfl rfl ((at15).at) rfl rfl) rfl rfl fun a hF => q_x (v := (.int .i64 e_14)) hF hS (ex_assign rfl) rfl rfl fun a hF => q_end (n_sq (q_seq (q_region (q_x (v := (.pointer (some ⟨b9, 1, none⟩))) hF hS (ex_fieldAddr Try.underlying29 rfl sz24 rfl rfl) rfl rfl fun a hF => q_x (v := s5.v) hF hS (ex_load1 0 0 Try.underlying24 rfl rfl rfl rfl) rfl rfl fun a hF => q_x (v := (.int .i64 e_14)) hF hS (ex_move rfl) rfl rfl fun a hF => ?_))))
     obtain ⟨t_16, ht_16, hb6⟩ := bindS hb6
     refine q_call (vs := [s5.v, (.int .i64 e_14)]) hF hS Try.func73 (by kernel_rfl) rfl rfl rfl (c_spec_l1Has p_u.Vars e_14 t_16 ht_16 _ m hS.vis s5 h5) ?_
     rintro a w _ rfl hF hS
     refine q_x (v := (.bool (!t_16))) hF hS (ex_not rfl) rfl rfl fun a hF => q_end (n_sq ?_)
     rcases bcase (!t_16) with hc8 | hc8
     ·have hb6 := cond_f hc8 hb6
      refine q_cond_f hF rfl hc8 (q_skipc (n_ib (n_sq (q_region (q_x (v := (.int .i64 (w64 (t_13 + 1)))) hF hS (ex_ibin rfl rfl rfl) rfl rfl fun a hF => q_x (v := (.int .i64 (w64 (t_13 + 1)))) hF hS (ex_move rfl) rfl rfl fun a hF => q_end ?_)))))
      obtain rfl := someI hb6
      exact ⟨rfl, hF.sub ⟨rfl, rfl, rfl, rfl, rfl, rfl, trivial⟩, hS⟩
     ·have hb6 := cond_t hc8 hb6
      refine q_cond_t hF rfl hc8 (q_seq (q_region (q_x (v := (.bool false)) hF hS (ex_assign rfl) rfl rfl fun a hF => q_end (n_sq (q_ret (r_ib (r_sq ?_)))))))
      obtain rfl := someI hb6
      refine ⟨nofun, .inr fun ho => ?_⟩
      subst ho
      refine r_ib (r_sq ?_)
      obtain rfl := someI hr
      exact ret_of hF hS rfl (.tmp rfl .nil) rfl
   ·rintro e a w ⟨rfl, rfl, hF, hS⟩
    refine x_ib (n_sq ?_)
    refine q_seq (q_seq (q_region (q_x (v := s2.v) hF hS (ex_move rfl) rfl rfl fun a hF => q_x (v := (.int .i64 (goLen p_s))) hF hS (ex_len Try.underlying27 rfl h2.len) rfl rfl fun a hF => q_x (v := (.int .i64 0)) hF hS (ex_move rfl) rfl rfl fun a hF => q_end (n_sq (q_block ?_)))))
    obtain ⟨o9, hl9, hr⟩ := bindS hr
    refine q_loop (fun (t_17 : Int) a w => Fr a 83 [(1, s2.v), (6, (.pointer (some ⟨b8, 0, none⟩))), (7, (.pointer (some ⟨b9, 0, none⟩))), (53, (.int .i64 (goLen p_s))), (54, (.int .i64 t_17))] ∧ St [] w0 w m [[⟨b9, [(.int .i64 p_u.Level), s5.v, s6.v, (.int .i64 p_u.Sum)], 29⟩], [⟨b8, [(.int .i64 p_t.Level), s3.v, s4.v, (.int .i64 p_t.Sum)], 29⟩]]) (fun (o : (Unit) ⊕ (Bool)) e a w => o = .inl () ∧ e = .exit 2 ∧ Fr a 83 [] ∧ St [] w0 w m []) hl9 ⟨hF.sub ⟨rfl, rfl, rfl, rfl, rfl, trivial⟩, hS⟩ ?_ ?_
    ·clear hF hS
     rintro t_17 a w st ⟨hF, hS⟩ hb9
     unfold spec_lFollows_l2 at hb9
     refine q_seq (q_region (q_x (v := (.bool (decide (t_17 < (goLen p_s))))) hF hS (ex_ibin rfl rfl rfl) rfl rfl fun a hF => q_end (n_sq (q_seq ?_))))
     rcases bcase (decide (t_17 < (goLen p_s))) with hc10 | hc10
     ·have hb9 := cond_f hc10 hb9
      refine q_cond_f hF rfl hc10 (q_exit (x_sq ?_))
      obtain rfl := someI hb9
      exact ⟨nofun, .inl ⟨rfl, rfl, hF.sub trivial, hS.mask [false, false]⟩⟩
     ·have hb9 := cond_t hc10 hb9
      refine q_cond_t hF rfl hc10 (q_skipc (n_sq (q_seq (q_block (q_seq (q_region (q_x (v := (.int .i64 t_17)) hF hS (ex_move rfl) rfl rfl fun a hF => q_x (v := (.int .i64 t_17)) hF hS (ex_assign rfl) rfl rfl fun a hF => q_end (n_sq (q_seq (e_region ⟨[], []⟩ mixed fun w' hw' => ?_))))))))))
      have hS := hS.below hw'
      refine e_p (v := s2.v) 0 hF rfl (ex_move rfl) rfl rfl (by kernel_rfl) (by kernel_rfl) (by kernel_rfl) fun a hF => e_x (v := (.agg #[(.int .i64 p_t.Level), s3.v, s4.v, (.int .i64 p_t.Sum)])) 1 hF hS rfl (ex_loadA (vs := [(.int .i64 p_t.Level), s3.v, s4.v, (.int .i64 p_t.Sum)]) 1 0 Try.underlying29 rfl sz29 rfl rfl rfl rfl) rfl rfl (by kernel_rfl) (by kernel_rfl) (by kernel_rfl) (by kernel_rfl) fun a hF => e_p (v := (.int .i64 t_17)) 2 hF rfl (ex_move rfl) rfl rfl (by kernel_rfl) (by kernel_rfl) (by kernel_rfl) fun a hF => e_p (v := s2.v) 4 hF rfl (ex_move rfl) rfl rfl (by kernel_rfl) (by kernel_rfl) (by kernel_rfl) fun a hF => e_x (v := (.agg #[(.int .i64 p_u.Level), s5.v, s6.v, (.int .i64 p_u.Sum)])) 5 hF hS rfl (ex_loadA (vs := [(.int .i64 p_u.Level), s5.v, s6.v, (.int .i64 p_u.Sum)]) 0 0 Try.underlying29 rfl sz29 rfl rfl rfl rfl) rfl rfl (by kernel_rfl) (by kernel_rfl) (by kernel_rfl) (by kernel_rfl) fun a hF => e_p (v := (.int .i64 t_17)) 6 hF rfl (ex_move rfl) rfl rfl (by kernel_rfl) (by kernel_rfl) (by kernel_rfl) fun a hF => e_one 3 (by kernel_rfl) ?_
      obtain ⟨t_21, ht_21, hb9⟩ := bindS hb9
      refine e_call (vs := [s2.v, (.agg #[(.int .i64 p_t.Level), s3.v, s4.v, (.int .i64 p_t.Sum)]), (.int .i64 t_17)]) hF hS rfl Try.func70 (by kernel_rfl) rfl rfl rfl (c_spec_lSet p_s p_t t_17 t_21 ht_21 _ m hS.vis s2 h2 s3 h3 s4 h4) ?_
      rintro a w _ rfl hF hS
      refine e_one 7 (by kernel_rfl) ?_
      obtain ⟨t_22, ht_22, hb9⟩ := bindS hb9
      refine e_call (vs := [s2.v, (.agg #[(.int .i64 p_u.Level), s5.v, s6.v, (.int .i64 p_u.Sum)]), (.int .i64 t_17)]) hF hS rfl Try.func70 (by kernel_rfl) rfl rfl rfl (c_spec_lSet p_s p_u t_17 t_22 ht_22 _ m hS.vis s2 h2 s5 h5 s6 h6) ?_
      rintro a w _ rfl hF hS
      refine e_p (v := (.int .i64 t_21)) 8 hF rfl (ex_assign rfl) rfl rfl (by kernel_rfl) (by kernel_rfl) (by kernel_rfl) fun a hF => e_p (v := (.int .i64 t_22)) 9 hF rfl (ex_assign rfl) rfl rfl (by kernel_rfl) (by kernel_rfl) (by kernel_rfl) fun a hF => e_end (by kernel_rfl) (n_sq ?_) _
      refine q_seq ?_
      obtain ⟨t_24, hj11, hb9⟩ := bindS hb9
      refine q_join (fun a w => Fr a 83 [(1, s2.v), (6, (.pointer (some ⟨b8, 0, none⟩))), (7, (.pointer (some ⟨b9, 0, none⟩))), (53, (.int .i64 (goLen p_s))), (54, (.int .i64 t_17)), (81, (.bool t_24))] ∧ St [] w0 w m [[⟨b9, [(.int .i64 p_u.Level), s5.v, s6.v, (.int .i64 p_u.Sum)], 29⟩], [⟨b8, [(.int .i64 p_t.Level), s3.v, s4.v, (.int .i64 p_t.Sum)], 29⟩]]) ?_ ?_
      ·refine q_region (q_x (v := (.int .i64 t_21)) hF hS (ex_move rfl) rfl rfl fun a hF => q_x (v := (.int .i64 t_22)) hF hS (ex_move rfl) rfl rfl fun a hF => q_x (v := (.bool (t_21 != t_22))) hF hS (ex_ibin rfl rfl rfl) rfl rfl fun a hF => q_x (v := (.bool (t_21 != t_22))) hF hS (ex_move rfl) rfl rfl fun a hF => ?_)
       rcases bcase (t_21 != t_22) with hc12 | hc12
       ·have hj11 := cond_f hc12 hj11
        refine q_skip hF (wanted_f hF rfl rfl rfl hc12 rfl) rfl fun a hF => q_skip hF (wanted_f hF rfl rfl rfl hc12 rfl) rfl fun a hF => q_skip hF (wanted_f hF rfl rfl rfl hc12 rfl) rfl fun a hF => q_skip hF (wanted_f hF rfl rfl rfl hc12 rfl) rfl fun a hF => q_skip hF (wanted_f hF rfl rfl rfl hc12 rfl) rfl fun a hF => q_skip hF (wanted_f hF rfl rfl rfl hc12 rfl) rfl fun a hF => q_skip hF (wanted_u hF rfl rfl rfl) rfl fun a hF => q_skip hF (wanted_u hF rfl rfl rfl) rfl fun a hF => q_skip hF (wanted_u hF rfl rfl rfl) rfl fun a hF => q_skip hF (wanted_u hF rfl rfl rfl) rfl fun a hF => q_skip hF (wanted_u hF rfl rfl rfl) rfl fun a hF => q_skip hF (wanted_f hF rfl rfl rfl hc12 rfl) rfl fun a hF => q_x (v := (.bool false)) hF hS (ex_pick_f rfl rfl hc12) rfl rfl fun a hF => q_end (n_jn ?_)
        obtain rfl := someI hj11
        exact ⟨hF.sub ⟨rfl, rfl, rfl, rfl, rfl, rfl, trivial⟩, hS⟩
       ·have hj11 := cond_t hc12 hj11
        refine q_xg (v := (.pointer (some ⟨b9, 1, none⟩))) hF hS (ex_fieldAddr Try.underlying29 rfl sz24 rfl rfl) (wanted_t hF rfl rfl rfl hc12) rfl fun a hF => q_xg (v := s5.v) hF hS (ex_load1 0 0 Try.underlying24 rfl rfl rfl rfl) (wanted_t hF rfl rfl rfl hc12) rfl fun a hF => q_xg (v := (.int .i64 t_17)) hF hS (ex_move rfl) (wanted_t hF rfl rfl rfl hc12) rfl fun a hF => ?_
        obtain ⟨t_23, ht_23, hj11⟩ := bindS hj11
        refine q_callg (vs := [s5.v, (.int .i64 t_17)]) hF hS (wanted_t hF rfl rfl rfl hc12) Try.func73 (by kernel_rfl) rfl rfl rfl (c_spec_l1Has p_u.Vars t_17 t_23 ht_23 _ m hS.vis s5 h5) ?_
        rintro a w _ rfl hF hS
        refine q_xg (v := (.bool (!t_23))) hF hS (ex_not rfl) (wanted_t hF rfl rfl rfl hc12) rfl fun a hF => q_xg (v := (.bool (!t_23))) hF hS (ex_move rfl) (wanted_t hF rfl rfl rfl hc12) rfl fun a hF => ?_
        rcases bcase (!t_23) with hc13 | hc13
        ·have hj11 := cond_f hc13 hj11
         refine q_xg (v := (.int .i64 t_21)) hF hS (ex_move rfl) (wanted_t hF rfl rfl rfl hc13) rfl fun a hF => q_xg (v := (.int .i64 t_22)) hF hS (ex_move rfl) (wanted_t hF rfl rfl rfl hc13) rfl fun a hF => q_xg (v := (.int .i64 (goBits .and .i64 t_21 t_22))) hF hS (ex_bits rfl rfl rfl) (wanted_t hF rfl rfl rfl hc13) rfl fun a hF => q_xg (v := (.int .i64 t_21)) hF hS (ex_move rfl) (wanted_t hF rfl rfl rfl hc13) rfl fun a hF => q_xg (v := (.bool ((goBits .and .i64 t_21 t_22) != t_21))) hF hS (ex_ibin rfl rfl rfl) (wanted_t hF rfl rfl rfl hc13) rfl fun a hF => q_xg (v := (.bool ((goBits .and .i64 t_21 t_22) != t_21))) hF hS (ex_pick_f rfl rfl hc13) (wanted_t hF rfl rfl rfl hc12) rfl fun a hF => q_x (v := (.bool ((goBits .and .i64 t_21 t_22) != t_21))) hF hS (ex_pick_t rfl rfl hc12) rfl rfl fun a hF => q_end (n_jn ?_)
         obtain rfl := someI hj11
         exact ⟨hF.sub ⟨rfl, rfl, rfl, rfl, rfl, rfl, trivial⟩, hS⟩
        ·have hj11 := cond_t hc13 hj11
         refine q_skip hF (wanted_f hF rfl rfl rfl hc13 rfl) rfl fun a hF => q_skip hF (wanted_f hF rfl rfl rfl hc13 rfl) rfl fun a hF => q_skip hF (wanted_f hF rfl rfl rfl hc13 rfl) rfl fun a hF => q_skip hF (wanted_f hF rfl rfl rfl hc13 rfl) rfl fun a hF => q_skip hF (wanted_f hF rfl rfl rfl hc13 rfl) rfl fun a hF => q_xg (v := (.bool true)) hF hS (ex_pick_t rfl rfl hc13) (wanted_t hF rfl rfl rfl hc12) rfl fun a hF => q_x (v := (.bool true)) hF hS (ex_pick_t rfl rfl hc12) rfl rfl fun a hF => q_end (n_jn ?_)
         obtain rfl := someI hj11
         exact ⟨hF.sub ⟨rfl, rfl, rfl, rfl, rfl, rfl, trivial⟩, hS⟩
      ·rintro a w ⟨hF, hS⟩
       refine n_sq ?_
       rcases bcase (t_24) with hc14 | hc14
       ·have hb9 := cond_f hc14 hb9
        refine q_cond_f hF rfl hc14 (q_skipc (n_ib (n_sq (q_region (q_x (v := (.int .i64 (w64 (t_17 + 1)))) hF hS (ex_ibin rfl rfl rfl) rfl rfl fun a hF => q_x (v := (.int .i64 (w64 (t_17 + 1)))) hF hS (ex_move rfl) rfl rfl fun a hF => q_end ?_)))))
        obtain rfl := someI hb9
        exact ⟨rfl, hF.sub ⟨rfl, rfl, rfl, rfl, rfl, trivial⟩, hS⟩
       ·have hb9 := cond_t hc14 hb9
        refine q_cond_t hF rfl hc14 (q_seq (q_region (q_x (v := (.bool false)) hF hS (ex_assign rfl) rfl rfl fun a hF => q_end (n_sq (q_ret (r_ib (r_sq ?_)))))))
        obtain rfl := someI hb9
        refine ⟨nofun, .inr fun ho => ?_⟩
        subst ho
        refine r_ib (r_sq ?_)
        obtain rfl := someI hr
        exact ret_of hF hS rfl (.tmp rfl .nil) rfl
    ·rintro e a w ⟨rfl, rfl, hF, hS⟩
     refine x_ib (n_sq ?_)
     refine q_seq (q_region (q_x (v := (.bool true)) hF hS (ex_assign rfl) rfl rfl fun a hF => q_end (n_sq (q_ret ?_))))
     obtain rfl := someI hr
     exact ret_of hF hS rfl (.tmp rfl .nil) rfl
  ·have hr := cond_t hc5 hr
   refine q_cond_t hF rfl hc5 (q_seq (q_region (q_x (v := (.bool false)) hF hS (ex_assign rfl) rfl rfl fun a hF => q_end (n_sq (q_ret (r_sq ?_))))))
   obtain rfl := someI hr
   exact ret_of hF hS rfl (.tmp rfl .nil) rfl

theorem c_spec_JoinTables (p_g : impl_Geo) (p_s : List impl_Variable) (p_a : impl_Table) (p_b : impl_Table) (r : impl_Table × Bool) (hr : spec_JoinTables p_g p_s p_a p_b = some r) (w0 : World) (m : Mem) (hv : Vis m w0) (s1 : Sl) (h1 : Rd m s1 p_g.Parents) (s2 : Sl) (h2 : Rd m s2 p_s) (s3 : Sl) (h3 : Rd m s3 p_a.Vars) (s4 : Sl) (h4 : Rd m s4 p_a.Where) (s5 : Sl) (h5 : Rd m s5 p_b.Vars) (s6 : Sl) (h6 : Rd m s6 p_b.Where) :
  Ret Try.prog 8 [(.agg #[s1.v]), s2.v, (.agg #[(.int .i64 p_a.Level), s3.v, s4.v, (.int .i64 p_a.Sum)]), (.agg #[(.int .i64 p_b.Level), s5.v, s6.v, (.int .i64 p_b.Sum)])] w0 (fun v w => ∃ (m' : Mem) (q0' : Piece) (q1' : Piece) (s0' : Sl) (s1' : Sl), v = (.tuple #[(.agg #[(.int .i64 r.1.Level), s0'.v, s1'.v, (.int .i64 r.1.Sum)]), (.bool r.2)]) ∧ MLe [] w0.heap.size m m' ∧ St [] w0 w m' [q0', q1'] ∧ OwnL m' 3 q0' s0' r.1.Vars ∧ OwnL m' 3 q1' s1' r.1.Where) := by
 unfold spec_JoinTables at hr
 refine ret_start Try.func8 rfl 52 rfl rfl m hv fun a hF hS => q_seq (q_region (q_box (cs := [s1.v]) hF hS rfl rfl rfl fun a w b7 hF hS => q_box (cs := [(.int .i64 p_a.Level), s3.v, s4.v, (.int .i64 p_a.Sum)]) hF hS rfl rfl rfl fun a w b8 hF hS => q_box (cs := [(.int .i64 p_b.Level), s5.v, s6.v, (.int .i64 p_b.Sum)]) hF hS rfl rfl rfl fun a w b9 hF hS => q_alloc (cs := [(.int .i64 0), nilS.v, nilS.v, (.int .i64 0)]) hF hS rfl rfl rfl fun a w b10 hF hS => q_x (v := (.bool false)) hF hS (ex_assign rfl) rfl rfl fun a hF => q_end (n_sq (q_seq (q_seq ?_)))))
 obtain ⟨t_13, hj1, hr⟩ := bindS hr
 refine q_join (fun a w => Fr a 52 [(1, s2.v), (4, (.pointer (some ⟨b7, 0, none⟩))), (6, (.pointer (some ⟨b8, 0, none⟩))), (7, (.pointer (some ⟨b9, 0, none⟩))), (8, (.pointer (some ⟨b10, 0, none⟩))), (22, (.bool t_13))] ∧ St [] w0 w m [[⟨b10, [(.int .i64 0), nilS.v, nilS.v, (.int .i64 0)], 29⟩], [⟨b9, [(.int .i64 p_b.Level), s5.v, s6.v, (.int .i64 p_b.Sum)], 29⟩], [⟨b8, [(.int .i64 p_a.Level), s3.v, s4.v, (.int .i64 p_a.Sum)], 29⟩], [⟨b7, [s1.v], 26⟩]]) ?_ ?_
 ·refine q_region (q_x (v := (.agg #[s1.v])) hF hS (ex_loadA (vs := [s1.v]) 3 0 Try.underlying26 rfl sz26 rfl rfl rfl rfl) rfl rfl fun a hF => q_x (v := s2.v) hF hS (ex_move rfl) rfl rfl fun a hF => q_x (v := (.agg #[(.int .i64 p_a.Level), s3.v, s4.v, (.int .i64 p_a.Sum)])) hF hS (ex_loadA (vs := [(.int .i64 p_a.Level), s3.v, s4.v, (.int .i64 p_a.Sum)]) 2 0 Try.underlying29 rfl sz29 rfl rfl rfl rfl) rfl rfl fun a hF => ?_)
  obtain ⟨t_11, ht_11, hj1⟩ := bindS hj1
  refine q_call (vs := [(.agg #[s1.v]), s2.v, (.agg #[(.int .i64 p_a.Level), s3.v, s4.v, (.int .i64 p_a.Sum)])]) hF hS Try.func35 (by kernel_rfl) rfl rfl rfl (c_spec_uGood p_g p_s p_a t_11 ht_11 _ m hS.vis s1 h1 s2 h2 s3 h3 s4 h4) ?_
  rintro a w _ rfl hF hS
  refine q_x (v := (.bool (!t_11))) hF hS (ex_not rfl) rfl rfl fun a hF => q_x (v := (.bool (!t_11))) hF hS (ex_move rfl) rfl rfl fun a hF => ?_
  rcases bcase (!t_11) with hc2 | hc2
  ·have hj1 := cond_f hc2 hj1
   refine q_xg (v := (.agg #[s1.v])) hF hS (ex_loadA (vs := [s1.v]) 3 0 Try.underlying26 rfl sz26 rfl rfl rfl rfl) (wanted_t hF rfl rfl rfl hc2) rfl fun a hF => q_xg (v := s2.v) hF hS (ex_move rfl) (wanted_t hF rfl rfl rfl hc2) rfl fun a hF => q_xg (v := (.agg #[(.int .i64 p_b.Level), s5.v, s6.v, (.int .i64 p_b.Sum)])) hF hS (ex_loadA (vs := [(.int .i64 p_b.Level), s5.v, s6.v, (.int .i64 p_b.Sum)]) 1 0 Try.underlying29 rfl sz29 rfl rfl rfl rfl) (wanted_t hF rfl rfl rfl hc2) rfl fun a hF => ?_
   obtain ⟨t_12, ht_12, hj1⟩ := bindS hj1
   refine q_callg (vs := [(.agg #[s1.v]), s2.v, (.agg #[(.int .i64 p_b.Level), s5.v, s6.v, (.int .i64 p_b.Sum)])]) hF hS (wanted_t hF rfl rfl rfl hc2) Try.func35 (by kernel_rfl) rfl rfl rfl (c_spec_uGood p_g p_s p_b t_12 ht_12 _ m hS.vis s1 h1 s2 h2 s5 h5 s6 h6) ?_
   rintro a w _ rfl hF hS
   refine q_xg (v := (.bool (!t_12))) hF hS (ex_not rfl) (wanted_t hF rfl rfl rfl hc2) rfl fun a hF => q_x (v := (.bool (!t_12))) hF hS (ex_pick_f rfl rfl hc2) rfl rfl fun a hF => q_end (n_jn ?_)
   obtain rfl := someI hj1
   exact ⟨hF.sub ⟨rfl, rfl, rfl, rfl, rfl, rfl, trivial⟩, hS⟩
  ·have hj1 := cond_t hc2 hj1
   refine q_skip hF (wanted_f hF rfl rfl rfl hc2 rfl) rfl fun a hF => q_skip hF (wanted_f hF rfl rfl rfl hc2 rfl) rfl fun a hF => q_skip hF (wanted_f hF rfl rfl rfl hc2 rfl) rfl fun a hF => q_skip hF (wanted_f hF rfl rfl rfl hc2 rfl) rfl fun a hF => q_skip hF (wanted_f hF rfl rfl rfl hc2 rfl) rfl fun a hF => q_x (v := (.bool true)) hF hS (ex_pick_t rfl rfl hc2) rfl rfl fun a hF => q_end (n_jn ?_)
   obtain rfl := someI hj1
   exact ⟨hF.sub ⟨rfl, rfl, rfl, rfl, rfl, rfl, trivial⟩, hS⟩
 ·rintro a w ⟨hF, hS⟩
  refine n_sq ?_
  rcases bcase (t_13) with hc3 | hc3
  ·have hr := cond_f hc3 hr
   refine q_cond_f hF rfl hc3 (q_skipc (n_sq (q_seq (q_region (q_x (v := (.agg #[s1.v])) hF hS (ex_loadA (vs := [s1.v]) 3 0 Try.underlying26 rfl sz26 rfl rfl rfl rfl) rfl rfl fun a hF => q_x (v := s2.v) hF hS (ex_move rfl) rfl rfl fun a hF => q_x (v := (.agg #[(.int .i64 p_a.Level), s3.v, s4.v, (.int .i64 p_a.Sum)])) hF hS (ex_loadA (vs := [(.int .i64 p_a.Level), s3.v, s4.v, (.int .i64 p_a.Sum)]) 2 0 Try.underlying29 rfl sz29 rfl rfl rfl rfl) rfl rfl fun a hF => q_x (v := (.agg #[(.int .i64 p_b.Level), s5.v, s6.v, (.int .i64 p_b.Sum)])) hF hS (ex_loadA (vs := [(.int .i64 p_b.Level), s5.v, s6.v, (.int .i64 p_b.Sum)]) 1 0 Try.underlying29 rfl sz29 rfl rfl rfl rfl) rfl rfl fun a hF => ?_)))))
   obtain ⟨t_14, ht_14, hr⟩ := bindS hr
   refine q_call (vs := [(.agg #[s1.v]), s2.v, (.agg #[(.int .i64 p_a.Level), s3.v, s4.v, (.int .i64 p_a.Sum)]), (.agg #[(.int .i64 p_b.Level), s5.v, s6.v, (.int .i64 p_b.Sum)])]) hF hS Try.func36 (by kernel_rfl) rfl rfl rfl (c_spec_lJoin p_g p_s p_a p_b t_14 ht_14 _ m hS.vis s1 h1 s2 h2 s3 h3 s4 h4 s5 h5 s6 h6) ?_
   have hT := hS
   rintro a w _ ⟨m15, q16, q17, s16, s17, rfl, hm15, hR15, h16, h17⟩ hF hS2
   have hS : St _ _ _ _ [q16, q17, [⟨b10, [(.int .i64 0), nilS.v, nilS.v, (.int .i64 0)], 29⟩], [⟨b9, [(.int .i64 p_b.Level), s5.v, s6.v, (.int .i64 p_b.Sum)], 29⟩], [⟨b8, [(.int .i64 p_a.Level), s3.v, s4.v, (.int .i64 p_a.Sum)], 29⟩], [⟨b7, [s1.v], 26⟩]] := hS.join hR15 hm15
   have hm15 := MLe.weakX (O0 := []) hT hm15
   refine q_alloc (cs := [(.int .i64 0), nilS.v, nilS.v, (.int .i64 0)]) hF hS rfl rfl rfl fun a w b18 hF hS => q_store (vs := [(.int .i64 t_14.Level), s16.v, s17.v, (.int .i64 t_14.Sum)]) (cs' := [(.int .i64 t_14.Level), s16.v, s17.v, (.int .i64 t_14.Sum)]) 0 0 hF hS sz29 rfl rfl rfl rfl rfl rfl rfl rfl fun a w hF hS => q_end (n_sq (q_seq (q_seq ?_)))
   obtain ⟨t_25, hj4, hr⟩ := bindS hr
   refine q_join (fun a w => Fr a 52 [(8, (.pointer (some ⟨b10, 0, none⟩))), (10, (.pointer (some ⟨b18, 0, none⟩))), (49, (.bool t_25))] ∧ St [] w0 w m15 [q16, q17, [⟨b18, [(.int .i64 t_14.Level), s16.v, s17.v, (.int .i64 t_14.Sum)], 29⟩], [⟨b10, [(.int .i64 0), nilS.v, nilS.v, (.int .i64 0)], 29⟩]]) ?_ ?_
   ·refine q_region (q_x (v := (.agg #[s1.v])) hF hS (ex_loadA (vs := [s1.v]) 6 0 Try.underlying26 rfl sz26 rfl rfl rfl rfl) rfl rfl fun a hF => q_x (v := s2.v) hF hS (ex_move rfl) rfl rfl fun a hF => q_x (v := (.agg #[(.int .i64 t_14.Level), s16.v, s17.v, (.int .i64 t_14.Sum)])) hF hS (ex_loadA (vs := [(.int .i64 t_14.Level), s16.v, s17.v, (.int .i64 t_14.Sum)]) 0 0 Try.underlying29 rfl sz29 rfl rfl rfl rfl) rfl rfl fun a hF => ?_)
    obtain ⟨m20, hl20, hv20, hz20⟩ := hS.lend
    obtain ⟨t_19, ht_19, hj4⟩ := bindS hj4
    refine q_call (vs := [(.agg #[s1.v]), s2.v, (.agg #[(.int .i64 t_14.Level), s16.v, s17.v, (.int .i64 t_14.Sum)])]) hF hS Try.func35 (by kernel_rfl) rfl rfl rfl (c_spec_uGood p_g p_s t_14 t_19 ht_19 _ m20 hv20 s1 ((h1.mono hm15.le).mono hl20) s2 ((h2.mono hm15.le).mono hl20) s16 (h16.froz hl20 (hz20 1 _ rfl)) s17 (h17.froz hl20 (hz20 2 _ rfl))) ?_
    rintro a w _ rfl hF hS
    refine q_x (v := (.bool (!t_19))) hF hS (ex_not rfl) rfl rfl fun a hF => q_x (v := (.bool (!t_19))) hF hS (ex_move rfl) rfl rfl fun a hF => ?_
    rcases bcase (!t_19) with hc5 | hc5
    ·have hj4 := cond_f hc5 hj4
     refine q_xg (v := (.agg #[s1.v])) hF hS (ex_loadA (vs := [s1.v]) 6 0 Try.underlying26 rfl sz26 rfl rfl rfl rfl) (wanted_t hF rfl rfl rfl hc5) rfl fun a hF => q_xg (v := s2.v) hF hS (ex_move rfl) (wanted_t hF rfl rfl rfl hc5) rfl fun a hF => q_xg (v := (.agg #[(.int .i64 p_a.Level), s3.v, s4.v, (.int .i64 p_a.Sum)])) hF hS (ex_loadA (vs := [(.int .i64 p_a.Level), s3.v, s4.v, (.int .i64 p_a.Sum)]) 5 0 Try.underlying29 rfl sz29 rfl rfl rfl rfl) (wanted_t hF rfl rfl rfl hc5) rfl fun a hF => q_xg (v := (.agg #[(.int .i64 t_14.Level), s16.v, s17.v, (.int .i64 t_14.Sum)])) hF hS (ex_loadA (vs := [(.int .i64 t_14.Level), s16.v, s17.v, (.int .i64 t_14.Sum)]) 0 0 Try.underlying29 rfl sz29 rfl rfl rfl rfl) (wanted_t hF rfl rfl rfl hc5) rfl fun a hF => ?_
     obtain ⟨m22, hl22, hv22, hz22⟩ := hS.lend
     obtain ⟨t_21, ht_21, hj4⟩ := bindS hj4
     refine q_callg (vs := [(.agg #[s1.v]), s2.v, (.agg #[(.int .i64 p_a.Level), s3.v, s4.v, (.int .i64 p_a.Sum)]), (.agg #[(.int .i64 t_14.Level), s16.v, s17.v, (.int .i64 t_14.Sum)])]) hF hS (wanted_t hF rfl rfl rfl hc5) Try.func37 (by kernel_rfl) rfl rfl rfl (c_spec_lFollows p_g p_s p_a t_14 t_21 ht_21 _ m22 hv22 s1 ((h1.mono hm15.le).mono hl22) s2 ((h2.mono hm15.le).mono hl22) s3 ((h3.mono hm15.le).mono hl22) s4 ((h4.mono hm15.le).mono hl22) s16 (h16.froz hl22 (hz22 1 _ rfl)) s17 (h17.froz hl22 (hz22 2 _ rfl))) ?_
     rintro a w _ rfl hF hS
     refine q_xg (v := (.bool (!t_21))) hF hS (ex_not rfl) (wanted_t hF rfl rfl rfl hc5) rfl fun a hF => q_x (v := (.bool (!t_21))) hF hS (ex_pick_f rfl rfl hc5) rfl rfl fun a hF => q_x (v := (.bool (!t_21))) hF hS (ex_move rfl) rfl rfl fun a hF => ?_
     rcases bcase (!t_21) with hc6 | hc6
     ·have hj4 := cond_f hc6 hj4
      refine q_xg (v := (.agg #[s1.v])) hF hS (ex_loadA (vs := [s1.v]) 6 0 Try.underlying26 rfl sz26 rfl rfl rfl rfl) (wanted_t hF rfl rfl rfl hc6) rfl fun a hF => q_xg (v := s2.v) hF hS (ex_move rfl) (wanted_t hF rfl rfl rfl hc6) rfl fun a hF => q_xg (v := (.agg #[(.int .i64 p_b.Level), s5.v, s6.v, (.int .i64 p_b.Sum)])) hF hS (ex_loadA (vs := [(.int .i64 p_b.Level), s5.v, s6.v, (.int .i64 p_b.Sum)]) 4 0 Try.underlying29 rfl sz29 rfl rfl rfl rfl) (wanted_t hF rfl rfl rfl hc6) rfl fun a hF => q_xg (v := (.agg #[(.int .i64 t_14.Level), s16.v, s17.v, (.int .i64 t_14.Sum)])) hF hS (ex_loadA (vs := [(.int .i64 t_14.Level), s16.v, s17.v, (.int .i64 t_14.Sum)]) 0 0 Try.underlying29 rfl sz29 rfl rfl rfl rfl) (wanted_t hF rfl rfl rfl hc6) rfl fun a hF => ?_
      obtain ⟨m24, hl24, hv24, hz24⟩ := hS.lend
      obtain ⟨t_23, ht_23, hj4⟩ := bindS hj4
      refine q_callg (vs := [(.agg #[s1.v]), s2.v, (.agg #[(.int .i64 p_b.Level), s5.v, s6.v, (.int .i64 p_b.Sum)]), (.agg #[(.int .i64 t_14.Level), s16.v, s17.v, (.int .i64 t_14.Sum)])]) hF hS (wanted_t hF rfl rfl rfl hc6) Try.func37 (by kernel_rfl) rfl rfl rfl (c_spec_lFollows p_g p_s p_b t_14 t_23 ht_23 _ m24 hv24 s1 ((h1.mono hm15.le).mono hl24) s2 ((h2.mono hm15.le).mono hl24) s5 ((h5.mono hm15.le).mono hl24) s6 ((h6.mono hm15.le).mono hl24) s16 (h16.froz hl24 (hz24 1 _ rfl)) s17 (h17.froz hl24 (hz24 2 _ rfl))) ?_
      rintro a w _ rfl hF hS
      refine q_xg (v := (.bool (!t_23))) hF hS (ex_not rfl) (wanted_t hF rfl rfl rfl hc6) rfl fun a hF => q_x (v := (.bool (!t_23))) hF hS (ex_pick_f rfl rfl hc6) rfl rfl fun a hF => q_end (n_jn ?_)
      obtain rfl := someI hj4
      exact ⟨hF.sub ⟨rfl, rfl, rfl, trivial⟩, hS.sel [1, 2, 0, 3] (by decide)⟩
     ·have hj4 := cond_t hc6 hj4
      refine q_skip hF (wanted_f hF rfl rfl rfl hc6 rfl) rfl fun a hF => q_skip hF (wanted_f hF rfl rfl rfl hc6 rfl) rfl fun a hF => q_skip hF (wanted_f hF rfl rfl rfl hc6 rfl) rfl fun a hF => q_skip hF (wanted_f hF rfl rfl rfl hc6 rfl) rfl fun a hF => q_skip hF (wanted_f hF rfl rfl rfl hc6 rfl) rfl fun a hF => q_skip hF (wanted_f hF rfl rfl rfl hc6 rfl) rfl fun a hF => q_x (v := (.bool true)) hF hS (ex_pick_t rfl rfl hc6) rfl rfl fun a hF => q_end (n_jn ?_)
      obtain rfl := someI hj4
      exact ⟨hF.sub ⟨rfl, rfl, rfl, trivial⟩, hS.sel [1, 2, 0, 3] (by decide)⟩
    ·have hj4 := cond_t hc5 hj4
     refine q_skip hF (wanted_f hF rfl rfl rfl hc5 rfl) rfl fun a hF => q_skip hF (wanted_f hF rfl rfl rfl hc5 rfl) rfl fun a hF => q_skip hF (wanted_f hF rfl rfl rfl hc5 rfl) rfl fun a hF => q_skip hF (wanted_f hF rfl rfl rfl hc5 rfl) rfl fun a hF => q_skip hF (wanted_f hF rfl rfl rfl hc5 rfl) rfl fun a hF => q_skip hF (wanted_f hF rfl rfl rfl hc5 rfl) rfl fun a hF => q_x (v := (.bool true)) hF hS (ex_pick_t rfl rfl hc5) rfl rfl fun a hF => q_x (v := (.bool true)) hF hS (ex_move rfl) rfl rfl fun a hF => q_skip hF (wanted_f hF rfl rfl rfl rfl rfl) rfl fun a hF => q_skip hF (wanted_f hF rfl rfl rfl rfl rfl) rfl fun a hF => q_skip hF (wanted_f hF rfl rfl rfl rfl rfl) rfl fun a hF => q_skip hF (wanted_f hF rfl rfl rfl rfl rfl) rfl fun a hF => q_skip hF (wanted_f hF rfl rfl rfl rfl rfl) rfl fun a hF => q_skip hF (wanted_f hF rfl rfl rfl rfl rfl) rfl fun a hF => q_x (v := (.bool true)) hF hS (ex_pick_t rfl rfl rfl) rfl rfl fun a hF => q_end (n_jn ?_)
     obtain rfl := someI hj4
     exact ⟨hF.sub ⟨rfl, rfl, rfl, trivial⟩, hS.sel [1, 2, 0, 3] (by decide)⟩
   ·rintro a w ⟨hF, hS⟩
    refine n_sq ?_
    rcases bcase (t_25) with hc7 | hc7
    ·have hr := cond_f hc7 hr
     refine q_cond_f hF rfl hc7 (q_skipc (n_sq (q_seq (q_region (q_x (v := (.agg #[(.int .i64 t_14.Level), s16.v, s17.v, (.int .i64 t_14.Sum)])) hF hS (ex_loadA (vs := [(.int .i64 t_14.Level), s16.v, s17.v, (.int .i64 t_14.Sum)]) 2 0 Try.underlying29 rfl sz29 rfl rfl rfl rfl) rfl rfl fun a hF => q_store (vs := [(.int .i64 t_14.Level), s16.v, s17.v, (.int .i64 t_14.Sum)]) (cs' := [(.int .i64 t_14.Level), s16.v, s17.v, (.int .i64 t_14.Sum)]) 3 0 hF hS sz29 rfl rfl rfl rfl rfl rfl rfl rfl fun a w hF hS => q_x (v := (.bool true)) hF hS (ex_assign rfl) rfl rfl fun a hF => q_end (n_sq (q_ret ?_)))))))
     obtain rfl := someI hr
     exact ret_of hF hS rfl (.cellA (us := [(.int .i64 t_14.Level), s16.v, s17.v, (.int .i64 t_14.Sum)]) 3 0 Try.underlying29 rfl sz29 rfl rfl rfl rfl (.tmp rfl .nil)) ⟨m15, q16, q17, s16, s17, rfl, hm15, hS.sel [0, 1] (by decide), h16, h17⟩
    ·have hr := cond_t hc7 hr
     refine q_cond_t hF rfl hc7 (q_seq (q_region (q_x (v := (.agg #[(.int .i64 0), nilS.v, nilS.v, (.int .i64 0)])) hF hS (ex_build (cells := [(.int .i64 0), nilS.v, nilS.v, (.int .i64 0)]) rfl (by kernel_rfl)) rfl rfl fun a hF => q_store (vs := [(.int .i64 0), nilS.v, nilS.v, (.int .i64 0)]) (cs' := [(.int .i64 0), nilS.v, nilS.v, (.int .i64 0)]) 3 0 hF hS sz29 rfl rfl rfl rfl rfl rfl rfl rfl fun a w hF hS => q_x (v := (.bool false)) hF hS (ex_assign rfl) rfl rfl fun a hF => q_end (n_sq (q_ret (r_sq ?_))))))
     obtain rfl := someI hr
     exact ret_of hF hS rfl (.cellA (us := [(.int .i64 0), nilS.v, nilS.v, (.int .i64 0)]) 3 0 Try.underlying29 rfl sz29 rfl rfl rfl rfl (.tmp rfl .nil)) ⟨m15, [], [], nilS, nilS, rfl, hm15, hS.sel [4, 5] (by decide), (OwnL.nil (α := Int) m15 3), (OwnL.nil (α := Int) m15 3)⟩
  ·have hr := cond_t hc3 hr
   refine q_cond_t hF rfl hc3 (q_seq (q_region (q_x (v := (.agg #[(.int .i64 0), nilS.v, nilS.v, (.int .i64 0)])) hF hS (ex_build (cells := [(.int .i64 0), nilS.v, nilS.v, (.int .i64 0)]) rfl (by kernel_rfl)) rfl rfl fun a hF => q_store (vs := [(.int .i64 0), nilS.v, nilS.v, (.int .i64 0)]) (cs' := [(.int .i64 0), nilS.v, nilS.v, (.int .i64 0)]) 0 0 hF hS sz29 rfl rfl rfl rfl rfl rfl rfl rfl fun a w hF hS => q_x (v := (.bool false)) hF hS (ex_assign rfl) rfl rfl fun a hF => q_end (n_sq (q_ret (r_sq ?_))))))
   obtain rfl := someI hr
   exact ret_of hF hS rfl (.cellA (us := [(.int .i64 0), nilS.v, nilS.v, (.int .i64 0)]) 0 0 Try.underlying29 rfl sz29 rfl rfl rfl rfl (.tmp rfl .nil)) ⟨m, [], [], nilS, nilS, rfl, (MLe.refl _ _), hS.sel [4, 5] (by decide), (OwnL.nil (α := Int) m 3), (OwnL.nil (α := Int) m 3)⟩

theorem c_laws_sameInts (p_a : List Int) (p_b : List Int) (r : Bool) (hr : laws_sameInts p_a p_b = some r) (w0 : World) (m : Mem) (hv : Vis m w0) (s1 : Sl) (h1 : Rd m s1 p_a) (s2 : Sl) (h2 : Rd m s2 p_b) :
  Ret Try.prog 17 [s1.v, s2.v] w0 (fun v _ => v = (.bool r)) := by
 unfold laws_sameInts at hr
 refine ret_start Try.func17 rfl 26 rfl rfl m hv fun a hF hS => q_seq (q_region (q_x (v := (.bool false)) hF hS (ex_assign rfl) rfl rfl fun a hF => q_end (n_sq (q_seq (q_seq (q_region (q_x (v := s1.v) hF hS (ex_move rfl) rfl rfl fun a hF => q_x (v := (.int .i64 (goLen p_a))) hF hS (ex_len Try.underlying24 rfl h1.len) rfl rfl fun a hF => q_x (v := s2.v) hF hS (ex_move rfl) rfl rfl fun a hF => q_x (v := (.int .i64 (goLen p_b))) hF hS (ex_len Try.underlying24 rfl h2.len) rfl rfl fun a hF => q_x (v := (.bool ((goLen p_a) != (goLen p_b)))) hF hS (ex_ibin rfl rfl rfl) rfl rfl fun a hF => q_end (n_sq ?_))))))))
 rcases bcase ((goLen p_a) != (goLen p_b)) with hc1 | hc1
 ·have hr := cond_f hc1 hr
  refine q_cond_f hF rfl hc1 (q_skipc (n_sq (q_seq (q_seq (q_region (q_x (v := s1.v) hF hS (ex_move rfl) rfl rfl fun a hF => q_x (v := (.int .i64 (goLen p_a))) hF hS (ex_len Try.underlying24 rfl h1.len) rfl rfl fun a hF => q_x (v := (.int .i64 0)) hF hS (ex_move rfl) rfl rfl fun a hF => q_end (n_sq (q_block ?_))))))))
  obtain ⟨o2, hl2, hr⟩ := bindS hr
  refine q_loop (fun (t_3 : Int) a w => Fr a 26 [(0, s1.v), (1, s2.v), (12, (.int .i64 (goLen p_a))), (13, (.int .i64 t_3))] ∧ St [] w0 w m []) (fun (o : (Unit) ⊕ (Bool)) e a w => o = .inl () ∧ e = .exit 0 ∧ Fr a 26 [] ∧ St [] w0 w m []) hl2 ⟨hF.sub ⟨rfl, rfl, rfl, rfl, trivial⟩, hS⟩ ?_ ?_
  ·clear hF hS
   rintro t_3 a w st ⟨hF, hS⟩ hb2
   unfold laws_sameInts_l1 at hb2
   refine q_seq (q_region (q_x (v := (.bool (decide (t_3 < (goLen p_a))))) hF hS (ex_ibin rfl rfl rfl) rfl rfl fun a hF => q_end (n_sq (q_seq ?_))))
   rcases bcase (decide (t_3 < (goLen p_a))) with hc3 | hc3
   ·have hb2 := cond_f hc3 hb2
    refine q_cond_f hF rfl hc3 (q_exit (x_sq ?_))
    obtain rfl := someI hb2
    exact ⟨nofun, .inl ⟨rfl, rfl, hF.sub trivial, hS⟩⟩
   ·have hb2 := cond_t hc3 hb2
    refine q_cond_t hF rfl hc3 (q_skipc (n_sq (q_seq (q_block (q_seq (q_region (q_x (v := (.int .i64 t_3)) hF hS (ex_move rfl) rfl rfl fun a hF => q_x (v := (.int .i64 t_3)) hF hS (ex_assign rfl) rfl rfl fun a hF => q_end (n_sq (q_seq (e_region ⟨[], []⟩ mixed fun w' hw' => ?_))))))))))
    have hS := hS.below hw'
    refine e_p (v := s1.v) 0 hF rfl (ex_move rfl) rfl rfl (by kernel_rfl) (by kernel_rfl) (by kernel_rfl) fun a hF => e_p (v := (.int .i64 t_3)) 1 hF rfl (ex_move rfl) rfl rfl (by kernel_rfl) (by kernel_rfl) (by kernel_rfl) fun a hF => ?_
    obtain ⟨e_4, he_4, hb2⟩ := bindS hb2
    obtain ⟨vs5, at5, d5⟩ := h1.at he_4 1 rfl
    obtain rfl : vs5 = [(.int .i64 e_4)] := d5
    refine e_p (v := (elP s1 (t_3.toNat * 1))) 2 hF rfl (ex_indexAddr Try.underlying24 sz3 rfl rfl (h1.idx he_4)) rfl rfl (by kernel_rfl) (by kernel_rfl) (by kernel_rfl) fun a hF => e_x (v := (.int .i64 e_4)) 3 hF hS rfl (ex_loadE1 0 Try.underlying3 rfl rfl ((at5).at) rfl rfl) rfl rfl (by kernel_rfl) (by kernel_rfl) (by kernel_rfl) (by kernel_rfl) fun a hF => e_p (v := s2.v) 4 hF rfl (ex_move rfl) rfl rfl (by kernel_rfl) (by kernel_rfl) (by kernel_rfl) fun a hF => e_p (v := (.int .i64 t_3)) 5 hF rfl (ex_move rfl) rfl rfl (by kernel_rfl) (by kernel_rfl) (by kernel_rfl) fun a hF => ?_
    obtain ⟨e_6, he_6, hb2⟩ := bindS hb2
    obtain ⟨vs7, at7, d7⟩ := h2.at he_6 1 rfl
    obtain rfl : vs7 = [(.int .i64 e_6)] := d7
    refine e_p (v := (elP s2 (t_3.toNat * 1))) 6 hF rfl (ex_indexAddr Try.underlying24 sz3 rfl rfl (h2.idx he_6)) rfl rfl (by kernel_rfl) (by kernel_rfl) (by kernel_rfl) fun a hF => e_x (v := (.int .i64 e_6)) 7 hF hS rfl (ex_loadE1 0 Try.underlying3 rfl rfl ((at7).at) rfl rfl) rfl rfl (by kernel_rfl) (by kernel_rfl) (by kernel_rfl) (by kernel_rfl) fun a hF => e_p (v := (.bool (e_4 != e_6))) 8 hF rfl (ex_ibin rfl rfl rfl) rfl rfl (by kernel_rfl) (by kernel_rfl) (by kernel_rfl) fun a hF => e_end (by kernel_rfl) (n_sq ?_) _
    rcases bcase (e_4 != e_6) with hc4 | hc4
    ·have hb2 := cond_f hc4 hb2
     refine q_cond_f hF rfl hc4 (q_skipc (n_ib (n_sq (q_region (q_x (v := (.int .i64 (w64 (t_3 + 1)))) hF hS (ex_ibin rfl rfl rfl) rfl rfl fun a hF => q_x (v := (.int .i64 (w64 (t_3 + 1)))) hF hS (ex_move rfl) rfl rfl fun a hF => q_end ?_)))))
     obtain rfl := someI hb2
     exact ⟨rfl, hF.sub ⟨rfl, rfl, rfl, rfl, trivial⟩, hS⟩
    ·have hb2 := cond_t hc4 hb2
     refine q_cond_t hF rfl hc4 (q_seq (q_region (q_x (v := (.bool false)) hF hS (ex_assign rfl) rfl rfl fun a hF => q_end (n_sq (q_ret (r_ib (r_sq ?_)))))))
     obtain rfl := someI hb2
     refine ⟨nofun, .inr fun ho => ?_⟩
     subst ho
     refine r_ib (r_sq ?_)
     obtain rfl := someI hr
     exact ret_of hF hS rfl (.tmp rfl .nil) rfl
  ·rintro e a w ⟨rfl, rfl, hF, hS⟩
   refine x_ib (n_sq ?_)
   refine q_seq (q_region (q_x (v := (.bool true)) hF hS (ex_assign rfl) rfl rfl fun a hF => q_end (n_sq (q_ret ?_))))
   obtain rfl := someI hr
   exact ret_of hF hS rfl (.tmp rfl .nil) rfl
 ·have hr := cond_t hc1 hr
  refine q_cond_t hF rfl hc1 (q_seq (q_region (q_x (v := (.bool false)) hF hS (ex_assign rfl) rfl rfl fun a hF => q_end (n_sq (q_ret (r_sq ?_))))))
  obtain rfl := someI hr
  exact ret_of hF hS rfl (.tmp rfl .nil) rfl

end Go.Proofs.Ytnmimeojimfogaa
