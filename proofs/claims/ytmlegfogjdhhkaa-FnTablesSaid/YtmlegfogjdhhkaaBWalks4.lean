/- The walks of the functions: each returns what its plain function says. -/
import Derived.Test.YtmlegfogjdhhkaaBWalks3
namespace Go.Proofs.Ytmlegfogjdhhkaa
open Go.Gx Go.Gx.F Go.RowKit
set_option linter.all false
set_option maxRecDepth 10000


theorem c_spec_DrawIsTable (p_code : List (K .u8)) (r : impl_Geo × (List impl_Variable) × impl_Table) (hr : spec_DrawIsTable p_code = some r) (w0 : World) (m : Mem) (hv : Vis m w0) (s1 : Sl) (h1 : Rd m s1 p_code) :
    Ret Try.prog 46 [s1.v] w0 (fun v w => ∃ (m' : Mem) (q0' : Piece) (q2' : Piece) (q3' : Piece) (s0' : Sl) (s1' : Sl) (s2' : Sl) (s3' : Sl), v = (.tuple #[(.agg #[s0'.v]), s1'.v, (.agg #[(.int .i64 r.2.2.Level), s2'.v, s3'.v, (.int .i64 r.2.2.Sum)])]) ∧ MLe [] w0.heap.size m m' ∧ St [] w0 w m' [q0', q2', q3'] ∧ OwnL m' 3 q0' s0' r.1.Parents ∧ Rd m' s1' r.2.1 ∧ OwnL m' 3 q2' s2' r.2.2.Vars ∧ OwnL m' 3 q3' s3' r.2.2.Where) := by
  unfold spec_DrawIsTable at hr
  refine ret_start Try.func46 rfl 24 rfl rfl m hv fun a hF hS => ?_
  refine q_seq ?_
  refine q_region ?_
  refine q_alloc (cs := [nilS.v]) hF hS rfl rfl rfl fun a w b2 hF hS => ?_
  refine q_x (v := nilS.v) hF hS (ex_assign rfl) rfl rfl fun a hF => ?_
  refine q_alloc (cs := [(.int .i64 0), nilS.v, nilS.v, (.int .i64 0)]) hF hS rfl rfl rfl fun a w b3 hF hS => ?_
  refine q_end (n_sq ?_)
  refine q_seq ?_
  refine q_region ?_
  refine q_x (v := s1.v) hF hS (ex_move rfl) rfl rfl fun a hF => ?_
  refine q_x (v := (.agg #[s1.v, (.int .i64 0), (.int .u64 0)])) hF hS (ex_build (cells := [s1.v, (.int .i64 0), (.int .u64 0)]) rfl (by kernel_rfl)) rfl rfl fun a hF => ?_
  refine q_box (cs := [s1.v, (.int .i64 0), (.int .u64 0)]) hF hS rfl rfl rfl fun a w b4 hF hS => ?_
  refine q_x (v := (.pointer (some ⟨b4, 0, none⟩))) hF hS (ex_assign rfl) rfl rfl fun a hF => ?_
  refine q_end (n_sq ?_)
  refine q_seq ?_
  refine q_region ?_
  refine q_x (v := (.pointer (some ⟨b4, 0, none⟩))) hF hS (ex_move rfl) rfl rfl fun a hF => ?_
  have hS5 : St _ _ _ _ ([[⟨b4, [s1.v, (.int .i64 0), (.int .u64 0)], 58⟩]] ++ [[⟨b3, [(.int .i64 0), nilS.v, nilS.v, (.int .i64 0)], 28⟩], [⟨b2, [nilS.v], 25⟩]]) := hS
  have hE5 := hS5.enter
  obtain ⟨t_6, ht_6, hr⟩ := bindS hr
  refine q_do rfl fun _ hK => wp_callX (vs := [(.pointer (some ⟨b4, 0, none⟩))]) hF Try.func43 (by kernel_rfl) rfl rfl rfl (c_spec_l1Cur_anySurvey (spec_l1Cur.mk p_code 0 (⟨0⟩ : K .u64)) t_6 ht_6 _ m b4 s1 h1 _ hE5) fun a w _ hR hF => hK _ _ ?_
  obtain ⟨m5', q7, q9, s7, s8, s9, rfl, hm5, hR5, h7, h8, h9, hk10⟩ := hR
  have hS : St _ _ _ _ [[⟨b4, [s1.v, (.int .i64 t_6.2.2.2.at_), (.int .u64 t_6.2.2.2.seed.v)], 58⟩], q7, q9, [⟨b3, [(.int .i64 0), nilS.v, nilS.v, (.int .i64 0)], 28⟩], [⟨b2, [nilS.v], 25⟩]] := hS5.leave hR5 hm5
  have hm5 := MLe.weakX hS5 hm5
  have h10 : Rd m5' s1 t_6.2.2.2.code := by rw [hk10]; exact (h1.mono hm5.le)
  refine q_x (v := (.tuple #[(.agg #[s7.v]), s8.v, s9.v])) hF hS (ex_move rfl) rfl rfl fun a hF => ?_
  refine q_x (v := (.agg #[s7.v])) hF hS (ex_extract rfl rfl) rfl rfl fun a hF => ?_
  refine q_x (v := s8.v) hF hS (ex_extract rfl rfl) rfl rfl fun a hF => ?_
  refine q_x (v := s9.v) hF hS (ex_extract rfl rfl) rfl rfl fun a hF => ?_
  refine q_alloc (cs := [nilS.v]) hF hS rfl rfl rfl fun a w b11 hF hS => ?_
  refine q_store (vs := [s7.v]) (cs' := [s7.v]) 0 0 hF hS sz25 rfl rfl rfl rfl rfl rfl rfl rfl fun a w hF hS => ?_
  refine q_x (v := s8.v) hF hS (ex_assign rfl) rfl rfl fun a hF => ?_
  refine q_x (v := s9.v) hF hS (ex_assign rfl) rfl rfl fun a hF => ?_
  refine q_end (n_sq ?_)
  refine q_seq ?_
  refine e_region ⟨[5, 6, 8], [b11]⟩ mixed fun w' hw' => ?_
  have hS := hS.below hw'
  refine e_xb (v := (.agg #[s7.v])) 0 0 hF hS (.head _) rfl rfl (ex_loadA (vs := [s7.v]) 0 0 Try.underlying25 rfl sz25 rfl rfl rfl rfl) rfl rfl (by kernel_rfl) (by kernel_rfl) (by kernel_rfl) fun a hF => ?_
  refine e_p (v := s8.v) 1 hF rfl (ex_move rfl) rfl rfl (by kernel_rfl) (by kernel_rfl) (by kernel_rfl) fun a hF => ?_
  refine e_p (v := (.pointer (some ⟨b4, 0, none⟩))) 2 hF rfl (ex_move rfl) rfl rfl (by kernel_rfl) (by kernel_rfl) (by kernel_rfl) fun a hF => ?_
  refine e_xb (v := (.agg #[s7.v])) 3 0 hF hS (.head _) rfl rfl (ex_loadA (vs := [s7.v]) 0 0 Try.underlying25 rfl sz25 rfl rfl rfl rfl) rfl rfl (by kernel_rfl) (by kernel_rfl) (by kernel_rfl) fun a hF => ?_
  refine e_p (v := s8.v) 4 hF rfl (ex_move rfl) rfl rfl (by kernel_rfl) (by kernel_rfl) (by kernel_rfl) fun a hF => ?_
  refine e_one 5 (by kernel_rfl) ?_
  have hS : St _ _ _ _ [[⟨b4, [s1.v, (.int .i64 t_6.2.2.2.at_), (.int .u64 t_6.2.2.2.seed.v)], 58⟩], [⟨b11, [s7.v], 25⟩], q7, q9, [⟨b3, [(.int .i64 0), nilS.v, nilS.v, (.int .i64 0)], 28⟩], [⟨b2, [nilS.v], 25⟩]] := hS.sel [1, 0, 2, 3, 4, 5] (by decide)
  have hS12 : St _ _ _ _ ([[⟨b4, [s1.v, (.int .i64 t_6.2.2.2.at_), (.int .u64 t_6.2.2.2.seed.v)], 58⟩]] ++ [[⟨b11, [s7.v], 25⟩], q7, q9, [⟨b3, [(.int .i64 0), nilS.v, nilS.v, (.int .i64 0)], 28⟩], [⟨b2, [nilS.v], 25⟩]]) := hS
  obtain ⟨m12, hl12, hE12, hz12⟩ := hS12.lendX
  obtain ⟨t_13, ht_13, hr⟩ := bindS hr
  have hSo := hS
  refine e_opl rfl rfl rfl fun _ hK => wp_callX (vs := [(.pointer (some ⟨b4, 0, none⟩)), (.agg #[s7.v]), s8.v]) hF Try.func44 (by kernel_rfl) rfl rfl rfl (c_spec_l1Cur_anyTable t_6.2.2.2 t_6.1 t_6.2.1 t_13 ht_13 _ m12 b4 s1 (h10.mono hl12) s7 (h7.froz hl12 (hz12 1 _ rfl)) s8 (h8.mono hl12) _ hE12) fun a w _ hR hF => hK _ _ ?_
  obtain ⟨q14, q15, s14, s15, rfl, hR12, h14, h15, hk16⟩ := hR
  have hS : St _ _ _ _ [[⟨b4, [s1.v, (.int .i64 t_13.2.at_), (.int .u64 t_13.2.seed.v)], 58⟩], q14, q15, [⟨b11, [s7.v], 25⟩], q7, q9, [⟨b3, [(.int .i64 0), nilS.v, nilS.v, (.int .i64 0)], 28⟩], [⟨b2, [nilS.v], 25⟩]] := hS12.leaveF hR12
  have h14 := h14.any m5'
  have h15 := h15.any m5'
  have h16 : Rd m5' s1 t_13.2.code := by rw [hk16]; exact h10
  refine ⟨kpC hSo hS 1 3 rfl rfl kpN, ?_⟩
  refine e_one 6 (by kernel_rfl) ?_
  have hSo := hS
  refine e_store (vs := [s7.v]) (cs' := [s7.v]) 7 0 hF hS rfl rfl sz25 rfl rfl rfl rfl rfl rfl rfl rfl fun a w hF hS => ?_
  refine ⟨kpC hSo hS 3 3 rfl rfl kpN, ?_⟩
  refine e_p (v := s8.v) 7 hF rfl (ex_assign rfl) rfl rfl (by kernel_rfl) (by kernel_rfl) (by kernel_rfl) fun a hF => ?_
  refine e_one 8 (by kernel_rfl) ?_
  have hSo := hS
  refine e_store (vs := [(.int .i64 t_13.1.Level), s14.v, s15.v, (.int .i64 t_13.1.Sum)]) (cs' := [(.int .i64 t_13.1.Level), s14.v, s15.v, (.int .i64 t_13.1.Sum)]) 6 0 hF hS rfl rfl sz28 rfl rfl rfl rfl rfl rfl rfl rfl fun a w hF hS => ?_
  refine ⟨kpC hSo hS 3 3 rfl rfl kpN, ?_⟩
  refine e_end (by kernel_rfl) (n_sq (q_ret ?_)) _
  obtain rfl := someI hr
  exact ret_of hF hS rfl (.cellA (us := [s7.v]) 7 0 Try.underlying25 rfl sz25 rfl rfl rfl rfl (.tmp rfl (.cellA (us := [(.int .i64 t_13.1.Level), s14.v, s15.v, (.int .i64 t_13.1.Sum)]) 6 0 Try.underlying28 rfl sz28 rfl rfl rfl rfl .nil))) ⟨m5', q7, q14, q15, s7, s8, s14, s15, rfl, hm5, hS.sel [4, 1, 2] (by decide), h7, h8, h14, h15⟩

theorem c_spec_DrawCellAt (p_code : List (K .u8)) (r : impl_Geo × (List impl_Variable) × impl_Table × Int) (hr : spec_DrawCellAt p_code = some r) (w0 : World) (m : Mem) (hv : Vis m w0) (s1 : Sl) (h1 : Rd m s1 p_code) :
    Ret Try.prog 16 [s1.v] w0 (fun v w => ∃ (m' : Mem) (q0' : Piece) (q2' : Piece) (q3' : Piece) (s0' : Sl) (s1' : Sl) (s2' : Sl) (s3' : Sl), v = (.tuple #[(.agg #[s0'.v]), s1'.v, (.agg #[(.int .i64 r.2.2.1.Level), s2'.v, s3'.v, (.int .i64 r.2.2.1.Sum)]), (.int .i64 r.2.2.2)]) ∧ MLe [] w0.heap.size m m' ∧ St [] w0 w m' [q0', q2', q3'] ∧ OwnL m' 3 q0' s0' r.1.Parents ∧ Rd m' s1' r.2.1 ∧ OwnL m' 3 q2' s2' r.2.2.1.Vars ∧ OwnL m' 3 q3' s3' r.2.2.1.Where) := by
  unfold spec_DrawCellAt at hr
  refine ret_start Try.func16 rfl 38 rfl rfl m hv fun a hF hS => ?_
  refine q_seq ?_
  refine q_region ?_
  refine q_alloc (cs := [nilS.v]) hF hS rfl rfl rfl fun a w b2 hF hS => ?_
  refine q_x (v := nilS.v) hF hS (ex_assign rfl) rfl rfl fun a hF => ?_
  refine q_alloc (cs := [(.int .i64 0), nilS.v, nilS.v, (.int .i64 0)]) hF hS rfl rfl rfl fun a w b3 hF hS => ?_
  refine q_x (v := (.int .i64 0)) hF hS (ex_assign rfl) rfl rfl fun a hF => ?_
  refine q_end (n_sq ?_)
  refine q_seq ?_
  refine q_region ?_
  refine q_x (v := s1.v) hF hS (ex_move rfl) rfl rfl fun a hF => ?_
  refine q_x (v := (.agg #[s1.v, (.int .i64 0), (.int .u64 0)])) hF hS (ex_build (cells := [s1.v, (.int .i64 0), (.int .u64 0)]) rfl (by kernel_rfl)) rfl rfl fun a hF => ?_
  refine q_box (cs := [s1.v, (.int .i64 0), (.int .u64 0)]) hF hS rfl rfl rfl fun a w b4 hF hS => ?_
  refine q_x (v := (.pointer (some ⟨b4, 0, none⟩))) hF hS (ex_assign rfl) rfl rfl fun a hF => ?_
  refine q_end (n_sq ?_)
  refine q_seq ?_
  refine q_region ?_
  refine q_x (v := s1.v) hF hS (ex_move rfl) rfl rfl fun a hF => ?_
  obtain ⟨t_5, ht_5, hr⟩ := bindS hr
  refine q_call (vs := [s1.v]) hF hS Try.func46 (by kernel_rfl) rfl rfl rfl (c_spec_DrawIsTable p_code t_5 ht_5 _ m hS.vis s1 h1) ?_
  have hT := hS
  rintro a w _ ⟨m6, q7, q9, q10, s7, s8, s9, s10, rfl, hm6, hR6, h7, h8, h9, h10⟩ hF hS2
  have hS : St _ _ _ _ [q7, q9, q10, [⟨b4, [s1.v, (.int .i64 0), (.int .u64 0)], 58⟩], [⟨b3, [(.int .i64 0), nilS.v, nilS.v, (.int .i64 0)], 28⟩], [⟨b2, [nilS.v], 25⟩]] := hS.join hR6 hm6
  have hm6 := MLe.weakX (O0 := []) hT hm6
  refine q_x (v := (.tuple #[(.agg #[s7.v]), s8.v, (.agg #[(.int .i64 t_5.2.2.Level), s9.v, s10.v, (.int .i64 t_5.2.2.Sum)])])) hF hS (ex_move rfl) rfl rfl fun a hF => ?_
  refine q_x (v := (.agg #[s7.v])) hF hS (ex_extract rfl rfl) rfl rfl fun a hF => ?_
  refine q_x (v := s8.v) hF hS (ex_extract rfl rfl) rfl rfl fun a hF => ?_
  refine q_x (v := (.agg #[(.int .i64 t_5.2.2.Level), s9.v, s10.v, (.int .i64 t_5.2.2.Sum)])) hF hS (ex_extract rfl rfl) rfl rfl fun a hF => ?_
  refine q_alloc (cs := [nilS.v]) hF hS rfl rfl rfl fun a w b11 hF hS => ?_
  refine q_alloc (cs := [(.int .i64 0), nilS.v, nilS.v, (.int .i64 0)]) hF hS rfl rfl rfl fun a w b12 hF hS => ?_
  refine q_store (vs := [s7.v]) (cs' := [s7.v]) 1 0 hF hS sz25 rfl rfl rfl rfl rfl rfl rfl rfl fun a w hF hS => ?_
  refine q_x (v := s8.v) hF hS (ex_assign rfl) rfl rfl fun a hF => ?_
  refine q_store (vs := [(.int .i64 t_5.2.2.Level), s9.v, s10.v, (.int .i64 t_5.2.2.Sum)]) (cs' := [(.int .i64 t_5.2.2.Level), s9.v, s10.v, (.int .i64 t_5.2.2.Sum)]) 0 0 hF hS sz28 rfl rfl rfl rfl rfl rfl rfl rfl fun a w hF hS => ?_
  refine q_end (n_sq ?_)
  refine q_seq ?_
  refine q_seq ?_
  refine q_region ?_
  refine q_x (v := (.agg #[s7.v])) hF hS (ex_loadA (vs := [s7.v]) 1 0 Try.underlying25 rfl sz25 rfl rfl rfl rfl) rfl rfl fun a hF => ?_
  refine q_x (v := s8.v) hF hS (ex_move rfl) rfl rfl fun a hF => ?_
  refine q_x (v := (.agg #[(.int .i64 t_5.2.2.Level), s9.v, s10.v, (.int .i64 t_5.2.2.Sum)])) hF hS (ex_loadA (vs := [(.int .i64 t_5.2.2.Level), s9.v, s10.v, (.int .i64 t_5.2.2.Sum)]) 0 0 Try.underlying28 rfl sz28 rfl rfl rfl rfl) rfl rfl fun a hF => ?_
  obtain ⟨m14, hl14, hv14, hz14⟩ := hS.lend
  obtain ⟨t_13, ht_13, hr⟩ := bindS hr
  refine q_call (vs := [(.agg #[s7.v]), s8.v, (.agg #[(.int .i64 t_5.2.2.Level), s9.v, s10.v, (.int .i64 t_5.2.2.Sum)])]) hF hS Try.func23 (by kernel_rfl) rfl rfl rfl (c_spec_uGood t_5.1 t_5.2.1 t_5.2.2 t_13 ht_13 _ m14 hv14 s7 (h7.froz hl14 (hz14 2 _ rfl)) s8 (h8.mono hl14) s9 (h9.froz hl14 (hz14 3 _ rfl)) s10 (h10.froz hl14 (hz14 4 _ rfl))) ?_
  rintro a w _ rfl hF hS
  refine q_x (v := (.bool (!t_13))) hF hS (ex_not rfl) rfl rfl fun a hF => ?_
  refine q_end (n_sq ?_)
  rcases bcase (!t_13) with hc1 | hc1
  · have hr := cond_f hc1 hr
    refine q_cond_f hF rfl hc1 ?_
    refine q_skipc (n_sq ?_)
    refine q_seq ?_
    refine e_region ⟨[9, 11, 13], [b11, b12]⟩ mixed fun w' hw' => ?_
    have hS := hS.below hw'
    refine e_xb (v := (.agg #[s7.v])) 0 1 hF hS (.head _) rfl rfl (ex_loadA (vs := [s7.v]) 0 0 Try.underlying25 rfl sz25 rfl rfl rfl rfl) rfl rfl (by kernel_rfl) (by kernel_rfl) (by kernel_rfl) fun a hF => ?_
    refine e_p (v := s8.v) 1 hF rfl (ex_move rfl) rfl rfl (by kernel_rfl) (by kernel_rfl) (by kernel_rfl) fun a hF => ?_
    refine e_xb (v := (.agg #[(.int .i64 t_5.2.2.Level), s9.v, s10.v, (.int .i64 t_5.2.2.Sum)])) 2 0 hF hS (.tail _ (.head _)) rfl rfl (ex_loadA (vs := [(.int .i64 t_5.2.2.Level), s9.v, s10.v, (.int .i64 t_5.2.2.Sum)]) 0 0 Try.underlying28 rfl sz28 rfl rfl rfl rfl) rfl rfl (by kernel_rfl) (by kernel_rfl) (by kernel_rfl) fun a hF => ?_
    refine e_p (v := (.pointer (some ⟨b4, 0, none⟩))) 3 hF rfl (ex_move rfl) rfl rfl (by kernel_rfl) (by kernel_rfl) (by kernel_rfl) fun a hF => ?_
    refine e_xb (v := (.agg #[s7.v])) 4 1 hF hS (.head _) rfl rfl (ex_loadA (vs := [s7.v]) 0 0 Try.underlying25 rfl sz25 rfl rfl rfl rfl) rfl rfl (by kernel_rfl) (by kernel_rfl) (by kernel_rfl) fun a hF => ?_
    refine e_p (v := s8.v) 5 hF rfl (ex_move rfl) rfl rfl (by kernel_rfl) (by kernel_rfl) (by kernel_rfl) fun a hF => ?_
    refine e_xb (v := (.agg #[(.int .i64 t_5.2.2.Level), s9.v, s10.v, (.int .i64 t_5.2.2.Sum)])) 6 0 hF hS (.tail _ (.head _)) rfl rfl (ex_loadA (vs := [(.int .i64 t_5.2.2.Level), s9.v, s10.v, (.int .i64 t_5.2.2.Sum)]) 0 0 Try.underlying28 rfl sz28 rfl rfl rfl rfl) rfl rfl (by kernel_rfl) (by kernel_rfl) (by kernel_rfl) fun a hF => ?_
    refine e_one 7 (by kernel_rfl) ?_
    obtain ⟨m16, hl16, hv16, hz16⟩ := hS.lend
    obtain ⟨t_15, ht_15, hr⟩ := bindS hr
    refine e_call (vs := [(.agg #[s7.v]), s8.v, (.agg #[(.int .i64 t_5.2.2.Level), s9.v, s10.v, (.int .i64 t_5.2.2.Sum)])]) hF hS rfl Try.func28 (by kernel_rfl) rfl rfl rfl (c_spec_uCount t_5.1 t_5.2.1 t_5.2.2 t_15 ht_15 _ m16 hv16 s7 (h7.froz hl16 (hz16 2 _ rfl)) s8 (h8.mono hl16) s9 (h9.froz hl16 (hz16 3 _ rfl)) s10 (h10.froz hl16 (hz16 4 _ rfl))) ?_
    rintro a w _ rfl hF hS
    refine e_p (v := (.int .i64 (w64 (t_15 + 2)))) 8 hF rfl (ex_ibin rfl rfl rfl) rfl rfl (by kernel_rfl) (by kernel_rfl) (by kernel_rfl) fun a hF => ?_
    refine e_one 9 (by kernel_rfl) ?_
    have hS : St _ _ _ _ [[⟨b4, [s1.v, (.int .i64 0), (.int .u64 0)], 58⟩], [⟨b12, [(.int .i64 t_5.2.2.Level), s9.v, s10.v, (.int .i64 t_5.2.2.Sum)], 28⟩], [⟨b11, [s7.v], 25⟩], q7, q9, q10, [⟨b3, [(.int .i64 0), nilS.v, nilS.v, (.int .i64 0)], 28⟩], [⟨b2, [nilS.v], 25⟩]] := hS.sel [5, 0, 1, 2, 3, 4, 6, 7] (by decide)
    have hS17 : St _ _ _ _ ([[⟨b4, [s1.v, (.int .i64 0), (.int .u64 0)], 58⟩]] ++ [[⟨b12, [(.int .i64 t_5.2.2.Level), s9.v, s10.v, (.int .i64 t_5.2.2.Sum)], 28⟩], [⟨b11, [s7.v], 25⟩], q7, q9, q10, [⟨b3, [(.int .i64 0), nilS.v, nilS.v, (.int .i64 0)], 28⟩], [⟨b2, [nilS.v], 25⟩]]) := hS
    have hE17 := hS17.enter
    obtain ⟨t_18, ht_18, hr⟩ := bindS hr
    have hSo := hS
    refine e_opl rfl rfl rfl fun _ hK => wp_callX (vs := [(.pointer (some ⟨b4, 0, none⟩)), (.int .i64 (w64 (t_15 + 2)))]) hF Try.func27 (by kernel_rfl) rfl rfl rfl (c_spec_l1Cur_pick (spec_l1Cur.mk p_code 0 (⟨0⟩ : K .u64)) (w64 (t_15 + 2)) t_18 ht_18 _ m6 b4 s1 (h1.mono hm6.le) _ hE17) fun a w _ hR hF => hK _ _ ?_
    obtain ⟨rfl, hR17, hk19⟩ := hR
    have hS : St _ _ _ _ [[⟨b4, [s1.v, (.int .i64 t_18.2.at_), (.int .u64 t_18.2.seed.v)], 58⟩], [⟨b12, [(.int .i64 t_5.2.2.Level), s9.v, s10.v, (.int .i64 t_5.2.2.Sum)], 28⟩], [⟨b11, [s7.v], 25⟩], q7, q9, q10, [⟨b3, [(.int .i64 0), nilS.v, nilS.v, (.int .i64 0)], 28⟩], [⟨b2, [nilS.v], 25⟩]] := hS17.leaveF hR17
    have h19 : Rd m6 s1 t_18.2.code := by rw [hk19]; exact (h1.mono hm6.le)
    refine ⟨kpC hSo hS 2 2 rfl rfl (kpC hSo hS 1 1 rfl rfl kpN), ?_⟩
    refine e_p (v := (.int .i64 (w64 (t_18.1 - 1)))) 10 hF rfl (ex_ibin rfl rfl rfl) rfl rfl (by kernel_rfl) (by kernel_rfl) (by kernel_rfl) fun a hF => ?_
    refine e_one 11 (by kernel_rfl) ?_
    have hSo := hS
    refine e_store (vs := [s7.v]) (cs' := [s7.v]) 7 0 hF hS rfl rfl sz25 rfl rfl rfl rfl rfl rfl rfl rfl fun a w hF hS => ?_
    refine ⟨kpC hSo hS 2 2 rfl rfl (kpC hSo hS 1 1 rfl rfl kpN), ?_⟩
    refine e_p (v := s8.v) 12 hF rfl (ex_assign rfl) rfl rfl (by kernel_rfl) (by kernel_rfl) (by kernel_rfl) fun a hF => ?_
    refine e_one 13 (by kernel_rfl) ?_
    have hSo := hS
    refine e_store (vs := [(.int .i64 t_5.2.2.Level), s9.v, s10.v, (.int .i64 t_5.2.2.Sum)]) (cs' := [(.int .i64 t_5.2.2.Level), s9.v, s10.v, (.int .i64 t_5.2.2.Sum)]) 6 0 hF hS rfl rfl sz28 rfl rfl rfl rfl rfl rfl rfl rfl fun a w hF hS => ?_
    refine ⟨kpC hSo hS 2 2 rfl rfl (kpC hSo hS 1 1 rfl rfl kpN), ?_⟩
    refine e_p (v := (.int .i64 (w64 (t_18.1 - 1)))) 14 hF rfl (ex_assign rfl) rfl rfl (by kernel_rfl) (by kernel_rfl) (by kernel_rfl) fun a hF => ?_
    refine e_end (by kernel_rfl) (n_sq (q_ret ?_)) _
    obtain rfl := someI hr
    exact ret_of hF hS rfl (.cellA (us := [s7.v]) 7 0 Try.underlying25 rfl sz25 rfl rfl rfl rfl (.tmp rfl (.cellA (us := [(.int .i64 t_5.2.2.Level), s9.v, s10.v, (.int .i64 t_5.2.2.Sum)]) 6 0 Try.underlying28 rfl sz28 rfl rfl rfl rfl (.tmp rfl .nil)))) ⟨m6, q7, q9, q10, s7, s8, s9, s10, rfl, hm6, hS.sel [3, 4, 5] (by decide), h7, h8, h9, h10⟩
  · have hr := cond_t hc1 hr
    refine q_cond_t hF rfl hc1 ?_
    refine q_seq ?_
    refine e_region ⟨[3, 5], [b11, b12]⟩ mixed fun w' hw' => ?_
    have hS := hS.below hw'
    refine e_xb (v := (.agg #[s7.v])) 0 1 hF hS (.head _) rfl rfl (ex_loadA (vs := [s7.v]) 0 0 Try.underlying25 rfl sz25 rfl rfl rfl rfl) rfl rfl (by kernel_rfl) (by kernel_rfl) (by kernel_rfl) fun a hF => ?_
    refine e_p (v := s8.v) 1 hF rfl (ex_move rfl) rfl rfl (by kernel_rfl) (by kernel_rfl) (by kernel_rfl) fun a hF => ?_
    refine e_xb (v := (.agg #[(.int .i64 t_5.2.2.Level), s9.v, s10.v, (.int .i64 t_5.2.2.Sum)])) 2 0 hF hS (.tail _ (.head _)) rfl rfl (ex_loadA (vs := [(.int .i64 t_5.2.2.Level), s9.v, s10.v, (.int .i64 t_5.2.2.Sum)]) 0 0 Try.underlying28 rfl sz28 rfl rfl rfl rfl) rfl rfl (by kernel_rfl) (by kernel_rfl) (by kernel_rfl) fun a hF => ?_
    refine e_one 3 (by kernel_rfl) ?_
    have hSo := hS
    refine e_store (vs := [s7.v]) (cs' := [s7.v]) 7 0 hF hS rfl rfl sz25 rfl rfl rfl rfl rfl rfl rfl rfl fun a w hF hS => ?_
    refine ⟨kpC hSo hS 1 1 rfl rfl (kpC hSo hS 0 0 rfl rfl kpN), ?_⟩
    refine e_p (v := s8.v) 4 hF rfl (ex_assign rfl) rfl rfl (by kernel_rfl) (by kernel_rfl) (by kernel_rfl) fun a hF => ?_
    refine e_one 5 (by kernel_rfl) ?_
    have hSo := hS
    refine e_store (vs := [(.int .i64 t_5.2.2.Level), s9.v, s10.v, (.int .i64 t_5.2.2.Sum)]) (cs' := [(.int .i64 t_5.2.2.Level), s9.v, s10.v, (.int .i64 t_5.2.2.Sum)]) 6 0 hF hS rfl rfl sz28 rfl rfl rfl rfl rfl rfl rfl rfl fun a w hF hS => ?_
    refine ⟨kpC hSo hS 1 1 rfl rfl (kpC hSo hS 0 0 rfl rfl kpN), ?_⟩
    refine e_p (v := (.int .i64 0)) 6 hF rfl (ex_assign rfl) rfl rfl (by kernel_rfl) (by kernel_rfl) (by kernel_rfl) fun a hF => ?_
    refine e_end (by kernel_rfl) (n_sq (q_ret (r_sq ?_))) _
    obtain rfl := someI hr
    exact ret_of hF hS rfl (.cellA (us := [s7.v]) 7 0 Try.underlying25 rfl sz25 rfl rfl rfl rfl (.tmp rfl (.cellA (us := [(.int .i64 t_5.2.2.Level), s9.v, s10.v, (.int .i64 t_5.2.2.Sum)]) 6 0 Try.underlying28 rfl sz28 rfl rfl rfl rfl (.tmp rfl .nil)))) ⟨m6, q7, q9, q10, s7, s8, s9, s10, rfl, hm6, hS.sel [2, 3, 4] (by decide), h7, h8, h9, h10⟩

theorem c_impl_valuesAt (p_s : List impl_Variable) (p_i : Int) (r : (List Int)) (hr : impl_valuesAt p_s p_i = some r) (w0 : World) (m : Mem) (hv : Vis m w0) (s1 : Sl) (h1 : Rd m s1 p_s) :
    Ret Try.prog 84 [s1.v, (.int .i64 p_i)] w0 (fun v w => ∃ (q0' : Piece) (s0' : Sl), v = s0'.v ∧ St [] w0 w m [q0'] ∧ OwnL m 3 q0' s0' r) := by
  unfold impl_valuesAt at hr
  refine ret_start Try.func84 rfl 35 rfl rfl m hv fun a hF hS => ?_
  refine q_seq ?_
  refine q_region ?_
  refine q_x (v := nilS.v) hF hS (ex_assign rfl) rfl rfl fun a hF => ?_
  refine q_end (n_sq ?_)
  refine q_seq ?_
  refine q_region ?_
  refine q_x (v := s1.v) hF hS (ex_move rfl) rfl rfl fun a hF => ?_
  refine q_x (v := (.int .i64 (goLen p_s))) hF hS (ex_len Try.underlying26 rfl h1.len) rfl rfl fun a hF => ?_
  obtain ⟨l_2, hl_2, hr⟩ := bindS hr
  refine q_do rfl fun _ hK => wp_make (z := (0 : Int)) hF hS Try.underlying23 inf3 rfl rfl rfl rfl rfl (by decide) hl_2 rfl fun a w q3 s3 hF hS h3 _ => hK _ _ ?_
  refine q_x (v := s3.v) hF hS (ex_assign rfl) rfl rfl fun a hF => ?_
  refine q_end (n_sq ?_)
  refine q_seq ?_
  refine q_seq ?_
  refine q_region ?_
  refine q_x (v := s1.v) hF hS (ex_move rfl) rfl rfl fun a hF => ?_
  refine q_x (v := (.int .i64 (goLen p_s))) hF hS (ex_len Try.underlying26 rfl h1.len) rfl rfl fun a hF => ?_
  refine q_x (v := (.int .i64 (w64 ((goLen p_s) - 1)))) hF hS (ex_ibin rfl rfl rfl) rfl rfl fun a hF => ?_
  refine q_x (v := (.int .i64 (w64 ((goLen p_s) - 1)))) hF hS (ex_assign rfl) rfl rfl fun a hF => ?_
  refine q_end (n_sq ?_)
  refine q_block ?_
  obtain ⟨values_17, hl1, hr⟩ := bindS hr
  refine q_loop (fun (s : Int × (List Int) × Int) a w => ∃ (q6 : Piece), ∃ i_4, ∃ values_5, ∃ k_7, s = (i_4, values_5, k_7) ∧ Fr a 35 [(0, s1.v), (1, (.int .i64 i_4)), (5, s3.v), (6, (.int .i64 k_7))] ∧ St [] w0 w m [q6] ∧ OwnL m 3 q6 s3 values_5) (fun (values_17 : (List Int)) e a w => ∃ (q18 : Piece), e = .exit 0 ∧ Fr a 35 [(5, s3.v)] ∧ St [] w0 w m [q18] ∧ OwnL m 3 q18 s3 values_17) hl1 ⟨q3, _, _, _, rfl, hF.sub ⟨rfl, rfl, rfl, rfl, trivial⟩, hS, h3⟩ ?_ ?_
  · clear hF hS
    rintro s a w st ⟨q6, i_4, values_5, k_7, rfl, hF, hS, h6⟩ hb1
    unfold impl_valuesAt_l1 at hb1
    refine q_seq ?_
    refine q_seq ?_
    refine q_region ?_
    refine q_x (v := (.int .i64 k_7)) hF hS (ex_move rfl) rfl rfl fun a hF => ?_
    refine q_x (v := (.bool (decide (0 ≤ k_7)))) hF hS (ex_ibin rfl rfl rfl) rfl rfl fun a hF => ?_
    refine q_end (n_sq ?_)
    rcases bcase (decide (0 ≤ k_7)) with hc2 | hc2
    · have hb1 := cond_f hc2 hb1
      refine q_cond_f hF rfl hc2 ?_
      refine q_exit (x_sq ?_)
      obtain rfl := someI hb1
      exact ⟨nofun, .inl ⟨q6, rfl, hF.sub ⟨rfl, trivial⟩, hS, h6⟩⟩
    · have hb1 := cond_t hc2 hb1
      refine q_cond_t hF rfl hc2 ?_
      refine q_skipc (n_sq ?_)
      refine q_seq ?_
      refine q_block ?_
      refine q_seq ?_
      refine q_region ?_
      refine q_x (v := s3.v) hF hS (ex_move rfl) rfl rfl fun a hF => ?_
      refine q_x (v := (.int .i64 k_7)) hF hS (ex_move rfl) rfl rfl fun a hF => ?_
      refine q_x (v := (.int .i64 i_4)) hF hS (ex_move rfl) rfl rfl fun a hF => ?_
      refine q_x (v := s1.v) hF hS (ex_move rfl) rfl rfl fun a hF => ?_
      refine q_x (v := (.int .i64 k_7)) hF hS (ex_move rfl) rfl rfl fun a hF => ?_
      obtain ⟨e_8, he_8, hb1⟩ := bindS hb1
      obtain ⟨vs9, at9, d9⟩ := h1.at he_8 2 rfl
      obtain rfl : vs9 = [(strV e_8.Name), (.int .i64 e_8.Levels)] := d9
      refine q_x (v := (elP s1 (k_7.toNat * 2))) hF hS (ex_indexAddr Try.underlying26 sz104 rfl rfl (h1.idx he_8)) rfl rfl fun a hF => ?_
      refine q_x (v := (elP s1 (k_7.toNat * 2 + 1))) hF hS (ex_fieldAddrE Try.underlying104 rfl sz3 rfl (h1.idx he_8) rfl) rfl rfl fun a hF => ?_
      refine q_x (v := (.int .i64 e_8.Levels)) hF hS (ex_loadE1 1 Try.underlying3 rfl rfl ((at9).at) rfl rfl) rfl rfl fun a hF => ?_
      obtain ⟨t_10, ht_10, hb1⟩ := bindS hb1
      refine q_x (v := (.int .i64 t_10)) hF hS (ex_rem rfl rfl ht_10) rfl rfl fun a hF => ?_
      obtain ⟨e_11, he_11, hb1⟩ := bindS hb1
      obtain ⟨vs12, at12, d12⟩ := h6.at he_11 1 rfl
      obtain rfl : vs12 = [(.int .i64 e_11)] := d12
      refine q_x (v := (elP s3 (k_7.toNat * 1))) hF hS (ex_indexAddr Try.underlying23 sz3 rfl rfl (h6.idx he_11)) rfl rfl fun a hF => ?_
      refine q_do rfl fun _ hK => wp_storeE (e' := t_10) (us := [(.int .i64 t_10)]) (vs := [(.int .i64 e_11)]) 0 hF hS h6 sz3 rfl rfl rfl rfl rfl rfl rfl he_11 at12 rfl rfl rfl fun w q13 hS h13 => hK _ _ ?_
      refine q_end (n_sq ?_)
      refine q_region ?_
      refine q_x (v := (.int .i64 i_4)) hF hS (ex_move rfl) rfl rfl fun a hF => ?_
      refine q_x (v := s1.v) hF hS (ex_move rfl) rfl rfl fun a hF => ?_
      refine q_x (v := (.int .i64 k_7)) hF hS (ex_move rfl) rfl rfl fun a hF => ?_
      obtain ⟨e_14, he_14, hb1⟩ := bindS hb1
      obtain ⟨vs15, at15, d15⟩ := h1.at he_14 2 rfl
      obtain rfl : vs15 = [(strV e_14.Name), (.int .i64 e_14.Levels)] := d15
      refine q_x (v := (elP s1 (k_7.toNat * 2))) hF hS (ex_indexAddr Try.underlying26 sz104 rfl rfl (h1.idx he_14)) rfl rfl fun a hF => ?_
      refine q_x (v := (elP s1 (k_7.toNat * 2 + 1))) hF hS (ex_fieldAddrE Try.underlying104 rfl sz3 rfl (h1.idx he_14) rfl) rfl rfl fun a hF => ?_
      refine q_x (v := (.int .i64 e_14.Levels)) hF hS (ex_loadE1 1 Try.underlying3 rfl rfl ((at15).at) rfl rfl) rfl rfl fun a hF => ?_
      obtain ⟨t_16, ht_16, hb1⟩ := bindS hb1
      refine q_x (v := (.int .i64 t_16)) hF hS (ex_quo rfl rfl ht_16) rfl rfl fun a hF => ?_
      refine q_x (v := (.int .i64 t_16)) hF hS (ex_assign rfl) rfl rfl fun a hF => ?_
      refine q_end (n_ib (n_sq ?_))
      refine q_region ?_
      refine q_x (v := (.int .i64 k_7)) hF hS (ex_move rfl) rfl rfl fun a hF => ?_
      refine q_x (v := (.int .i64 (w64 (k_7 - 1)))) hF hS (ex_ibin rfl rfl rfl) rfl rfl fun a hF => ?_
      refine q_x (v := (.int .i64 (w64 (k_7 - 1)))) hF hS (ex_assign rfl) rfl rfl fun a hF => ?_
      refine q_end ?_
      obtain rfl := someI hb1
      exact ⟨rfl, q13, _, _, _, rfl, hF.sub ⟨rfl, rfl, rfl, rfl, trivial⟩, hS, h13⟩
  · rintro e a w ⟨q18, rfl, hF, hS, h18⟩
    refine x_ib (n_sq ?_)
    refine q_seq ?_
    refine q_region ?_
    refine q_x (v := s3.v) hF hS (ex_move rfl) rfl rfl fun a hF => ?_
    refine q_x (v := s3.v) hF hS (ex_assign rfl) rfl rfl fun a hF => ?_
    refine q_end (n_sq (q_ret ?_))
    obtain rfl := someI hr
    exact ret_of hF hS rfl (.tmp rfl .nil) ⟨q18, s3, rfl, hS.sel [0] (by decide), h18⟩

theorem c_impl_cellAt (p_g : impl_Geo) (p_s : List impl_Variable) (p_t : impl_Table) (p_i : Int) (r : Int × (List Int)) (hr : impl_cellAt p_g p_s p_t p_i = some r) (w0 : World) (m : Mem) (hv : Vis m w0) (s1 : Sl) (h1 : Rd m s1 p_g.Parents) (s2 : Sl) (h2 : Rd m s2 p_s) (s3 : Sl) (h3 : Rd m s3 p_t.Vars) (s4 : Sl) (h4 : Rd m s4 p_t.Where) :
    Ret Try.prog 47 [(.agg #[s1.v]), s2.v, (.agg #[(.int .i64 p_t.Level), s3.v, s4.v, (.int .i64 p_t.Sum)]), (.int .i64 p_i)] w0 (fun v w => ∃ (q0' : Piece) (s0' : Sl), v = (.tuple #[(.int .i64 r.1), s0'.v]) ∧ St [] w0 w m [q0'] ∧ OwnL m 3 q0' s0' r.2) := by
  unfold impl_cellAt at hr
  refine ret_start Try.func47 rfl 31 rfl rfl m hv fun a hF hS => ?_
  refine q_seq ?_
  refine q_region ?_
  refine q_box (cs := [s1.v]) hF hS rfl rfl rfl fun a w b5 hF hS => ?_
  refine q_box (cs := [(.int .i64 p_t.Level), s3.v, s4.v, (.int .i64 p_t.Sum)]) hF hS rfl rfl rfl fun a w b6 hF hS => ?_
  refine q_x (v := (.int .i64 0)) hF hS (ex_assign rfl) rfl rfl fun a hF => ?_
  refine q_x (v := nilS.v) hF hS (ex_assign rfl) rfl rfl fun a hF => ?_
  refine q_end (n_sq ?_)
  refine q_seq ?_
  refine q_region ?_
  refine q_x (v := s2.v) hF hS (ex_move rfl) rfl rfl fun a hF => ?_
  refine q_x (v := (.agg #[(.int .i64 p_t.Level), s3.v, s4.v, (.int .i64 p_t.Sum)])) hF hS (ex_loadA (vs := [(.int .i64 p_t.Level), s3.v, s4.v, (.int .i64 p_t.Sum)]) 0 0 Try.underlying28 rfl sz28 rfl rfl rfl rfl) rfl rfl fun a hF => ?_
  obtain ⟨t_7, ht_7, hr⟩ := bindS hr
  refine q_call (vs := [s2.v, (.agg #[(.int .i64 p_t.Level), s3.v, s4.v, (.int .i64 p_t.Sum)])]) hF hS Try.func53 (by kernel_rfl) rfl rfl rfl (c_impl_crossed p_s p_t t_7 ht_7 _ m hS.vis s2 h2 s3 h3 s4 h4) ?_
  rintro a w _ ⟨q9, s9, rfl, hR8, h9⟩ hF hS2
  have hS : St _ _ _ _ [q9, [⟨b6, [(.int .i64 p_t.Level), s3.v, s4.v, (.int .i64 p_t.Sum)], 28⟩], [⟨b5, [s1.v], 25⟩]] := hS.joinF hR8
  refine q_x (v := s9.v) hF hS (ex_assign rfl) rfl rfl fun a hF => ?_
  refine q_end (n_sq ?_)
  refine q_seq ?_
  refine q_region ?_
  refine q_x (v := s9.v) hF hS (ex_move rfl) rfl rfl fun a hF => ?_
  obtain ⟨m11, hl11, hv11, hz11⟩ := hS.lend
  obtain ⟨t_10, ht_10, hr⟩ := bindS hr
  refine q_call (vs := [s9.v]) hF hS Try.func76 (by kernel_rfl) rfl rfl rfl (c_impl_combinations t_7 t_10 ht_10 _ m11 hv11 s9 (h9.froz hl11 (hz11 0 _ rfl))) ?_
  rintro a w _ rfl hF hS
  refine q_x (v := (.int .i64 t_10)) hF hS (ex_assign rfl) rfl rfl fun a hF => ?_
  refine q_end (n_sq ?_)
  refine q_seq ?_
  refine e_region ⟨[], []⟩ mixed fun w' hw' => ?_
  have hS := hS.below hw'
  refine e_x (v := (.agg #[s1.v])) 0 hF hS rfl (ex_loadA (vs := [s1.v]) 2 0 Try.underlying25 rfl sz25 rfl rfl rfl rfl) rfl rfl (by kernel_rfl) (by kernel_rfl) (by kernel_rfl) (by kernel_rfl) fun a hF => ?_
  refine e_p (v := (.pointer (some ⟨b6, 0, none⟩))) 1 hF rfl (ex_fieldAddr Try.underlying28 rfl sz3 rfl rfl) rfl rfl (by kernel_rfl) (by kernel_rfl) (by kernel_rfl) fun a hF => ?_
  refine e_x (v := (.int .i64 p_t.Level)) 2 hF hS rfl (ex_load1 1 0 Try.underlying3 rfl rfl rfl rfl) rfl rfl (by kernel_rfl) (by kernel_rfl) (by kernel_rfl) (by kernel_rfl) fun a hF => ?_
  refine e_p (v := (.int .i64 p_i)) 4 hF rfl (ex_move rfl) rfl rfl (by kernel_rfl) (by kernel_rfl) (by kernel_rfl) fun a hF => ?_
  refine e_p (v := (.int .i64 t_10)) 5 hF rfl (ex_move rfl) rfl rfl (by kernel_rfl) (by kernel_rfl) (by kernel_rfl) fun a hF => ?_
  obtain ⟨t_21, ht_21, hr⟩ := bindS hr
  refine e_p (v := (.int .i64 t_21)) 6 hF rfl (ex_quo rfl rfl ht_21) rfl rfl (by kernel_rfl) (by kernel_rfl) (by kernel_rfl) fun a hF => ?_
  refine e_p (v := s9.v) 9 hF rfl (ex_move rfl) rfl rfl (by kernel_rfl) (by kernel_rfl) (by kernel_rfl) fun a hF => ?_
  refine e_p (v := (.int .i64 p_i)) 10 hF rfl (ex_move rfl) rfl rfl (by kernel_rfl) (by kernel_rfl) (by kernel_rfl) fun a hF => ?_
  refine e_p (v := (.int .i64 t_10)) 11 hF rfl (ex_move rfl) rfl rfl (by kernel_rfl) (by kernel_rfl) (by kernel_rfl) fun a hF => ?_
  obtain ⟨t_34, ht_34, hr⟩ := bindS hr
  refine e_p (v := (.int .i64 t_34)) 12 hF rfl (ex_rem rfl rfl ht_34) rfl rfl (by kernel_rfl) (by kernel_rfl) (by kernel_rfl) fun a hF => ?_
  refine e_one 3 (by kernel_rfl) ?_
  obtain ⟨t_35, ht_35, hr⟩ := bindS hr
  refine e_call (vs := [(.agg #[s1.v]), (.int .i64 p_t.Level)]) hF hS rfl Try.func75 (by kernel_rfl) rfl rfl rfl (c_impl_areasAt p_g p_t.Level t_35 ht_35 _ m hS.vis s1 h1) ?_
  rintro a w _ ⟨q37, s37, rfl, hR36, h37⟩ hF hS2
  have hS : St _ _ _ _ [q37, q9, [⟨b6, [(.int .i64 p_t.Level), s3.v, s4.v, (.int .i64 p_t.Sum)], 28⟩], [⟨b5, [s1.v], 25⟩]] := hS.joinF hR36
  obtain ⟨e_38, he_38, hr⟩ := bindS hr
  obtain ⟨vs39, at39, d39⟩ := h37.at he_38 1 rfl
  obtain rfl : vs39 = [(.int .i64 e_38)] := d39
  refine e_p (v := (elP s37 (t_21.toNat * 1))) 7 hF rfl (ex_indexAddr Try.underlying23 sz3 rfl rfl (h37.idx he_38)) rfl rfl (by kernel_rfl) (by kernel_rfl) (by kernel_rfl) fun a hF => ?_
  refine e_x (v := (.int .i64 e_38)) 8 hF hS rfl (ex_loadE1 0 Try.underlying3 rfl rfl (at39.at 0 rfl) rfl rfl) rfl rfl (by kernel_rfl) (by kernel_rfl) (by kernel_rfl) (by kernel_rfl) fun a hF => ?_
  refine e_one 13 (by kernel_rfl) ?_
  obtain ⟨m41, hl41, hv41, hz41⟩ := hS.lend
  obtain ⟨t_40, ht_40, hr⟩ := bindS hr
  refine e_call (vs := [s9.v, (.int .i64 t_34)]) hF hS rfl Try.func84 (by kernel_rfl) rfl rfl rfl (c_impl_valuesAt t_7 t_34 t_40 ht_40 _ m41 hv41 s9 (h9.froz hl41 (hz41 1 _ rfl))) ?_
  rintro a w _ ⟨q43, s43, rfl, hR42, h43⟩ hF hS2
  have hS : St _ _ _ _ [q43, q37, q9, [⟨b6, [(.int .i64 p_t.Level), s3.v, s4.v, (.int .i64 p_t.Sum)], 28⟩], [⟨b5, [s1.v], 25⟩]] := hS.joinF hR42
  have h43 := h43.any m
  refine e_p (v := (.int .i64 e_38)) 14 hF rfl (ex_assign rfl) rfl rfl (by kernel_rfl) (by kernel_rfl) (by kernel_rfl) fun a hF => ?_
  refine e_p (v := s43.v) 15 hF rfl (ex_assign rfl) rfl rfl (by kernel_rfl) (by kernel_rfl) (by kernel_rfl) fun a hF => ?_
  refine e_end (by kernel_rfl) (n_sq (q_ret ?_)) _
  obtain rfl := someI hr
  exact ret_of hF hS rfl (.tmp rfl (.tmp rfl .nil)) ⟨q43, s43, rfl, hS.sel [0] (by decide), h43⟩

theorem c_impl_CellAt (p_g : impl_Geo) (p_s : List impl_Variable) (p_t : impl_Table) (p_i : Int) (r : Int × (List Int) × Bool) (hr : impl_CellAt p_g p_s p_t p_i = some r) (w0 : World) (m : Mem) (hv : Vis m w0) (s1 : Sl) (h1 : Rd m s1 p_g.Parents) (s2 : Sl) (h2 : Rd m s2 p_s) (s3 : Sl) (h3 : Rd m s3 p_t.Vars) (s4 : Sl) (h4 : Rd m s4 p_t.Where) :
    Ret Try.prog 17 [(.agg #[s1.v]), s2.v, (.agg #[(.int .i64 p_t.Level), s3.v, s4.v, (.int .i64 p_t.Sum)]), (.int .i64 p_i)] w0 (fun v w => ∃ (q0' : Piece) (s0' : Sl), v = (.tuple #[(.int .i64 r.1), s0'.v, (.bool r.2.2)]) ∧ St [] w0 w m [q0'] ∧ OwnL m 3 q0' s0' r.2.1) := by
  unfold impl_CellAt at hr
  refine ret_start Try.func17 rfl 40 rfl rfl m hv fun a hF hS => ?_
  refine q_seq ?_
  refine q_region ?_
  refine q_box (cs := [s1.v]) hF hS rfl rfl rfl fun a w b5 hF hS => ?_
  refine q_box (cs := [(.int .i64 p_t.Level), s3.v, s4.v, (.int .i64 p_t.Sum)]) hF hS rfl rfl rfl fun a w b6 hF hS => ?_
  refine q_x (v := (.int .i64 0)) hF hS (ex_assign rfl) rfl rfl fun a hF => ?_
  refine q_x (v := nilS.v) hF hS (ex_assign rfl) rfl rfl fun a hF => ?_
  refine q_x (v := (.bool false)) hF hS (ex_assign rfl) rfl rfl fun a hF => ?_
  refine q_end (n_sq ?_)
  refine q_seq ?_
  refine q_seq ?_
  obtain ⟨t_9, hj1, hr⟩ := bindS hr
  refine q_join (fun a w => Fr a 40 [(1, s2.v), (3, (.int .i64 p_i)), (4, (.pointer (some ⟨b5, 0, none⟩))), (6, (.pointer (some ⟨b6, 0, none⟩))), (29, (.bool t_9))] ∧ St [] w0 w m [[⟨b6, [(.int .i64 p_t.Level), s3.v, s4.v, (.int .i64 p_t.Sum)], 28⟩], [⟨b5, [s1.v], 25⟩]]) ?_ ?_
  · refine q_region ?_
    refine q_x (v := (.agg #[s1.v])) hF hS (ex_loadA (vs := [s1.v]) 1 0 Try.underlying25 rfl sz25 rfl rfl rfl rfl) rfl rfl fun a hF => ?_
    refine q_x (v := s2.v) hF hS (ex_move rfl) rfl rfl fun a hF => ?_
    refine q_x (v := (.agg #[(.int .i64 p_t.Level), s3.v, s4.v, (.int .i64 p_t.Sum)])) hF hS (ex_loadA (vs := [(.int .i64 p_t.Level), s3.v, s4.v, (.int .i64 p_t.Sum)]) 0 0 Try.underlying28 rfl sz28 rfl rfl rfl rfl) rfl rfl fun a hF => ?_
    obtain ⟨t_7, ht_7, hj1⟩ := bindS hj1
    refine q_call (vs := [(.agg #[s1.v]), s2.v, (.agg #[(.int .i64 p_t.Level), s3.v, s4.v, (.int .i64 p_t.Sum)])]) hF hS Try.func29 (by kernel_rfl) rfl rfl rfl (c_impl_areTabled p_g p_s p_t t_7 ht_7 _ m hS.vis s1 h1 s2 h2 s3 h3 s4 h4) ?_
    rintro a w _ rfl hF hS
    refine q_x (v := (.bool (!t_7))) hF hS (ex_not rfl) rfl rfl fun a hF => ?_
    refine q_x (v := (.bool (!t_7))) hF hS (ex_move rfl) rfl rfl fun a hF => ?_
    rcases bcase (!t_7) with hc2 | hc2
    · have hj1 := cond_f hc2 hj1
      refine q_xg (v := (.int .i64 p_i)) hF hS (ex_move rfl) (wanted_t hF rfl rfl rfl hc2) rfl fun a hF => ?_
      refine q_xg (v := (.bool (decide (p_i < 0)))) hF hS (ex_ibin rfl rfl rfl) (wanted_t hF rfl rfl rfl hc2) rfl fun a hF => ?_
      refine q_x (v := (.bool (decide (p_i < 0)))) hF hS (ex_pick_f rfl rfl hc2) rfl rfl fun a hF => ?_
      refine q_x (v := (.bool (decide (p_i < 0)))) hF hS (ex_move rfl) rfl rfl fun a hF => ?_
      rcases bcase (decide (p_i < 0)) with hc3 | hc3
      · have hj1 := cond_f hc3 hj1
        refine q_xg (v := (.int .i64 p_i)) hF hS (ex_move rfl) (wanted_t hF rfl rfl rfl hc3) rfl fun a hF => ?_
        refine q_xg (v := (.agg #[s1.v])) hF hS (ex_loadA (vs := [s1.v]) 1 0 Try.underlying25 rfl sz25 rfl rfl rfl rfl) (wanted_t hF rfl rfl rfl hc3) rfl fun a hF => ?_
        refine q_xg (v := s2.v) hF hS (ex_move rfl) (wanted_t hF rfl rfl rfl hc3) rfl fun a hF => ?_
        refine q_xg (v := (.agg #[(.int .i64 p_t.Level), s3.v, s4.v, (.int .i64 p_t.Sum)])) hF hS (ex_loadA (vs := [(.int .i64 p_t.Level), s3.v, s4.v, (.int .i64 p_t.Sum)]) 0 0 Try.underlying28 rfl sz28 rfl rfl rfl rfl) (wanted_t hF rfl rfl rfl hc3) rfl fun a hF => ?_
        obtain ⟨t_8, ht_8, hj1⟩ := bindS hj1
        refine q_callg (vs := [(.agg #[s1.v]), s2.v, (.agg #[(.int .i64 p_t.Level), s3.v, s4.v, (.int .i64 p_t.Sum)])]) hF hS (wanted_t hF rfl rfl rfl hc3) Try.func31 (by kernel_rfl) rfl rfl rfl (c_impl_cellCount p_g p_s p_t t_8 ht_8 _ m hS.vis s1 h1 s2 h2 s3 h3 s4 h4) ?_
        rintro a w _ rfl hF hS
        refine q_xg (v := (.bool (decide (t_8 ≤ p_i)))) hF hS (ex_ibin rfl rfl rfl) (wanted_t hF rfl rfl rfl hc3) rfl fun a hF => ?_
        refine q_x (v := (.bool (decide (t_8 ≤ p_i)))) hF hS (ex_pick_f rfl rfl hc3) rfl rfl fun a hF => ?_
        refine q_end (n_jn ?_)
        obtain rfl := someI hj1
        exact ⟨hF.sub ⟨rfl, rfl, rfl, rfl, rfl, trivial⟩, hS⟩
      · have hj1 := cond_t hc3 hj1
        refine q_skip hF (wanted_f hF rfl rfl rfl hc3 rfl) rfl fun a hF => ?_
        refine q_skip hF (wanted_f hF rfl rfl rfl hc3 rfl) rfl fun a hF => ?_
        refine q_skip hF (wanted_f hF rfl rfl rfl hc3 rfl) rfl fun a hF => ?_
        refine q_skip hF (wanted_f hF rfl rfl rfl hc3 rfl) rfl fun a hF => ?_
        refine q_skip hF (wanted_f hF rfl rfl rfl hc3 rfl) rfl fun a hF => ?_
        refine q_skip hF (wanted_f hF rfl rfl rfl hc3 rfl) rfl fun a hF => ?_
        refine q_x (v := (.bool true)) hF hS (ex_pick_t rfl rfl hc3) rfl rfl fun a hF => ?_
        refine q_end (n_jn ?_)
        obtain rfl := someI hj1
        exact ⟨hF.sub ⟨rfl, rfl, rfl, rfl, rfl, trivial⟩, hS⟩
    · have hj1 := cond_t hc2 hj1
      refine q_skip hF (wanted_f hF rfl rfl rfl hc2 rfl) rfl fun a hF => ?_
      refine q_skip hF (wanted_f hF rfl rfl rfl hc2 rfl) rfl fun a hF => ?_
      refine q_x (v := (.bool true)) hF hS (ex_pick_t rfl rfl hc2) rfl rfl fun a hF => ?_
      refine q_x (v := (.bool true)) hF hS (ex_move rfl) rfl rfl fun a hF => ?_
      refine q_skip hF (wanted_f hF rfl rfl rfl rfl rfl) rfl fun a hF => ?_
      refine q_skip hF (wanted_f hF rfl rfl rfl rfl rfl) rfl fun a hF => ?_
      refine q_skip hF (wanted_f hF rfl rfl rfl rfl rfl) rfl fun a hF => ?_
      refine q_skip hF (wanted_f hF rfl rfl rfl rfl rfl) rfl fun a hF => ?_
      refine q_skip hF (wanted_f hF rfl rfl rfl rfl rfl) rfl fun a hF => ?_
      refine q_skip hF (wanted_f hF rfl rfl rfl rfl rfl) rfl fun a hF => ?_
      refine q_x (v := (.bool true)) hF hS (ex_pick_t rfl rfl rfl) rfl rfl fun a hF => ?_
      refine q_end (n_jn ?_)
      obtain rfl := someI hj1
      exact ⟨hF.sub ⟨rfl, rfl, rfl, rfl, rfl, trivial⟩, hS⟩
  · rintro a w ⟨hF, hS⟩
    refine n_sq ?_
    rcases bcase (t_9) with hc4 | hc4
    · have hr := cond_f hc4 hr
      refine q_cond_f hF rfl hc4 ?_
      refine q_skipc (n_sq ?_)
      refine q_seq ?_
      refine q_region ?_
      refine q_x (v := (.agg #[s1.v])) hF hS (ex_loadA (vs := [s1.v]) 1 0 Try.underlying25 rfl sz25 rfl rfl rfl rfl) rfl rfl fun a hF => ?_
      refine q_x (v := s2.v) hF hS (ex_move rfl) rfl rfl fun a hF => ?_
      refine q_x (v := (.agg #[(.int .i64 p_t.Level), s3.v, s4.v, (.int .i64 p_t.Sum)])) hF hS (ex_loadA (vs := [(.int .i64 p_t.Level), s3.v, s4.v, (.int .i64 p_t.Sum)]) 0 0 Try.underlying28 rfl sz28 rfl rfl rfl rfl) rfl rfl fun a hF => ?_
      refine q_x (v := (.int .i64 p_i)) hF hS (ex_move rfl) rfl rfl fun a hF => ?_
      obtain ⟨t_10, ht_10, hr⟩ := bindS hr
      refine q_call (vs := [(.agg #[s1.v]), s2.v, (.agg #[(.int .i64 p_t.Level), s3.v, s4.v, (.int .i64 p_t.Sum)]), (.int .i64 p_i)]) hF hS Try.func47 (by kernel_rfl) rfl rfl rfl (c_impl_cellAt p_g p_s p_t p_i t_10 ht_10 _ m hS.vis s1 h1 s2 h2 s3 h3 s4 h4) ?_
      rintro a w _ ⟨q12, s12, rfl, hR11, h12⟩ hF hS2
      have hS : St _ _ _ _ [q12, [⟨b6, [(.int .i64 p_t.Level), s3.v, s4.v, (.int .i64 p_t.Sum)], 28⟩], [⟨b5, [s1.v], 25⟩]] := hS.joinF hR11
      refine q_x (v := (.tuple #[(.int .i64 t_10.1), s12.v])) hF hS (ex_move rfl) rfl rfl fun a hF => ?_
      refine q_x (v := (.int .i64 t_10.1)) hF hS (ex_extract rfl rfl) rfl rfl fun a hF => ?_
      refine q_x (v := s12.v) hF hS (ex_extract rfl rfl) rfl rfl fun a hF => ?_
      refine q_x (v := (.int .i64 t_10.1)) hF hS (ex_assign rfl) rfl rfl fun a hF => ?_
      refine q_x (v := s12.v) hF hS (ex_assign rfl) rfl rfl fun a hF => ?_
      refine q_end (n_sq ?_)
      refine q_seq ?_
      refine q_region ?_
      refine q_x (v := (.int .i64 t_10.1)) hF hS (ex_move rfl) rfl rfl fun a hF => ?_
      refine q_x (v := s12.v) hF hS (ex_move rfl) rfl rfl fun a hF => ?_
      refine q_x (v := (.int .i64 t_10.1)) hF hS (ex_assign rfl) rfl rfl fun a hF => ?_
      refine q_x (v := s12.v) hF hS (ex_assign rfl) rfl rfl fun a hF => ?_
      refine q_x (v := (.bool true)) hF hS (ex_assign rfl) rfl rfl fun a hF => ?_
      refine q_end (n_sq (q_ret ?_))
      obtain rfl := someI hr
      exact ret_of hF hS rfl (.tmp rfl (.tmp rfl (.tmp rfl .nil))) ⟨q12, s12, rfl, hS.sel [0] (by decide), h12⟩
    · have hr := cond_t hc4 hr
      refine q_cond_t hF rfl hc4 ?_
      refine q_seq ?_
      refine q_region ?_
      refine q_x (v := (.int .i64 0)) hF hS (ex_assign rfl) rfl rfl fun a hF => ?_
      refine q_x (v := nilS.v) hF hS (ex_assign rfl) rfl rfl fun a hF => ?_
      refine q_x (v := (.bool false)) hF hS (ex_assign rfl) rfl rfl fun a hF => ?_
      refine q_end (n_sq (q_ret (r_sq ?_)))
      obtain rfl := someI hr
      exact ret_of hF hS rfl (.tmp rfl (.tmp rfl (.tmp rfl .nil))) ⟨[], nilS, rfl, hS.sel [2] (by decide), (OwnL.nil (α := Int) m 3)⟩

theorem c_spec_sAt (p_s : List impl_Variable) (p_i : Int) (r : (List Int)) (hr : spec_sAt p_s p_i = some r) (w0 : World) (m : Mem) (hv : Vis m w0) (s1 : Sl) (h1 : Rd m s1 p_s) :
    Ret Try.prog 51 [s1.v, (.int .i64 p_i)] w0 (fun v w => ∃ (q0' : Piece) (s0' : Sl), v = s0'.v ∧ St [] w0 w m [q0'] ∧ OwnL m 3 q0' s0' r) := by
  unfold spec_sAt at hr
  refine ret_start Try.func51 rfl 35 rfl rfl m hv fun a hF hS => ?_
  refine q_seq ?_
  refine q_region ?_
  refine q_x (v := nilS.v) hF hS (ex_assign rfl) rfl rfl fun a hF => ?_
  refine q_end (n_sq ?_)
  refine q_seq ?_
  refine q_region ?_
  refine q_x (v := s1.v) hF hS (ex_move rfl) rfl rfl fun a hF => ?_
  refine q_x (v := (.int .i64 (goLen p_s))) hF hS (ex_len Try.underlying26 rfl h1.len) rfl rfl fun a hF => ?_
  obtain ⟨l_2, hl_2, hr⟩ := bindS hr
  refine q_do rfl fun _ hK => wp_make (z := (0 : Int)) hF hS Try.underlying23 inf3 rfl rfl rfl rfl rfl (by decide) hl_2 rfl fun a w q3 s3 hF hS h3 _ => hK _ _ ?_
  refine q_x (v := s3.v) hF hS (ex_assign rfl) rfl rfl fun a hF => ?_
  refine q_end (n_sq ?_)
  refine q_seq ?_
  refine q_seq ?_
  refine q_region ?_
  refine q_x (v := s1.v) hF hS (ex_move rfl) rfl rfl fun a hF => ?_
  refine q_x (v := (.int .i64 (goLen p_s))) hF hS (ex_len Try.underlying26 rfl h1.len) rfl rfl fun a hF => ?_
  refine q_x (v := (.int .i64 (w64 ((goLen p_s) - 1)))) hF hS (ex_ibin rfl rfl rfl) rfl rfl fun a hF => ?_
  refine q_x (v := (.int .i64 (w64 ((goLen p_s) - 1)))) hF hS (ex_assign rfl) rfl rfl fun a hF => ?_
  refine q_end (n_sq ?_)
  refine q_block ?_
  obtain ⟨out_17, hl1, hr⟩ := bindS hr
  refine q_loop (fun (s : Int × (List Int) × Int) a w => ∃ (q6 : Piece), ∃ i_4, ∃ out_5, ∃ k_7, s = (i_4, out_5, k_7) ∧ Fr a 35 [(0, s1.v), (1, (.int .i64 i_4)), (5, s3.v), (6, (.int .i64 k_7))] ∧ St [] w0 w m [q6] ∧ OwnL m 3 q6 s3 out_5) (fun (out_17 : (List Int)) e a w => ∃ (q18 : Piece), e = .exit 0 ∧ Fr a 35 [(5, s3.v)] ∧ St [] w0 w m [q18] ∧ OwnL m 3 q18 s3 out_17) hl1 ⟨q3, _, _, _, rfl, hF.sub ⟨rfl, rfl, rfl, rfl, trivial⟩, hS, h3⟩ ?_ ?_
  · clear hF hS
    rintro s a w st ⟨q6, i_4, out_5, k_7, rfl, hF, hS, h6⟩ hb1
    unfold spec_sAt_l1 at hb1
    refine q_seq ?_
    refine q_seq ?_
    refine q_region ?_
    refine q_x (v := (.int .i64 k_7)) hF hS (ex_move rfl) rfl rfl fun a hF => ?_
    refine q_x (v := (.bool (decide (0 ≤ k_7)))) hF hS (ex_ibin rfl rfl rfl) rfl rfl fun a hF => ?_
    refine q_end (n_sq ?_)
    rcases bcase (decide (0 ≤ k_7)) with hc2 | hc2
    · have hb1 := cond_f hc2 hb1
      refine q_cond_f hF rfl hc2 ?_
      refine q_exit (x_sq ?_)
      obtain rfl := someI hb1
      exact ⟨nofun, .inl ⟨q6, rfl, hF.sub ⟨rfl, trivial⟩, hS, h6⟩⟩
    · have hb1 := cond_t hc2 hb1
      refine q_cond_t hF rfl hc2 ?_
      refine q_skipc (n_sq ?_)
      refine q_seq ?_
      refine q_block ?_
      refine q_seq ?_
      refine q_region ?_
      refine q_x (v := s3.v) hF hS (ex_move rfl) rfl rfl fun a hF => ?_
      refine q_x (v := (.int .i64 k_7)) hF hS (ex_move rfl) rfl rfl fun a hF => ?_
      refine q_x (v := (.int .i64 i_4)) hF hS (ex_move rfl) rfl rfl fun a hF => ?_
      refine q_x (v := s1.v) hF hS (ex_move rfl) rfl rfl fun a hF => ?_
      refine q_x (v := (.int .i64 k_7)) hF hS (ex_move rfl) rfl rfl fun a hF => ?_
      obtain ⟨e_8, he_8, hb1⟩ := bindS hb1
      obtain ⟨vs9, at9, d9⟩ := h1.at he_8 2 rfl
      obtain rfl : vs9 = [(strV e_8.Name), (.int .i64 e_8.Levels)] := d9
      refine q_x (v := (elP s1 (k_7.toNat * 2))) hF hS (ex_indexAddr Try.underlying26 sz104 rfl rfl (h1.idx he_8)) rfl rfl fun a hF => ?_
      refine q_x (v := (elP s1 (k_7.toNat * 2 + 1))) hF hS (ex_fieldAddrE Try.underlying104 rfl sz3 rfl (h1.idx he_8) rfl) rfl rfl fun a hF => ?_
      refine q_x (v := (.int .i64 e_8.Levels)) hF hS (ex_loadE1 1 Try.underlying3 rfl rfl ((at9).at) rfl rfl) rfl rfl fun a hF => ?_
      obtain ⟨t_10, ht_10, hb1⟩ := bindS hb1
      refine q_x (v := (.int .i64 t_10)) hF hS (ex_rem rfl rfl ht_10) rfl rfl fun a hF => ?_
      obtain ⟨e_11, he_11, hb1⟩ := bindS hb1
      obtain ⟨vs12, at12, d12⟩ := h6.at he_11 1 rfl
      obtain rfl : vs12 = [(.int .i64 e_11)] := d12
      refine q_x (v := (elP s3 (k_7.toNat * 1))) hF hS (ex_indexAddr Try.underlying23 sz3 rfl rfl (h6.idx he_11)) rfl rfl fun a hF => ?_
      refine q_do rfl fun _ hK => wp_storeE (e' := t_10) (us := [(.int .i64 t_10)]) (vs := [(.int .i64 e_11)]) 0 hF hS h6 sz3 rfl rfl rfl rfl rfl rfl rfl he_11 at12 rfl rfl rfl fun w q13 hS h13 => hK _ _ ?_
      refine q_end (n_sq ?_)
      refine q_region ?_
      refine q_x (v := (.int .i64 i_4)) hF hS (ex_move rfl) rfl rfl fun a hF => ?_
      refine q_x (v := s1.v) hF hS (ex_move rfl) rfl rfl fun a hF => ?_
      refine q_x (v := (.int .i64 k_7)) hF hS (ex_move rfl) rfl rfl fun a hF => ?_
      obtain ⟨e_14, he_14, hb1⟩ := bindS hb1
      obtain ⟨vs15, at15, d15⟩ := h1.at he_14 2 rfl
      obtain rfl : vs15 = [(strV e_14.Name), (.int .i64 e_14.Levels)] := d15
      refine q_x (v := (elP s1 (k_7.toNat * 2))) hF hS (ex_indexAddr Try.underlying26 sz104 rfl rfl (h1.idx he_14)) rfl rfl fun a hF => ?_
      refine q_x (v := (elP s1 (k_7.toNat * 2 + 1))) hF hS (ex_fieldAddrE Try.underlying104 rfl sz3 rfl (h1.idx he_14) rfl) rfl rfl fun a hF => ?_
      refine q_x (v := (.int .i64 e_14.Levels)) hF hS (ex_loadE1 1 Try.underlying3 rfl rfl ((at15).at) rfl rfl) rfl rfl fun a hF => ?_
      obtain ⟨t_16, ht_16, hb1⟩ := bindS hb1
      refine q_x (v := (.int .i64 t_16)) hF hS (ex_quo rfl rfl ht_16) rfl rfl fun a hF => ?_
      refine q_x (v := (.int .i64 t_16)) hF hS (ex_assign rfl) rfl rfl fun a hF => ?_
      refine q_end (n_ib (n_sq ?_))
      refine q_region ?_
      refine q_x (v := (.int .i64 k_7)) hF hS (ex_move rfl) rfl rfl fun a hF => ?_
      refine q_x (v := (.int .i64 (w64 (k_7 - 1)))) hF hS (ex_ibin rfl rfl rfl) rfl rfl fun a hF => ?_
      refine q_x (v := (.int .i64 (w64 (k_7 - 1)))) hF hS (ex_assign rfl) rfl rfl fun a hF => ?_
      refine q_end ?_
      obtain rfl := someI hb1
      exact ⟨rfl, q13, _, _, _, rfl, hF.sub ⟨rfl, rfl, rfl, rfl, trivial⟩, hS, h13⟩
  · rintro e a w ⟨q18, rfl, hF, hS, h18⟩
    refine x_ib (n_sq ?_)
    refine q_seq ?_
    refine q_region ?_
    refine q_x (v := s3.v) hF hS (ex_move rfl) rfl rfl fun a hF => ?_
    refine q_x (v := s3.v) hF hS (ex_assign rfl) rfl rfl fun a hF => ?_
    refine q_end (n_sq (q_ret ?_))
    obtain rfl := someI hr
    exact ret_of hF hS rfl (.tmp rfl .nil) ⟨q18, s3, rfl, hS.sel [0] (by decide), h18⟩

theorem c_spec_CellAt (p_g : impl_Geo) (p_s : List impl_Variable) (p_t : impl_Table) (p_i : Int) (r : Int × (List Int) × Bool) (hr : spec_CellAt p_g p_s p_t p_i = some r) (w0 : World) (m : Mem) (hv : Vis m w0) (s1 : Sl) (h1 : Rd m s1 p_g.Parents) (s2 : Sl) (h2 : Rd m s2 p_s) (s3 : Sl) (h3 : Rd m s3 p_t.Vars) (s4 : Sl) (h4 : Rd m s4 p_t.Where) :
    Ret Try.prog 18 [(.agg #[s1.v]), s2.v, (.agg #[(.int .i64 p_t.Level), s3.v, s4.v, (.int .i64 p_t.Sum)]), (.int .i64 p_i)] w0 (fun v w => ∃ (q0' : Piece) (s0' : Sl), v = (.tuple #[(.int .i64 r.1), s0'.v, (.bool r.2.2)]) ∧ St [] w0 w m [q0'] ∧ OwnL m 3 q0' s0' r.2.1) := by
  unfold spec_CellAt at hr
  refine ret_start Try.func18 rfl 48 rfl rfl m hv fun a hF hS => ?_
  refine q_seq ?_
  refine q_region ?_
  refine q_box (cs := [s1.v]) hF hS rfl rfl rfl fun a w b5 hF hS => ?_
  refine q_box (cs := [(.int .i64 p_t.Level), s3.v, s4.v, (.int .i64 p_t.Sum)]) hF hS rfl rfl rfl fun a w b6 hF hS => ?_
  refine q_x (v := (.int .i64 0)) hF hS (ex_assign rfl) rfl rfl fun a hF => ?_
  refine q_x (v := nilS.v) hF hS (ex_assign rfl) rfl rfl fun a hF => ?_
  refine q_x (v := (.bool false)) hF hS (ex_assign rfl) rfl rfl fun a hF => ?_
  refine q_end (n_sq ?_)
  refine q_seq ?_
  refine q_seq ?_
  obtain ⟨t_10, hj1, hr⟩ := bindS hr
  refine q_join (fun a w => Fr a 48 [(1, s2.v), (3, (.int .i64 p_i)), (4, (.pointer (some ⟨b5, 0, none⟩))), (6, (.pointer (some ⟨b6, 0, none⟩))), (27, (.bool t_10))] ∧ St [] w0 w m [[⟨b6, [(.int .i64 p_t.Level), s3.v, s4.v, (.int .i64 p_t.Sum)], 28⟩], [⟨b5, [s1.v], 25⟩]]) ?_ ?_
  · refine q_region ?_
    refine q_x (v := (.agg #[s1.v])) hF hS (ex_loadA (vs := [s1.v]) 1 0 Try.underlying25 rfl sz25 rfl rfl rfl rfl) rfl rfl fun a hF => ?_
    refine q_x (v := s2.v) hF hS (ex_move rfl) rfl rfl fun a hF => ?_
    refine q_x (v := (.agg #[(.int .i64 p_t.Level), s3.v, s4.v, (.int .i64 p_t.Sum)])) hF hS (ex_loadA (vs := [(.int .i64 p_t.Level), s3.v, s4.v, (.int .i64 p_t.Sum)]) 0 0 Try.underlying28 rfl sz28 rfl rfl rfl rfl) rfl rfl fun a hF => ?_
    obtain ⟨t_7, ht_7, hj1⟩ := bindS hj1
    refine q_call (vs := [(.agg #[s1.v]), s2.v, (.agg #[(.int .i64 p_t.Level), s3.v, s4.v, (.int .i64 p_t.Sum)])]) hF hS Try.func23 (by kernel_rfl) rfl rfl rfl (c_spec_uGood p_g p_s p_t t_7 ht_7 _ m hS.vis s1 h1 s2 h2 s3 h3 s4 h4) ?_
    rintro a w _ rfl hF hS
    refine q_x (v := (.bool (!t_7))) hF hS (ex_not rfl) rfl rfl fun a hF => ?_
    refine q_x (v := (.bool (!t_7))) hF hS (ex_move rfl) rfl rfl fun a hF => ?_
    rcases bcase (!t_7) with hc2 | hc2
    · have hj1 := cond_f hc2 hj1
      refine q_xg (v := (.int .i64 p_i)) hF hS (ex_move rfl) (wanted_t hF rfl rfl rfl hc2) rfl fun a hF => ?_
      refine q_xg (v := (.agg #[s1.v])) hF hS (ex_loadA (vs := [s1.v]) 1 0 Try.underlying25 rfl sz25 rfl rfl rfl rfl) (wanted_t hF rfl rfl rfl hc2) rfl fun a hF => ?_
      refine q_xg (v := s2.v) hF hS (ex_move rfl) (wanted_t hF rfl rfl rfl hc2) rfl fun a hF => ?_
      refine q_xg (v := (.agg #[(.int .i64 p_t.Level), s3.v, s4.v, (.int .i64 p_t.Sum)])) hF hS (ex_loadA (vs := [(.int .i64 p_t.Level), s3.v, s4.v, (.int .i64 p_t.Sum)]) 0 0 Try.underlying28 rfl sz28 rfl rfl rfl rfl) (wanted_t hF rfl rfl rfl hc2) rfl fun a hF => ?_
      obtain ⟨t_8, ht_8, hj1⟩ := bindS hj1
      refine q_callg (vs := [(.agg #[s1.v]), s2.v, (.agg #[(.int .i64 p_t.Level), s3.v, s4.v, (.int .i64 p_t.Sum)])]) hF hS (wanted_t hF rfl rfl rfl hc2) Try.func28 (by kernel_rfl) rfl rfl rfl (c_spec_uCount p_g p_s p_t t_8 ht_8 _ m hS.vis s1 h1 s2 h2 s3 h3 s4 h4) ?_
      rintro a w _ rfl hF hS
      refine q_xg (v := (.int .i64 (w64 (t_8 - 1)))) hF hS (ex_ibin rfl rfl rfl) (wanted_t hF rfl rfl rfl hc2) rfl fun a hF => ?_
      obtain ⟨t_9, ht_9, hj1⟩ := bindS hj1
      refine q_callg (vs := [(.int .i64 p_i), (.int .i64 0), (.int .i64 (w64 (t_8 - 1)))]) hF hS (wanted_t hF rfl rfl rfl hc2) Try.func33 (by kernel_rfl) rfl rfl rfl (c_spec_l1In p_i 0 (w64 (t_8 - 1)) t_9 ht_9 _ m hS.vis) ?_
      rintro a w _ rfl hF hS
      refine q_xg (v := (.bool (!t_9))) hF hS (ex_not rfl) (wanted_t hF rfl rfl rfl hc2) rfl fun a hF => ?_
      refine q_x (v := (.bool (!t_9))) hF hS (ex_pick_f rfl rfl hc2) rfl rfl fun a hF => ?_
      refine q_end (n_jn ?_)
      obtain rfl := someI hj1
      exact ⟨hF.sub ⟨rfl, rfl, rfl, rfl, rfl, trivial⟩, hS⟩
    · have hj1 := cond_t hc2 hj1
      refine q_skip hF (wanted_f hF rfl rfl rfl hc2 rfl) rfl fun a hF => ?_
      refine q_skip hF (wanted_f hF rfl rfl rfl hc2 rfl) rfl fun a hF => ?_
      refine q_skip hF (wanted_f hF rfl rfl rfl hc2 rfl) rfl fun a hF => ?_
      refine q_skip hF (wanted_f hF rfl rfl rfl hc2 rfl) rfl fun a hF => ?_
      refine q_skip hF (wanted_f hF rfl rfl rfl hc2 rfl) rfl fun a hF => ?_
      refine q_skip hF (wanted_f hF rfl rfl rfl hc2 rfl) rfl fun a hF => ?_
      refine q_skip hF (wanted_f hF rfl rfl rfl hc2 rfl) rfl fun a hF => ?_
      refine q_skip hF (wanted_f hF rfl rfl rfl hc2 rfl) rfl fun a hF => ?_
      refine q_x (v := (.bool true)) hF hS (ex_pick_t rfl rfl hc2) rfl rfl fun a hF => ?_
      refine q_end (n_jn ?_)
      obtain rfl := someI hj1
      exact ⟨hF.sub ⟨rfl, rfl, rfl, rfl, rfl, trivial⟩, hS⟩
  · rintro a w ⟨hF, hS⟩
    refine n_sq ?_
    rcases bcase (t_10) with hc3 | hc3
    · have hr := cond_f hc3 hr
      refine q_cond_f hF rfl hc3 ?_
      refine q_skipc (n_sq ?_)
      refine q_seq ?_
      refine q_region ?_
      refine q_x (v := s2.v) hF hS (ex_move rfl) rfl rfl fun a hF => ?_
      refine q_x (v := (.pointer (some ⟨b6, 1, none⟩))) hF hS (ex_fieldAddr Try.underlying28 rfl sz23 rfl rfl) rfl rfl fun a hF => ?_
      refine q_x (v := s3.v) hF hS (ex_load1 0 0 Try.underlying23 rfl rfl rfl rfl) rfl rfl fun a hF => ?_
      obtain ⟨t_11, ht_11, hr⟩ := bindS hr
      refine q_call (vs := [s2.v, s3.v]) hF hS Try.func48 (by kernel_rfl) rfl rfl rfl (c_spec_sPart p_s p_t.Vars t_11 ht_11 _ m hS.vis s2 h2 s3 h3) ?_
      rintro a w _ ⟨q13, s13, rfl, hR12, h13⟩ hF hS2
      have hS : St _ _ _ _ [q13, [⟨b6, [(.int .i64 p_t.Level), s3.v, s4.v, (.int .i64 p_t.Sum)], 28⟩], [⟨b5, [s1.v], 25⟩]] := hS.joinF hR12
      refine q_x (v := s13.v) hF hS (ex_assign rfl) rfl rfl fun a hF => ?_
      refine q_end (n_sq ?_)
      refine q_seq ?_
      refine q_region ?_
      refine q_x (v := s13.v) hF hS (ex_move rfl) rfl rfl fun a hF => ?_
      obtain ⟨m15, hl15, hv15, hz15⟩ := hS.lend
      obtain ⟨t_14, ht_14, hr⟩ := bindS hr
      refine q_call (vs := [s13.v]) hF hS Try.func49 (by kernel_rfl) rfl rfl rfl (c_spec_sCount t_11 t_14 ht_14 _ m15 hv15 s13 (h13.froz hl15 (hz15 0 _ rfl))) ?_
      rintro a w _ rfl hF hS
      refine q_x (v := (.int .i64 t_14)) hF hS (ex_assign rfl) rfl rfl fun a hF => ?_
      refine q_end (n_sq ?_)
      refine q_seq ?_
      refine e_region ⟨[], []⟩ mixed fun w' hw' => ?_
      have hS := hS.below hw'
      refine e_x (v := (.agg #[s1.v])) 0 hF hS rfl (ex_loadA (vs := [s1.v]) 2 0 Try.underlying25 rfl sz25 rfl rfl rfl rfl) rfl rfl (by kernel_rfl) (by kernel_rfl) (by kernel_rfl) (by kernel_rfl) fun a hF => ?_
      refine e_p (v := (.pointer (some ⟨b6, 0, none⟩))) 1 hF rfl (ex_fieldAddr Try.underlying28 rfl sz3 rfl rfl) rfl rfl (by kernel_rfl) (by kernel_rfl) (by kernel_rfl) fun a hF => ?_
      refine e_x (v := (.int .i64 p_t.Level)) 2 hF hS rfl (ex_load1 1 0 Try.underlying3 rfl rfl rfl rfl) rfl rfl (by kernel_rfl) (by kernel_rfl) (by kernel_rfl) (by kernel_rfl) fun a hF => ?_
      refine e_p (v := (.int .i64 p_i)) 4 hF rfl (ex_move rfl) rfl rfl (by kernel_rfl) (by kernel_rfl) (by kernel_rfl) fun a hF => ?_
      refine e_p (v := (.int .i64 t_14)) 5 hF rfl (ex_move rfl) rfl rfl (by kernel_rfl) (by kernel_rfl) (by kernel_rfl) fun a hF => ?_
      obtain ⟨t_25, ht_25, hr⟩ := bindS hr
      refine e_p (v := (.int .i64 t_25)) 6 hF rfl (ex_quo rfl rfl ht_25) rfl rfl (by kernel_rfl) (by kernel_rfl) (by kernel_rfl) fun a hF => ?_
      refine e_p (v := s13.v) 9 hF rfl (ex_move rfl) rfl rfl (by kernel_rfl) (by kernel_rfl) (by kernel_rfl) fun a hF => ?_
      refine e_p (v := (.int .i64 p_i)) 10 hF rfl (ex_move rfl) rfl rfl (by kernel_rfl) (by kernel_rfl) (by kernel_rfl) fun a hF => ?_
      refine e_p (v := (.int .i64 t_14)) 11 hF rfl (ex_move rfl) rfl rfl (by kernel_rfl) (by kernel_rfl) (by kernel_rfl) fun a hF => ?_
      obtain ⟨t_38, ht_38, hr⟩ := bindS hr
      refine e_p (v := (.int .i64 t_38)) 12 hF rfl (ex_rem rfl rfl ht_38) rfl rfl (by kernel_rfl) (by kernel_rfl) (by kernel_rfl) fun a hF => ?_
      refine e_one 3 (by kernel_rfl) ?_
      obtain ⟨t_39, ht_39, hr⟩ := bindS hr
      refine e_call (vs := [(.agg #[s1.v]), (.int .i64 p_t.Level)]) hF hS rfl Try.func50 (by kernel_rfl) rfl rfl rfl (c_spec_gLevel p_g p_t.Level t_39 ht_39 _ m hS.vis s1 h1) ?_
      rintro a w _ ⟨q41, s41, rfl, hR40, h41⟩ hF hS2
      have hS : St _ _ _ _ [q41, q13, [⟨b6, [(.int .i64 p_t.Level), s3.v, s4.v, (.int .i64 p_t.Sum)], 28⟩], [⟨b5, [s1.v], 25⟩]] := hS.joinF hR40
      obtain ⟨e_42, he_42, hr⟩ := bindS hr
      obtain ⟨vs43, at43, d43⟩ := h41.at he_42 1 rfl
      obtain rfl : vs43 = [(.int .i64 e_42)] := d43
      refine e_p (v := (elP s41 (t_25.toNat * 1))) 7 hF rfl (ex_indexAddr Try.underlying23 sz3 rfl rfl (h41.idx he_42)) rfl rfl (by kernel_rfl) (by kernel_rfl) (by kernel_rfl) fun a hF => ?_
      refine e_x (v := (.int .i64 e_42)) 8 hF hS rfl (ex_loadE1 0 Try.underlying3 rfl rfl (at43.at 0 rfl) rfl rfl) rfl rfl (by kernel_rfl) (by kernel_rfl) (by kernel_rfl) (by kernel_rfl) fun a hF => ?_
      refine e_one 13 (by kernel_rfl) ?_
      obtain ⟨m45, hl45, hv45, hz45⟩ := hS.lend
      obtain ⟨t_44, ht_44, hr⟩ := bindS hr
      refine e_call (vs := [s13.v, (.int .i64 t_38)]) hF hS rfl Try.func51 (by kernel_rfl) rfl rfl rfl (c_spec_sAt t_11 t_38 t_44 ht_44 _ m45 hv45 s13 (h13.froz hl45 (hz45 1 _ rfl))) ?_
      rintro a w _ ⟨q47, s47, rfl, hR46, h47⟩ hF hS2
      have hS : St _ _ _ _ [q47, q41, q13, [⟨b6, [(.int .i64 p_t.Level), s3.v, s4.v, (.int .i64 p_t.Sum)], 28⟩], [⟨b5, [s1.v], 25⟩]] := hS.joinF hR46
      have h47 := h47.any m
      refine e_p (v := (.int .i64 e_42)) 14 hF rfl (ex_assign rfl) rfl rfl (by kernel_rfl) (by kernel_rfl) (by kernel_rfl) fun a hF => ?_
      refine e_p (v := s47.v) 15 hF rfl (ex_assign rfl) rfl rfl (by kernel_rfl) (by kernel_rfl) (by kernel_rfl) fun a hF => ?_
      refine e_p (v := (.bool true)) 16 hF rfl (ex_assign rfl) rfl rfl (by kernel_rfl) (by kernel_rfl) (by kernel_rfl) fun a hF => ?_
      refine e_end (by kernel_rfl) (n_sq (q_ret ?_)) _
      obtain rfl := someI hr
      exact ret_of hF hS rfl (.tmp rfl (.tmp rfl (.tmp rfl .nil))) ⟨q47, s47, rfl, hS.sel [0] (by decide), h47⟩
    · have hr := cond_t hc3 hr
      refine q_cond_t hF rfl hc3 ?_
      refine q_seq ?_
      refine q_region ?_
      refine q_x (v := (.int .i64 0)) hF hS (ex_assign rfl) rfl rfl fun a hF => ?_
      refine q_x (v := nilS.v) hF hS (ex_assign rfl) rfl rfl fun a hF => ?_
      refine q_x (v := (.bool false)) hF hS (ex_assign rfl) rfl rfl fun a hF => ?_
      refine q_end (n_sq (q_ret (r_sq ?_)))
      obtain rfl := someI hr
      exact ret_of hF hS rfl (.tmp rfl (.tmp rfl (.tmp rfl .nil))) ⟨[], nilS, rfl, hS.sel [2] (by decide), (OwnL.nil (α := Int) m 3)⟩

theorem c_laws_qInts (p_a : List Int) (p_b : List Int) (r : Bool) (hr : laws_qInts p_a p_b = some r) (w0 : World) (m : Mem) (hv : Vis m w0) (s1 : Sl) (h1 : Rd m s1 p_a) (s2 : Sl) (h2 : Rd m s2 p_b) :
    Ret Try.prog 11 [s1.v, s2.v] w0 (fun v _ => v = (.bool r)) := by
  unfold laws_qInts at hr
  refine ret_start Try.func11 rfl 26 rfl rfl m hv fun a hF hS => ?_
  refine q_seq ?_
  refine q_region ?_
  refine q_x (v := (.bool false)) hF hS (ex_assign rfl) rfl rfl fun a hF => ?_
  refine q_end (n_sq ?_)
  refine q_seq ?_
  refine q_seq ?_
  refine q_region ?_
  refine q_x (v := s1.v) hF hS (ex_move rfl) rfl rfl fun a hF => ?_
  refine q_x (v := (.int .i64 (goLen p_a))) hF hS (ex_len Try.underlying23 rfl h1.len) rfl rfl fun a hF => ?_
  refine q_x (v := s2.v) hF hS (ex_move rfl) rfl rfl fun a hF => ?_
  refine q_x (v := (.int .i64 (goLen p_b))) hF hS (ex_len Try.underlying23 rfl h2.len) rfl rfl fun a hF => ?_
  refine q_x (v := (.bool ((goLen p_a) != (goLen p_b)))) hF hS (ex_ibin rfl rfl rfl) rfl rfl fun a hF => ?_
  refine q_end (n_sq ?_)
  rcases bcase ((goLen p_a) != (goLen p_b)) with hc1 | hc1
  · have hr := cond_f hc1 hr
    refine q_cond_f hF rfl hc1 ?_
    refine q_skipc (n_sq ?_)
    refine q_seq ?_
    refine q_seq ?_
    refine q_region ?_
    refine q_x (v := s1.v) hF hS (ex_move rfl) rfl rfl fun a hF => ?_
    refine q_x (v := (.int .i64 (goLen p_a))) hF hS (ex_len Try.underlying23 rfl h1.len) rfl rfl fun a hF => ?_
    refine q_x (v := (.int .i64 0)) hF hS (ex_move rfl) rfl rfl fun a hF => ?_
    refine q_end (n_sq ?_)
    refine q_block ?_
    obtain ⟨o2, hl2, hr⟩ := bindS hr
    refine q_loop (fun (t_3 : Int) a w => Fr a 26 [(0, s1.v), (1, s2.v), (12, (.int .i64 (goLen p_a))), (13, (.int .i64 t_3))] ∧ St [] w0 w m []) (fun (o : (Unit) ⊕ (Bool)) e a w => o = .inl () ∧ e = .exit 0 ∧ Fr a 26 [] ∧ St [] w0 w m []) hl2 ⟨hF.sub ⟨rfl, rfl, rfl, rfl, trivial⟩, hS⟩ ?_ ?_
    · clear hF hS
      rintro t_3 a w st ⟨hF, hS⟩ hb2
      unfold laws_qInts_l1 at hb2
      refine q_seq ?_
      refine q_region ?_
      refine q_x (v := (.bool (decide (t_3 < (goLen p_a))))) hF hS (ex_ibin rfl rfl rfl) rfl rfl fun a hF => ?_
      refine q_end (n_sq ?_)
      refine q_seq ?_
      rcases bcase (decide (t_3 < (goLen p_a))) with hc3 | hc3
      · have hb2 := cond_f hc3 hb2
        refine q_cond_f hF rfl hc3 ?_
        refine q_exit (x_sq ?_)
        obtain rfl := someI hb2
        exact ⟨nofun, .inl ⟨rfl, rfl, hF.sub trivial, hS⟩⟩
      · have hb2 := cond_t hc3 hb2
        refine q_cond_t hF rfl hc3 ?_
        refine q_skipc (n_sq ?_)
        refine q_seq ?_
        refine q_block ?_
        refine q_seq ?_
        refine q_region ?_
        refine q_x (v := (.int .i64 t_3)) hF hS (ex_move rfl) rfl rfl fun a hF => ?_
        refine q_x (v := (.int .i64 t_3)) hF hS (ex_assign rfl) rfl rfl fun a hF => ?_
        refine q_end (n_sq ?_)
        refine q_seq ?_
        refine e_region ⟨[], []⟩ mixed fun w' hw' => ?_
        have hS := hS.below hw'
        refine e_p (v := s1.v) 0 hF rfl (ex_move rfl) rfl rfl (by kernel_rfl) (by kernel_rfl) (by kernel_rfl) fun a hF => ?_
        refine e_p (v := (.int .i64 t_3)) 1 hF rfl (ex_move rfl) rfl rfl (by kernel_rfl) (by kernel_rfl) (by kernel_rfl) fun a hF => ?_
        obtain ⟨e_4, he_4, hb2⟩ := bindS hb2
        obtain ⟨vs5, at5, d5⟩ := h1.at he_4 1 rfl
        obtain rfl : vs5 = [(.int .i64 e_4)] := d5
        refine e_p (v := (elP s1 (t_3.toNat * 1))) 2 hF rfl (ex_indexAddr Try.underlying23 sz3 rfl rfl (h1.idx he_4)) rfl rfl (by kernel_rfl) (by kernel_rfl) (by kernel_rfl) fun a hF => ?_
        refine e_x (v := (.int .i64 e_4)) 3 hF hS rfl (ex_loadE1 0 Try.underlying3 rfl rfl ((at5).at) rfl rfl) rfl rfl (by kernel_rfl) (by kernel_rfl) (by kernel_rfl) (by kernel_rfl) fun a hF => ?_
        refine e_p (v := s2.v) 4 hF rfl (ex_move rfl) rfl rfl (by kernel_rfl) (by kernel_rfl) (by kernel_rfl) fun a hF => ?_
        refine e_p (v := (.int .i64 t_3)) 5 hF rfl (ex_move rfl) rfl rfl (by kernel_rfl) (by kernel_rfl) (by kernel_rfl) fun a hF => ?_
        obtain ⟨e_6, he_6, hb2⟩ := bindS hb2
        obtain ⟨vs7, at7, d7⟩ := h2.at he_6 1 rfl
        obtain rfl : vs7 = [(.int .i64 e_6)] := d7
        refine e_p (v := (elP s2 (t_3.toNat * 1))) 6 hF rfl (ex_indexAddr Try.underlying23 sz3 rfl rfl (h2.idx he_6)) rfl rfl (by kernel_rfl) (by kernel_rfl) (by kernel_rfl) fun a hF => ?_
        refine e_x (v := (.int .i64 e_6)) 7 hF hS rfl (ex_loadE1 0 Try.underlying3 rfl rfl ((at7).at) rfl rfl) rfl rfl (by kernel_rfl) (by kernel_rfl) (by kernel_rfl) (by kernel_rfl) fun a hF => ?_
        refine e_p (v := (.bool (e_4 != e_6))) 8 hF rfl (ex_ibin rfl rfl rfl) rfl rfl (by kernel_rfl) (by kernel_rfl) (by kernel_rfl) fun a hF => ?_
        refine e_end (by kernel_rfl) (n_sq ?_) _
        rcases bcase (e_4 != e_6) with hc4 | hc4
        · have hb2 := cond_f hc4 hb2
          refine q_cond_f hF rfl hc4 ?_
          refine q_skipc (n_ib (n_sq ?_))
          refine q_region ?_
          refine q_x (v := (.int .i64 (w64 (t_3 + 1)))) hF hS (ex_ibin rfl rfl rfl) rfl rfl fun a hF => ?_
          refine q_x (v := (.int .i64 (w64 (t_3 + 1)))) hF hS (ex_move rfl) rfl rfl fun a hF => ?_
          refine q_end ?_
          obtain rfl := someI hb2
          exact ⟨rfl, hF.sub ⟨rfl, rfl, rfl, rfl, trivial⟩, hS⟩
        · have hb2 := cond_t hc4 hb2
          refine q_cond_t hF rfl hc4 ?_
          refine q_seq ?_
          refine q_region ?_
          refine q_x (v := (.bool false)) hF hS (ex_assign rfl) rfl rfl fun a hF => ?_
          refine q_end (n_sq (q_ret (r_ib (r_sq ?_))))
          obtain rfl := someI hb2
          refine ⟨nofun, .inr fun ho => ?_⟩
          subst ho
          refine r_ib (r_sq ?_)
          obtain rfl := someI hr
          exact ret_of hF hS rfl (.tmp rfl .nil) rfl
    · rintro e a w ⟨rfl, rfl, hF, hS⟩
      refine x_ib (n_sq ?_)
      refine q_seq ?_
      refine q_region ?_
      refine q_x (v := (.bool true)) hF hS (ex_assign rfl) rfl rfl fun a hF => ?_
      refine q_end (n_sq (q_ret ?_))
      obtain rfl := someI hr
      exact ret_of hF hS rfl (.tmp rfl .nil) rfl
  · have hr := cond_t hc1 hr
    refine q_cond_t hF rfl hc1 ?_
    refine q_seq ?_
    refine q_region ?_
    refine q_x (v := (.bool false)) hF hS (ex_assign rfl) rfl rfl fun a hF => ?_
    refine q_end (n_sq (q_ret (r_sq ?_)))
    obtain rfl := someI hr
    exact ret_of hF hS rfl (.tmp rfl .nil) rfl

theorem c_impl_CellIndex (p_g : impl_Geo) (p_s : List impl_Variable) (p_t : impl_Table) (p_area : Int) (p_values : List Int) (r : Int × Bool) (hr : impl_CellIndex p_g p_s p_t p_area p_values = some r) (w0 : World) (m : Mem) (hv : Vis m w0) (s1 : Sl) (h1 : Rd m s1 p_g.Parents) (s2 : Sl) (h2 : Rd m s2 p_s) (s3 : Sl) (h3 : Rd m s3 p_t.Vars) (s4 : Sl) (h4 : Rd m s4 p_t.Where) (s5 : Sl) (h5 : Rd m s5 p_values) :
    Ret Try.prog 19 [(.agg #[s1.v]), s2.v, (.agg #[(.int .i64 p_t.Level), s3.v, s4.v, (.int .i64 p_t.Sum)]), (.int .i64 p_area), s5.v] w0 (fun v _ => v = (.tuple #[(.int .i64 r.1), (.bool r.2)])) := by
  unfold impl_CellIndex at hr
  refine ret_start Try.func19 rfl 35 rfl rfl m hv fun a hF hS => ?_
  refine q_seq ?_
  refine q_region ?_
  refine q_box (cs := [s1.v]) hF hS rfl rfl rfl fun a w b6 hF hS => ?_
  refine q_box (cs := [(.int .i64 p_t.Level), s3.v, s4.v, (.int .i64 p_t.Sum)]) hF hS rfl rfl rfl fun a w b7 hF hS => ?_
  refine q_x (v := (.int .i64 0)) hF hS (ex_assign rfl) rfl rfl fun a hF => ?_
  refine q_x (v := (.bool false)) hF hS (ex_assign rfl) rfl rfl fun a hF => ?_
  refine q_end (n_sq ?_)
  refine q_seq ?_
  refine q_seq ?_
  obtain ⟨t_14, hj1, hr⟩ := bindS hr
  refine q_join (fun a w => Fr a 35 [(1, s2.v), (3, (.int .i64 p_area)), (4, s5.v), (5, (.pointer (some ⟨b6, 0, none⟩))), (7, (.pointer (some ⟨b7, 0, none⟩))), (25, (.bool t_14))] ∧ St [] w0 w m [[⟨b7, [(.int .i64 p_t.Level), s3.v, s4.v, (.int .i64 p_t.Sum)], 28⟩], [⟨b6, [s1.v], 25⟩]]) ?_ ?_
  · refine q_region ?_
    refine q_x (v := (.agg #[s1.v])) hF hS (ex_loadA (vs := [s1.v]) 1 0 Try.underlying25 rfl sz25 rfl rfl rfl rfl) rfl rfl fun a hF => ?_
    refine q_x (v := s2.v) hF hS (ex_move rfl) rfl rfl fun a hF => ?_
    refine q_x (v := (.agg #[(.int .i64 p_t.Level), s3.v, s4.v, (.int .i64 p_t.Sum)])) hF hS (ex_loadA (vs := [(.int .i64 p_t.Level), s3.v, s4.v, (.int .i64 p_t.Sum)]) 0 0 Try.underlying28 rfl sz28 rfl rfl rfl rfl) rfl rfl fun a hF => ?_
    obtain ⟨t_8, ht_8, hj1⟩ := bindS hj1
    refine q_call (vs := [(.agg #[s1.v]), s2.v, (.agg #[(.int .i64 p_t.Level), s3.v, s4.v, (.int .i64 p_t.Sum)])]) hF hS Try.func29 (by kernel_rfl) rfl rfl rfl (c_impl_areTabled p_g p_s p_t t_8 ht_8 _ m hS.vis s1 h1 s2 h2 s3 h3 s4 h4) ?_
    rintro a w _ rfl hF hS
    refine q_x (v := (.bool (!t_8))) hF hS (ex_not rfl) rfl rfl fun a hF => ?_
    refine q_x (v := (.bool (!t_8))) hF hS (ex_move rfl) rfl rfl fun a hF => ?_
    rcases bcase (!t_8) with hc2 | hc2
    · have hj1 := cond_f hc2 hj1
      refine q_xg (v := s2.v) hF hS (ex_move rfl) (wanted_t hF rfl rfl rfl hc2) rfl fun a hF => ?_
      refine q_xg (v := (.agg #[(.int .i64 p_t.Level), s3.v, s4.v, (.int .i64 p_t.Sum)])) hF hS (ex_loadA (vs := [(.int .i64 p_t.Level), s3.v, s4.v, (.int .i64 p_t.Sum)]) 0 0 Try.underlying28 rfl sz28 rfl rfl rfl rfl) (wanted_t hF rfl rfl rfl hc2) rfl fun a hF => ?_
      obtain ⟨t_9, ht_9, hj1⟩ := bindS hj1
      refine q_callg (vs := [s2.v, (.agg #[(.int .i64 p_t.Level), s3.v, s4.v, (.int .i64 p_t.Sum)])]) hF hS (wanted_t hF rfl rfl rfl hc2) Try.func53 (by kernel_rfl) rfl rfl rfl (c_impl_crossed p_s p_t t_9 ht_9 _ m hS.vis s2 h2 s3 h3 s4 h4) ?_
      rintro a w _ ⟨q11, s11, rfl, hR10, h11⟩ hF hS2
      have hS : St _ _ _ _ [q11, [⟨b7, [(.int .i64 p_t.Level), s3.v, s4.v, (.int .i64 p_t.Sum)], 28⟩], [⟨b6, [s1.v], 25⟩]] := hS.joinF hR10
      refine q_xg (v := s5.v) hF hS (ex_move rfl) (wanted_t hF rfl rfl rfl hc2) rfl fun a hF => ?_
      obtain ⟨m13, hl13, hv13, hz13⟩ := hS.lend
      obtain ⟨t_12, ht_12, hj1⟩ := bindS hj1
      refine q_callg (vs := [s11.v, s5.v]) hF hS (wanted_t hF rfl rfl rfl hc2) Try.func52 (by kernel_rfl) rfl rfl rfl (c_impl_areValues t_9 p_values t_12 ht_12 _ m13 hv13 s11 (h11.froz hl13 (hz13 0 _ rfl)) s5 (h5.mono hl13)) ?_
      rintro a w _ rfl hF hS
      refine q_xg (v := (.bool (!t_12))) hF hS (ex_not rfl) (wanted_t hF rfl rfl rfl hc2) rfl fun a hF => ?_
      refine q_x (v := (.bool (!t_12))) hF hS (ex_pick_f rfl rfl hc2) rfl rfl fun a hF => ?_
      refine q_end (n_jn ?_)
      obtain rfl := someI hj1
      exact ⟨hF.sub ⟨rfl, rfl, rfl, rfl, rfl, rfl, trivial⟩, hS.mask [false, true, true]⟩
    · have hj1 := cond_t hc2 hj1
      refine q_skip hF (wanted_f hF rfl rfl rfl hc2 rfl) rfl fun a hF => ?_
      refine q_skip hF (wanted_f hF rfl rfl rfl hc2 rfl) rfl fun a hF => ?_
      refine q_skip hF (wanted_f hF rfl rfl rfl hc2 rfl) rfl fun a hF => ?_
      refine q_skip hF (wanted_f hF rfl rfl rfl hc2 rfl) rfl fun a hF => ?_
      refine q_skip hF (wanted_f hF rfl rfl rfl hc2 rfl) rfl fun a hF => ?_
      refine q_skip hF (wanted_f hF rfl rfl rfl hc2 rfl) rfl fun a hF => ?_
      refine q_x (v := (.bool true)) hF hS (ex_pick_t rfl rfl hc2) rfl rfl fun a hF => ?_
      refine q_end (n_jn ?_)
      obtain rfl := someI hj1
      exact ⟨hF.sub ⟨rfl, rfl, rfl, rfl, rfl, rfl, trivial⟩, hS⟩
  · rintro a w ⟨hF, hS⟩
    refine n_sq ?_
    rcases bcase (t_14) with hc3 | hc3
    · have hr := cond_f hc3 hr
      refine q_cond_f hF rfl hc3 ?_
      refine q_skipc (n_sq ?_)
      refine q_seq ?_
      refine q_region ?_
      refine q_x (v := (.agg #[s1.v])) hF hS (ex_loadA (vs := [s1.v]) 1 0 Try.underlying25 rfl sz25 rfl rfl rfl rfl) rfl rfl fun a hF => ?_
      refine q_x (v := s2.v) hF hS (ex_move rfl) rfl rfl fun a hF => ?_
      refine q_x (v := (.agg #[(.int .i64 p_t.Level), s3.v, s4.v, (.int .i64 p_t.Sum)])) hF hS (ex_loadA (vs := [(.int .i64 p_t.Level), s3.v, s4.v, (.int .i64 p_t.Sum)]) 0 0 Try.underlying28 rfl sz28 rfl rfl rfl rfl) rfl rfl fun a hF => ?_
      refine q_x (v := (.int .i64 p_area)) hF hS (ex_move rfl) rfl rfl fun a hF => ?_
      refine q_x (v := s5.v) hF hS (ex_move rfl) rfl rfl fun a hF => ?_
      obtain ⟨t_15, ht_15, hr⟩ := bindS hr
      refine q_call (vs := [(.agg #[s1.v]), s2.v, (.agg #[(.int .i64 p_t.Level), s3.v, s4.v, (.int .i64 p_t.Sum)]), (.int .i64 p_area), s5.v]) hF hS Try.func54 (by kernel_rfl) rfl rfl rfl (c_impl_cellIndex p_g p_s p_t p_area p_values t_15 ht_15 _ m hS.vis s1 h1 s2 h2 s3 h3 s4 h4 s5 h5) ?_
      rintro a w _ rfl hF hS
      refine q_x (v := (.int .i64 t_15)) hF hS (ex_assign rfl) rfl rfl fun a hF => ?_
      refine q_end (n_sq ?_)
      refine q_seq ?_
      refine q_seq ?_
      refine q_region ?_
      refine q_x (v := (.int .i64 t_15)) hF hS (ex_move rfl) rfl rfl fun a hF => ?_
      refine q_x (v := (.bool (decide (t_15 < 0)))) hF hS (ex_ibin rfl rfl rfl) rfl rfl fun a hF => ?_
      refine q_end (n_sq ?_)
      rcases bcase (decide (t_15 < 0)) with hc4 | hc4
      · have hr := cond_f hc4 hr
        refine q_cond_f hF rfl hc4 ?_
        refine q_skipc (n_sq ?_)
        refine q_seq ?_
        refine q_region ?_
        refine q_x (v := (.int .i64 t_15)) hF hS (ex_move rfl) rfl rfl fun a hF => ?_
        refine q_x (v := (.int .i64 t_15)) hF hS (ex_assign rfl) rfl rfl fun a hF => ?_
        refine q_x (v := (.bool true)) hF hS (ex_assign rfl) rfl rfl fun a hF => ?_
        refine q_end (n_sq (q_ret ?_))
        obtain rfl := someI hr
        exact ret_of hF hS rfl (.tmp rfl (.tmp rfl .nil)) rfl
      · have hr := cond_t hc4 hr
        refine q_cond_t hF rfl hc4 ?_
        refine q_seq ?_
        refine q_region ?_
        refine q_x (v := (.int .i64 0)) hF hS (ex_assign rfl) rfl rfl fun a hF => ?_
        refine q_x (v := (.bool false)) hF hS (ex_assign rfl) rfl rfl fun a hF => ?_
        refine q_end (n_sq (q_ret (r_sq ?_)))
        obtain rfl := someI hr
        exact ret_of hF hS rfl (.tmp rfl (.tmp rfl .nil)) rfl
    · have hr := cond_t hc3 hr
      refine q_cond_t hF rfl hc3 ?_
      refine q_seq ?_
      refine q_region ?_
      refine q_x (v := (.int .i64 0)) hF hS (ex_assign rfl) rfl rfl fun a hF => ?_
      refine q_x (v := (.bool false)) hF hS (ex_assign rfl) rfl rfl fun a hF => ?_
      refine q_end (n_sq (q_ret (r_sq ?_)))
      obtain rfl := someI hr
      exact ret_of hF hS rfl (.tmp rfl (.tmp rfl .nil)) rfl

theorem c_impl_CellCount (p_g : impl_Geo) (p_s : List impl_Variable) (p_t : impl_Table) (r : Int × Bool) (hr : impl_CellCount p_g p_s p_t = some r) (w0 : World) (m : Mem) (hv : Vis m w0) (s1 : Sl) (h1 : Rd m s1 p_g.Parents) (s2 : Sl) (h2 : Rd m s2 p_s) (s3 : Sl) (h3 : Rd m s3 p_t.Vars) (s4 : Sl) (h4 : Rd m s4 p_t.Where) :
    Ret Try.prog 20 [(.agg #[s1.v]), s2.v, (.agg #[(.int .i64 p_t.Level), s3.v, s4.v, (.int .i64 p_t.Sum)])] w0 (fun v _ => v = (.tuple #[(.int .i64 r.1), (.bool r.2)])) := by
  unfold impl_CellCount at hr
  refine ret_start Try.func20 rfl 17 rfl rfl m hv fun a hF hS => ?_
  refine q_seq ?_
  refine q_region ?_
  refine q_box (cs := [s1.v]) hF hS rfl rfl rfl fun a w b5 hF hS => ?_
  refine q_box (cs := [(.int .i64 p_t.Level), s3.v, s4.v, (.int .i64 p_t.Sum)]) hF hS rfl rfl rfl fun a w b6 hF hS => ?_
  refine q_x (v := (.int .i64 0)) hF hS (ex_assign rfl) rfl rfl fun a hF => ?_
  refine q_x (v := (.bool false)) hF hS (ex_assign rfl) rfl rfl fun a hF => ?_
  refine q_end (n_sq ?_)
  refine q_seq ?_
  refine q_seq ?_
  refine q_region ?_
  refine q_x (v := (.agg #[s1.v])) hF hS (ex_loadA (vs := [s1.v]) 1 0 Try.underlying25 rfl sz25 rfl rfl rfl rfl) rfl rfl fun a hF => ?_
  refine q_x (v := s2.v) hF hS (ex_move rfl) rfl rfl fun a hF => ?_
  refine q_x (v := (.agg #[(.int .i64 p_t.Level), s3.v, s4.v, (.int .i64 p_t.Sum)])) hF hS (ex_loadA (vs := [(.int .i64 p_t.Level), s3.v, s4.v, (.int .i64 p_t.Sum)]) 0 0 Try.underlying28 rfl sz28 rfl rfl rfl rfl) rfl rfl fun a hF => ?_
  obtain ⟨t_7, ht_7, hr⟩ := bindS hr
  refine q_call (vs := [(.agg #[s1.v]), s2.v, (.agg #[(.int .i64 p_t.Level), s3.v, s4.v, (.int .i64 p_t.Sum)])]) hF hS Try.func29 (by kernel_rfl) rfl rfl rfl (c_impl_areTabled p_g p_s p_t t_7 ht_7 _ m hS.vis s1 h1 s2 h2 s3 h3 s4 h4) ?_
  rintro a w _ rfl hF hS
  refine q_x (v := (.bool (!t_7))) hF hS (ex_not rfl) rfl rfl fun a hF => ?_
  refine q_end (n_sq ?_)
  rcases bcase (!t_7) with hc1 | hc1
  · have hr := cond_f hc1 hr
    refine q_cond_f hF rfl hc1 ?_
    refine q_skipc (n_sq ?_)
    refine q_seq ?_
    refine q_region ?_
    refine q_x (v := (.agg #[s1.v])) hF hS (ex_loadA (vs := [s1.v]) 1 0 Try.underlying25 rfl sz25 rfl rfl rfl rfl) rfl rfl fun a hF => ?_
    refine q_x (v := s2.v) hF hS (ex_move rfl) rfl rfl fun a hF => ?_
    refine q_x (v := (.agg #[(.int .i64 p_t.Level), s3.v, s4.v, (.int .i64 p_t.Sum)])) hF hS (ex_loadA (vs := [(.int .i64 p_t.Level), s3.v, s4.v, (.int .i64 p_t.Sum)]) 0 0 Try.underlying28 rfl sz28 rfl rfl rfl rfl) rfl rfl fun a hF => ?_
    obtain ⟨t_8, ht_8, hr⟩ := bindS hr
    refine q_call (vs := [(.agg #[s1.v]), s2.v, (.agg #[(.int .i64 p_t.Level), s3.v, s4.v, (.int .i64 p_t.Sum)])]) hF hS Try.func31 (by kernel_rfl) rfl rfl rfl (c_impl_cellCount p_g p_s p_t t_8 ht_8 _ m hS.vis s1 h1 s2 h2 s3 h3 s4 h4) ?_
    rintro a w _ rfl hF hS
    refine q_x (v := (.int .i64 t_8)) hF hS (ex_assign rfl) rfl rfl fun a hF => ?_
    refine q_x (v := (.bool true)) hF hS (ex_assign rfl) rfl rfl fun a hF => ?_
    refine q_end (n_sq (q_ret ?_))
    obtain rfl := someI hr
    exact ret_of hF hS rfl (.tmp rfl (.tmp rfl .nil)) rfl
  · have hr := cond_t hc1 hr
    refine q_cond_t hF rfl hc1 ?_
    refine q_seq ?_
    refine q_region ?_
    refine q_x (v := (.int .i64 0)) hF hS (ex_assign rfl) rfl rfl fun a hF => ?_
    refine q_x (v := (.bool false)) hF hS (ex_assign rfl) rfl rfl fun a hF => ?_
    refine q_end (n_sq (q_ret (r_sq ?_)))
    obtain rfl := someI hr
    exact ret_of hF hS rfl (.tmp rfl (.tmp rfl .nil)) rfl

theorem c_impl_conditionOf (p_s : List impl_Variable) (p_t : impl_Table) (p_v : Int) (r : Int) (hr : impl_conditionOf p_s p_t p_v = some r) (w0 : World) (m : Mem) (hv : Vis m w0) (s1 : Sl) (h1 : Rd m s1 p_s) (s2 : Sl) (h2 : Rd m s2 p_t.Vars) (s3 : Sl) (h3 : Rd m s3 p_t.Where) :
    Ret Try.prog 89 [s1.v, (.agg #[(.int .i64 p_t.Level), s2.v, s3.v, (.int .i64 p_t.Sum)]), (.int .i64 p_v)] w0 (fun v _ => v = (.int .i64 r)) := by
  unfold impl_conditionOf at hr
  refine ret_start Try.func89 rfl 23 rfl rfl m hv fun a hF hS => ?_
  refine q_seq ?_
  refine q_region ?_
  refine q_box (cs := [(.int .i64 p_t.Level), s2.v, s3.v, (.int .i64 p_t.Sum)]) hF hS rfl rfl rfl fun a w b4 hF hS => ?_
  refine q_x (v := (.int .i64 0)) hF hS (ex_assign rfl) rfl rfl fun a hF => ?_
  refine q_end (n_sq ?_)
  refine q_seq ?_
  refine q_seq ?_
  refine q_region ?_
  refine q_x (v := (.pointer (some ⟨b4, 2, none⟩))) hF hS (ex_fieldAddr Try.underlying28 rfl sz23 rfl rfl) rfl rfl fun a hF => ?_
  refine q_x (v := s3.v) hF hS (ex_load1 0 0 Try.underlying23 rfl rfl rfl rfl) rfl rfl fun a hF => ?_
  refine q_x (v := (.int .i64 p_v)) hF hS (ex_move rfl) rfl rfl fun a hF => ?_
  obtain ⟨e_5, he_5, hr⟩ := bindS hr
  obtain ⟨vs6, at6, d6⟩ := h3.at he_5 1 rfl
  obtain rfl : vs6 = [(.int .i64 e_5)] := d6
  refine q_x (v := (elP s3 (p_v.toNat * 1))) hF hS (ex_indexAddr Try.underlying23 sz3 rfl rfl (h3.idx he_5)) rfl rfl fun a hF => ?_
  refine q_x (v := (.int .i64 e_5)) hF hS (ex_loadE1 0 Try.underlying3 rfl rfl ((at6).at) rfl rfl) rfl rfl fun a hF => ?_
  refine q_x (v := (.bool (e_5 == 0))) hF hS (ex_ibin rfl rfl rfl) rfl rfl fun a hF => ?_
  refine q_end (n_sq ?_)
  rcases bcase (e_5 == 0) with hc1 | hc1
  · have hr := cond_f hc1 hr
    refine q_cond_f hF rfl hc1 ?_
    refine q_skipc (n_sq ?_)
    refine q_seq ?_
    refine q_region ?_
    refine q_x (v := (.pointer (some ⟨b4, 2, none⟩))) hF hS (ex_fieldAddr Try.underlying28 rfl sz23 rfl rfl) rfl rfl fun a hF => ?_
    refine q_x (v := s3.v) hF hS (ex_load1 0 0 Try.underlying23 rfl rfl rfl rfl) rfl rfl fun a hF => ?_
    refine q_x (v := (.int .i64 p_v)) hF hS (ex_move rfl) rfl rfl fun a hF => ?_
    obtain ⟨e_7, he_7, hr⟩ := bindS hr
    obtain ⟨vs8, at8, d8⟩ := h3.at he_7 1 rfl
    obtain rfl : vs8 = [(.int .i64 e_7)] := d8
    refine q_x (v := (elP s3 (p_v.toNat * 1))) hF hS (ex_indexAddr Try.underlying23 sz3 rfl rfl (h3.idx he_7)) rfl rfl fun a hF => ?_
    refine q_x (v := (.int .i64 e_7)) hF hS (ex_loadE1 0 Try.underlying3 rfl rfl ((at8).at) rfl rfl) rfl rfl fun a hF => ?_
    refine q_x (v := (.int .i64 e_7)) hF hS (ex_assign rfl) rfl rfl fun a hF => ?_
    refine q_end (n_sq (q_ret ?_))
    obtain rfl := someI hr
    exact ret_of hF hS rfl (.tmp rfl .nil) rfl
  · have hr := cond_t hc1 hr
    refine q_cond_t hF rfl hc1 ?_
    refine q_seq ?_
    refine q_region ?_
    refine q_x (v := s1.v) hF hS (ex_move rfl) rfl rfl fun a hF => ?_
    refine q_x (v := (.int .i64 p_v)) hF hS (ex_move rfl) rfl rfl fun a hF => ?_
    obtain ⟨e_9, he_9, hr⟩ := bindS hr
    obtain ⟨vs10, at10, d10⟩ := h1.at he_9 2 rfl
    obtain rfl : vs10 = [(strV e_9.Name), (.int .i64 e_9.Levels)] := d10
    refine q_x (v := (elP s1 (p_v.toNat * 2))) hF hS (ex_indexAddr Try.underlying26 sz104 rfl rfl (h1.idx he_9)) rfl rfl fun a hF => ?_
    refine q_x (v := (.agg #[(strV e_9.Name), (.int .i64 e_9.Levels)])) hF hS (ex_loadEA (us := [(strV e_9.Name), (.int .i64 e_9.Levels)]) 0 Try.underlying104 rfl sz104 rfl ((at10).at) rfl rfl rfl) rfl rfl fun a hF => ?_
    obtain ⟨t_11, ht_11, hr⟩ := bindS hr
    refine q_call (vs := [(.agg #[(strV e_9.Name), (.int .i64 e_9.Levels)])]) hF hS Try.func91 (by kernel_rfl) rfl rfl rfl (c_impl_fullSet e_9 t_11 ht_11 _ m hS.vis) ?_
    rintro a w _ rfl hF hS
    refine q_x (v := (.int .i64 t_11)) hF hS (ex_assign rfl) rfl rfl fun a hF => ?_
    refine q_end (n_sq (q_ret (r_sq ?_)))
    obtain rfl := someI hr
    exact ret_of hF hS rfl (.tmp rfl .nil) rfl

theorem c_math_bits_Len32 (p_x : K .u32) (r : Int) (hr : math_bits_Len32 p_x = some r) (w0 : World) (m : Mem) (hv : Vis m w0) :
    Ret Try.prog 106 [(.int .u32 p_x.v)] w0 (fun v _ => v = (.int .i64 r)) := by
  unfold math_bits_Len32 at hr
  refine ret_start Try.func106 rfl 19 rfl rfl m hv fun a hF hS => ?_
  refine q_seq ?_
  refine q_region ?_
  refine q_x (v := (.int .i64 0)) hF hS (ex_assign rfl) rfl rfl fun a hF => ?_
  refine q_end (n_sq ?_)
  refine q_seq ?_
  refine q_seq ?_
  refine q_region ?_
  refine q_x (v := (.int .u32 p_x.v)) hF hS (ex_move rfl) rfl rfl fun a hF => ?_
  refine q_x (v := (.bool (decide (65536 ≤ p_x.v)))) hF hS (ex_ibin rfl rfl rfl) rfl rfl fun a hF => ?_
  refine q_end (n_sq ?_)
  obtain ⟨j1, hj1, hr⟩ := bindS hr
  refine q_join (fun a w => ∃ x_2, ∃ n_3, j1 = (x_2, n_3) ∧ Fr a 19 [(0, (.int .u32 x_2)), (2, (.int .i64 n_3))] ∧ St [] w0 w m []) ?_ ?_
  · rcases bcase (decide (65536 ≤ p_x.v)) with hc2 | hc2
    · have hj1 := cond_f hc2 hj1
      refine q_cond_f hF rfl hc2 ?_
      refine q_skipc (n_jn ?_)
      obtain rfl := someI hj1
      exact ⟨_, _, rfl, hF.sub ⟨rfl, rfl, trivial⟩, hS⟩
    · have hj1 := cond_t hc2 hj1
      refine q_cond_t hF rfl hc2 ?_
      refine q_seq ?_
      refine q_region ?_
      refine q_x (v := (.int .u32 p_x.v)) hF hS (ex_move rfl) rfl rfl fun a hF => ?_
      obtain ⟨t_1, ht_1, hj1⟩ := bindS hj1
      refine q_x (v := (.int .u32 t_1)) hF hS (ex_shr rfl rfl ht_1) rfl rfl fun a hF => ?_
      refine q_x (v := (.int .u32 t_1)) hF hS (ex_assign rfl) rfl rfl fun a hF => ?_
      refine q_end (n_sq ?_)
      refine q_region ?_
      refine q_x (v := (.int .i64 16)) hF hS (ex_assign rfl) rfl rfl fun a hF => ?_
      refine q_end (n_jn ?_)
      obtain rfl := someI hj1
      exact ⟨_, _, rfl, hF.sub ⟨rfl, rfl, trivial⟩, hS⟩
  · rintro a w ⟨x_2, n_3, rfl, hF, hS⟩
    refine n_sq ?_
    refine q_seq ?_
    refine q_seq ?_
    refine q_region ?_
    refine q_x (v := (.int .u32 x_2)) hF hS (ex_move rfl) rfl rfl fun a hF => ?_
    refine q_x (v := (.bool (decide (256 ≤ x_2)))) hF hS (ex_ibin rfl rfl rfl) rfl rfl fun a hF => ?_
    refine q_end (n_sq ?_)
    obtain ⟨j3, hj3, hr⟩ := bindS hr
    refine q_join (fun a w => ∃ x_5, ∃ n_6, j3 = (x_5, n_6) ∧ Fr a 19 [(0, (.int .u32 x_5)), (2, (.int .i64 n_6))] ∧ St [] w0 w m []) ?_ ?_
    · rcases bcase (decide (256 ≤ x_2)) with hc4 | hc4
      · have hj3 := cond_f hc4 hj3
        refine q_cond_f hF rfl hc4 ?_
        refine q_skipc (n_jn ?_)
        obtain rfl := someI hj3
        exact ⟨_, _, rfl, hF.sub ⟨rfl, rfl, trivial⟩, hS⟩
      · have hj3 := cond_t hc4 hj3
        refine q_cond_t hF rfl hc4 ?_
        refine q_seq ?_
        refine q_region ?_
        refine q_x (v := (.int .u32 x_2)) hF hS (ex_move rfl) rfl rfl fun a hF => ?_
        obtain ⟨t_4, ht_4, hj3⟩ := bindS hj3
        refine q_x (v := (.int .u32 t_4)) hF hS (ex_shr rfl rfl ht_4) rfl rfl fun a hF => ?_
        refine q_x (v := (.int .u32 t_4)) hF hS (ex_assign rfl) rfl rfl fun a hF => ?_
        refine q_end (n_sq ?_)
        refine q_region ?_
        refine q_x (v := (.int .i64 n_3)) hF hS (ex_move rfl) rfl rfl fun a hF => ?_
        refine q_x (v := (.int .i64 (w64 (n_3 + 8)))) hF hS (ex_ibin rfl rfl rfl) rfl rfl fun a hF => ?_
        refine q_x (v := (.int .i64 (w64 (n_3 + 8)))) hF hS (ex_assign rfl) rfl rfl fun a hF => ?_
        refine q_end (n_jn ?_)
        obtain rfl := someI hj3
        exact ⟨_, _, rfl, hF.sub ⟨rfl, rfl, trivial⟩, hS⟩
    · rintro a w ⟨x_5, n_6, rfl, hF, hS⟩
      refine n_sq ?_
      refine q_seq ?_
      refine q_region ?_
      refine q_x (v := (.int .i64 n_6)) hF hS (ex_move rfl) rfl rfl fun a hF => ?_
      refine q_x (v := (.int .u32 x_5)) hF hS (ex_move rfl) rfl rfl fun a hF => ?_
      refine q_x (v := (.int .u8 (IntKind.wrap .u8 x_5))) hF hS (ex_conv Try.underlying118 Try.underlying5 rfl) rfl rfl fun a hF => ?_
      obtain ⟨t_7, ht_7, hr⟩ := bindS hr
      refine q_x (v := (.int .u8 t_7)) hF hS (ex_strIdx Try.underlying9 rfl rfl ht_7) rfl rfl fun a hF => ?_
      refine q_x (v := (.int .i64 (w64 t_7))) hF hS (ex_conv Try.underlying5 Try.underlying3 rfl) rfl rfl fun a hF => ?_
      refine q_x (v := (.int .i64 (w64 (n_6 + (w64 t_7))))) hF hS (ex_ibin rfl rfl rfl) rfl rfl fun a hF => ?_
      refine q_x (v := (.int .i64 (w64 (n_6 + (w64 t_7))))) hF hS (ex_assign rfl) rfl rfl fun a hF => ?_
      refine q_end (n_sq (q_ret ?_))
      obtain rfl := someI hr
      exact ret_of hF hS rfl (.tmp rfl .nil) rfl

theorem c_math_bits_Len64 (p_x : K .u64) (r : Int) (hr : math_bits_Len64 p_x = some r) (w0 : World) (m : Mem) (hv : Vis m w0) :
    Ret Try.prog 107 [(.int .u64 p_x.v)] w0 (fun v _ => v = (.int .i64 r)) := by
  unfold math_bits_Len64 at hr
  refine ret_start Try.func107 rfl 25 rfl rfl m hv fun a hF hS => ?_
  refine q_seq ?_
  refine q_region ?_
  refine q_x (v := (.int .i64 0)) hF hS (ex_assign rfl) rfl rfl fun a hF => ?_
  refine q_end (n_sq ?_)
  refine q_seq ?_
  refine q_seq ?_
  refine q_region ?_
  refine q_x (v := (.int .u64 p_x.v)) hF hS (ex_move rfl) rfl rfl fun a hF => ?_
  refine q_x (v := (.bool (decide (4294967296 ≤ p_x.v)))) hF hS (ex_ibin rfl rfl rfl) rfl rfl fun a hF => ?_
  refine q_end (n_sq ?_)
  obtain ⟨j1, hj1, hr⟩ := bindS hr
  refine q_join (fun a w => ∃ x_2, ∃ n_3, j1 = (x_2, n_3) ∧ Fr a 25 [(0, (.int .u64 x_2)), (2, (.int .i64 n_3))] ∧ St [] w0 w m []) ?_ ?_
  · rcases bcase (decide (4294967296 ≤ p_x.v)) with hc2 | hc2
    · have hj1 := cond_f hc2 hj1
      refine q_cond_f hF rfl hc2 ?_
      refine q_skipc (n_jn ?_)
      obtain rfl := someI hj1
      exact ⟨_, _, rfl, hF.sub ⟨rfl, rfl, trivial⟩, hS⟩
    · have hj1 := cond_t hc2 hj1
      refine q_cond_t hF rfl hc2 ?_
      refine q_seq ?_
      refine q_region ?_
      refine q_x (v := (.int .u64 p_x.v)) hF hS (ex_move rfl) rfl rfl fun a hF => ?_
      obtain ⟨t_1, ht_1, hj1⟩ := bindS hj1
      refine q_x (v := (.int .u64 t_1)) hF hS (ex_shr rfl rfl ht_1) rfl rfl fun a hF => ?_
      refine q_x (v := (.int .u64 t_1)) hF hS (ex_assign rfl) rfl rfl fun a hF => ?_
      refine q_end (n_sq ?_)
      refine q_region ?_
      refine q_x (v := (.int .i64 32)) hF hS (ex_assign rfl) rfl rfl fun a hF => ?_
      refine q_end (n_jn ?_)
      obtain rfl := someI hj1
      exact ⟨_, _, rfl, hF.sub ⟨rfl, rfl, trivial⟩, hS⟩
  · rintro a w ⟨x_2, n_3, rfl, hF, hS⟩
    refine n_sq ?_
    refine q_seq ?_
    refine q_seq ?_
    refine q_region ?_
    refine q_x (v := (.int .u64 x_2)) hF hS (ex_move rfl) rfl rfl fun a hF => ?_
    refine q_x (v := (.bool (decide (65536 ≤ x_2)))) hF hS (ex_ibin rfl rfl rfl) rfl rfl fun a hF => ?_
    refine q_end (n_sq ?_)
    obtain ⟨j3, hj3, hr⟩ := bindS hr
    refine q_join (fun a w => ∃ x_5, ∃ n_6, j3 = (x_5, n_6) ∧ Fr a 25 [(0, (.int .u64 x_5)), (2, (.int .i64 n_6))] ∧ St [] w0 w m []) ?_ ?_
    · rcases bcase (decide (65536 ≤ x_2)) with hc4 | hc4
      · have hj3 := cond_f hc4 hj3
        refine q_cond_f hF rfl hc4 ?_
        refine q_skipc (n_jn ?_)
        obtain rfl := someI hj3
        exact ⟨_, _, rfl, hF.sub ⟨rfl, rfl, trivial⟩, hS⟩
      · have hj3 := cond_t hc4 hj3
        refine q_cond_t hF rfl hc4 ?_
        refine q_seq ?_
        refine q_region ?_
        refine q_x (v := (.int .u64 x_2)) hF hS (ex_move rfl) rfl rfl fun a hF => ?_
        obtain ⟨t_4, ht_4, hj3⟩ := bindS hj3
        refine q_x (v := (.int .u64 t_4)) hF hS (ex_shr rfl rfl ht_4) rfl rfl fun a hF => ?_
        refine q_x (v := (.int .u64 t_4)) hF hS (ex_assign rfl) rfl rfl fun a hF => ?_
        refine q_end (n_sq ?_)
        refine q_region ?_
        refine q_x (v := (.int .i64 n_3)) hF hS (ex_move rfl) rfl rfl fun a hF => ?_
        refine q_x (v := (.int .i64 (w64 (n_3 + 16)))) hF hS (ex_ibin rfl rfl rfl) rfl rfl fun a hF => ?_
        refine q_x (v := (.int .i64 (w64 (n_3 + 16)))) hF hS (ex_assign rfl) rfl rfl fun a hF => ?_
        refine q_end (n_jn ?_)
        obtain rfl := someI hj3
        exact ⟨_, _, rfl, hF.sub ⟨rfl, rfl, trivial⟩, hS⟩
    · rintro a w ⟨x_5, n_6, rfl, hF, hS⟩
      refine n_sq ?_
      refine q_seq ?_
      refine q_seq ?_
      refine q_region ?_
      refine q_x (v := (.int .u64 x_5)) hF hS (ex_move rfl) rfl rfl fun a hF => ?_
      refine q_x (v := (.bool (decide (256 ≤ x_5)))) hF hS (ex_ibin rfl rfl rfl) rfl rfl fun a hF => ?_
      refine q_end (n_sq ?_)
      obtain ⟨j5, hj5, hr⟩ := bindS hr
      refine q_join (fun a w => ∃ x_8, ∃ n_9, j5 = (x_8, n_9) ∧ Fr a 25 [(0, (.int .u64 x_8)), (2, (.int .i64 n_9))] ∧ St [] w0 w m []) ?_ ?_
      · rcases bcase (decide (256 ≤ x_5)) with hc6 | hc6
        · have hj5 := cond_f hc6 hj5
          refine q_cond_f hF rfl hc6 ?_
          refine q_skipc (n_jn ?_)
          obtain rfl := someI hj5
          exact ⟨_, _, rfl, hF.sub ⟨rfl, rfl, trivial⟩, hS⟩
        · have hj5 := cond_t hc6 hj5
          refine q_cond_t hF rfl hc6 ?_
          refine q_seq ?_
          refine q_region ?_
          refine q_x (v := (.int .u64 x_5)) hF hS (ex_move rfl) rfl rfl fun a hF => ?_
          obtain ⟨t_7, ht_7, hj5⟩ := bindS hj5
          refine q_x (v := (.int .u64 t_7)) hF hS (ex_shr rfl rfl ht_7) rfl rfl fun a hF => ?_
          refine q_x (v := (.int .u64 t_7)) hF hS (ex_assign rfl) rfl rfl fun a hF => ?_
          refine q_end (n_sq ?_)
          refine q_region ?_
          refine q_x (v := (.int .i64 n_6)) hF hS (ex_move rfl) rfl rfl fun a hF => ?_
          refine q_x (v := (.int .i64 (w64 (n_6 + 8)))) hF hS (ex_ibin rfl rfl rfl) rfl rfl fun a hF => ?_
          refine q_x (v := (.int .i64 (w64 (n_6 + 8)))) hF hS (ex_assign rfl) rfl rfl fun a hF => ?_
          refine q_end (n_jn ?_)
          obtain rfl := someI hj5
          exact ⟨_, _, rfl, hF.sub ⟨rfl, rfl, trivial⟩, hS⟩
      · rintro a w ⟨x_8, n_9, rfl, hF, hS⟩
        refine n_sq ?_
        refine q_seq ?_
        refine q_region ?_
        refine q_x (v := (.int .i64 n_9)) hF hS (ex_move rfl) rfl rfl fun a hF => ?_
        refine q_x (v := (.int .u64 x_8)) hF hS (ex_move rfl) rfl rfl fun a hF => ?_
        refine q_x (v := (.int .u8 (IntKind.wrap .u8 x_8))) hF hS (ex_conv Try.underlying56 Try.underlying5 rfl) rfl rfl fun a hF => ?_
        obtain ⟨t_10, ht_10, hr⟩ := bindS hr
        refine q_x (v := (.int .u8 t_10)) hF hS (ex_strIdx Try.underlying9 rfl rfl ht_10) rfl rfl fun a hF => ?_
        refine q_x (v := (.int .i64 (w64 t_10))) hF hS (ex_conv Try.underlying5 Try.underlying3 rfl) rfl rfl fun a hF => ?_
        refine q_x (v := (.int .i64 (w64 (n_9 + (w64 t_10))))) hF hS (ex_ibin rfl rfl rfl) rfl rfl fun a hF => ?_
        refine q_x (v := (.int .i64 (w64 (n_9 + (w64 t_10))))) hF hS (ex_assign rfl) rfl rfl fun a hF => ?_
        refine q_end (n_sq (q_ret ?_))
        obtain rfl := someI hr
        exact ret_of hF hS rfl (.tmp rfl .nil) rfl

theorem c_math_bits_Len (p_x : K .u64) (r : Int) (hr : math_bits_Len p_x = some r) (w0 : World) (m : Mem) (hv : Vis m w0) :
    Ret Try.prog 88 [(.int .u64 p_x.v)] w0 (fun v _ => v = (.int .i64 r)) := by
  unfold math_bits_Len at hr
  refine ret_start Try.func88 rfl 8 rfl rfl m hv fun a hF hS => ?_
  refine q_seq ?_
  refine q_region ?_
  refine q_x (v := (.int .i64 0)) hF hS (ex_assign rfl) rfl rfl fun a hF => ?_
  refine q_end (n_sq ?_)
  refine q_seq ?_
  refine q_cond_f hF rfl rfl ?_
  refine q_skipc (n_sq ?_)
  refine q_seq ?_
  refine q_region ?_
  refine q_x (v := (.int .u64 p_x.v)) hF hS (ex_move rfl) rfl rfl fun a hF => ?_
  obtain ⟨t_1, ht_1, hr⟩ := bindS hr
  refine q_call (vs := [(.int .u64 p_x.v)]) hF hS Try.func107 (by kernel_rfl) rfl rfl rfl (c_math_bits_Len64 p_x t_1 ht_1 _ m hS.vis) ?_
  rintro a w _ rfl hF hS
  refine q_x (v := (.int .i64 t_1)) hF hS (ex_assign rfl) rfl rfl fun a hF => ?_
  refine q_end (n_sq (q_ret ?_))
  obtain rfl := someI hr
  exact ret_of hF hS rfl (.tmp rfl .nil) rfl

theorem c_impl_sensitivityOf (p_s : List impl_Variable) (p_t : impl_Table) (r : Int) (hr : impl_sensitivityOf p_s p_t = some r) (w0 : World) (m : Mem) (hv : Vis m w0) (s1 : Sl) (h1 : Rd m s1 p_s) (s2 : Sl) (h2 : Rd m s2 p_t.Vars) (s3 : Sl) (h3 : Rd m s3 p_t.Where) :
    Ret Try.prog 55 [s1.v, (.agg #[(.int .i64 p_t.Level), s2.v, s3.v, (.int .i64 p_t.Sum)])] w0 (fun v _ => v = (.int .i64 r)) := by
  unfold impl_sensitivityOf at hr
  refine ret_start Try.func55 rfl 16 rfl rfl m hv fun a hF hS => ?_
  refine q_seq ?_
  refine q_region ?_
  refine q_box (cs := [(.int .i64 p_t.Level), s2.v, s3.v, (.int .i64 p_t.Sum)]) hF hS rfl rfl rfl fun a w b4 hF hS => ?_
  refine q_x (v := (.int .i64 0)) hF hS (ex_assign rfl) rfl rfl fun a hF => ?_
  refine q_end (n_sq ?_)
  refine q_seq ?_
  refine q_seq ?_
  refine q_region ?_
  refine q_x (v := (.pointer (some ⟨b4, 3, none⟩))) hF hS (ex_fieldAddr Try.underlying28 rfl sz3 rfl rfl) rfl rfl fun a hF => ?_
  refine q_x (v := (.int .i64 p_t.Sum)) hF hS (ex_load1 0 0 Try.underlying3 rfl rfl rfl rfl) rfl rfl fun a hF => ?_
  refine q_x (v := (.bool (decide (p_t.Sum < 0)))) hF hS (ex_ibin rfl rfl rfl) rfl rfl fun a hF => ?_
  refine q_end (n_sq ?_)
  rcases bcase (decide (p_t.Sum < 0)) with hc1 | hc1
  · have hr := cond_f hc1 hr
    refine q_cond_f hF rfl hc1 ?_
    refine q_skipc (n_sq ?_)
    refine q_seq ?_
    refine q_region ?_
    refine q_x (v := s1.v) hF hS (ex_move rfl) rfl rfl fun a hF => ?_
    refine q_x (v := (.agg #[(.int .i64 p_t.Level), s2.v, s3.v, (.int .i64 p_t.Sum)])) hF hS (ex_loadA (vs := [(.int .i64 p_t.Level), s2.v, s3.v, (.int .i64 p_t.Sum)]) 0 0 Try.underlying28 rfl sz28 rfl rfl rfl rfl) rfl rfl fun a hF => ?_
    refine q_x (v := (.pointer (some ⟨b4, 3, none⟩))) hF hS (ex_fieldAddr Try.underlying28 rfl sz3 rfl rfl) rfl rfl fun a hF => ?_
    refine q_x (v := (.int .i64 p_t.Sum)) hF hS (ex_load1 0 0 Try.underlying3 rfl rfl rfl rfl) rfl rfl fun a hF => ?_
    obtain ⟨t_5, ht_5, hr⟩ := bindS hr
    refine q_call (vs := [s1.v, (.agg #[(.int .i64 p_t.Level), s2.v, s3.v, (.int .i64 p_t.Sum)]), (.int .i64 p_t.Sum)]) hF hS Try.func89 (by kernel_rfl) rfl rfl rfl (c_impl_conditionOf p_s p_t p_t.Sum t_5 ht_5 _ m hS.vis s1 h1 s2 h2 s3 h3) ?_
    rintro a w _ rfl hF hS
    refine q_x (v := (.int .u64 (IntKind.wrap .u64 t_5))) hF hS (ex_conv Try.underlying3 Try.underlying108 rfl) rfl rfl fun a hF => ?_
    obtain ⟨t_6, ht_6, hr⟩ := bindS hr
    refine q_call (vs := [(.int .u64 (IntKind.wrap .u64 t_5))]) hF hS Try.func88 (by kernel_rfl) rfl rfl rfl (c_math_bits_Len (⟨(IntKind.wrap .u64 t_5)⟩ : K .u64) t_6 ht_6 _ m hS.vis) ?_
    rintro a w _ rfl hF hS
    refine q_x (v := (.int .i64 (w64 (t_6 - 1)))) hF hS (ex_ibin rfl rfl rfl) rfl rfl fun a hF => ?_
    refine q_x (v := (.int .i64 (w64 (t_6 - 1)))) hF hS (ex_assign rfl) rfl rfl fun a hF => ?_
    refine q_end (n_sq (q_ret ?_))
    obtain rfl := someI hr
    exact ret_of hF hS rfl (.tmp rfl .nil) rfl
  · have hr := cond_t hc1 hr
    refine q_cond_t hF rfl hc1 ?_
    refine q_seq ?_
    refine q_region ?_
    refine q_x (v := (.int .i64 1)) hF hS (ex_assign rfl) rfl rfl fun a hF => ?_
    refine q_end (n_sq (q_ret (r_sq ?_)))
    obtain rfl := someI hr
    exact ret_of hF hS rfl (.tmp rfl .nil) rfl

theorem c_impl_SensitivityOf (p_g : impl_Geo) (p_s : List impl_Variable) (p_t : impl_Table) (r : Int × Bool) (hr : impl_SensitivityOf p_g p_s p_t = some r) (w0 : World) (m : Mem) (hv : Vis m w0) (s1 : Sl) (h1 : Rd m s1 p_g.Parents) (s2 : Sl) (h2 : Rd m s2 p_s) (s3 : Sl) (h3 : Rd m s3 p_t.Vars) (s4 : Sl) (h4 : Rd m s4 p_t.Where) :
    Ret Try.prog 21 [(.agg #[s1.v]), s2.v, (.agg #[(.int .i64 p_t.Level), s3.v, s4.v, (.int .i64 p_t.Sum)])] w0 (fun v _ => v = (.tuple #[(.int .i64 r.1), (.bool r.2)])) := by
  unfold impl_SensitivityOf at hr
  refine ret_start Try.func21 rfl 16 rfl rfl m hv fun a hF hS => ?_
  refine q_seq ?_
  refine q_region ?_
  refine q_box (cs := [s1.v]) hF hS rfl rfl rfl fun a w b5 hF hS => ?_
  refine q_box (cs := [(.int .i64 p_t.Level), s3.v, s4.v, (.int .i64 p_t.Sum)]) hF hS rfl rfl rfl fun a w b6 hF hS => ?_
  refine q_x (v := (.int .i64 0)) hF hS (ex_assign rfl) rfl rfl fun a hF => ?_
  refine q_x (v := (.bool false)) hF hS (ex_assign rfl) rfl rfl fun a hF => ?_
  refine q_end (n_sq ?_)
  refine q_seq ?_
  refine q_seq ?_
  refine q_region ?_
  refine q_x (v := (.agg #[s1.v])) hF hS (ex_loadA (vs := [s1.v]) 1 0 Try.underlying25 rfl sz25 rfl rfl rfl rfl) rfl rfl fun a hF => ?_
  refine q_x (v := s2.v) hF hS (ex_move rfl) rfl rfl fun a hF => ?_
  refine q_x (v := (.agg #[(.int .i64 p_t.Level), s3.v, s4.v, (.int .i64 p_t.Sum)])) hF hS (ex_loadA (vs := [(.int .i64 p_t.Level), s3.v, s4.v, (.int .i64 p_t.Sum)]) 0 0 Try.underlying28 rfl sz28 rfl rfl rfl rfl) rfl rfl fun a hF => ?_
  obtain ⟨t_7, ht_7, hr⟩ := bindS hr
  refine q_call (vs := [(.agg #[s1.v]), s2.v, (.agg #[(.int .i64 p_t.Level), s3.v, s4.v, (.int .i64 p_t.Sum)])]) hF hS Try.func29 (by kernel_rfl) rfl rfl rfl (c_impl_areTabled p_g p_s p_t t_7 ht_7 _ m hS.vis s1 h1 s2 h2 s3 h3 s4 h4) ?_
  rintro a w _ rfl hF hS
  refine q_x (v := (.bool (!t_7))) hF hS (ex_not rfl) rfl rfl fun a hF => ?_
  refine q_end (n_sq ?_)
  rcases bcase (!t_7) with hc1 | hc1
  · have hr := cond_f hc1 hr
    refine q_cond_f hF rfl hc1 ?_
    refine q_skipc (n_sq ?_)
    refine q_seq ?_
    refine q_region ?_
    refine q_x (v := s2.v) hF hS (ex_move rfl) rfl rfl fun a hF => ?_
    refine q_x (v := (.agg #[(.int .i64 p_t.Level), s3.v, s4.v, (.int .i64 p_t.Sum)])) hF hS (ex_loadA (vs := [(.int .i64 p_t.Level), s3.v, s4.v, (.int .i64 p_t.Sum)]) 0 0 Try.underlying28 rfl sz28 rfl rfl rfl rfl) rfl rfl fun a hF => ?_
    obtain ⟨t_8, ht_8, hr⟩ := bindS hr
    refine q_call (vs := [s2.v, (.agg #[(.int .i64 p_t.Level), s3.v, s4.v, (.int .i64 p_t.Sum)])]) hF hS Try.func55 (by kernel_rfl) rfl rfl rfl (c_impl_sensitivityOf p_s p_t t_8 ht_8 _ m hS.vis s2 h2 s3 h3 s4 h4) ?_
    rintro a w _ rfl hF hS
    refine q_x (v := (.int .i64 t_8)) hF hS (ex_assign rfl) rfl rfl fun a hF => ?_
    refine q_x (v := (.bool true)) hF hS (ex_assign rfl) rfl rfl fun a hF => ?_
    refine q_end (n_sq (q_ret ?_))
    obtain rfl := someI hr
    exact ret_of hF hS rfl (.tmp rfl (.tmp rfl .nil)) rfl
  · have hr := cond_t hc1 hr
    refine q_cond_t hF rfl hc1 ?_
    refine q_seq ?_
    refine q_region ?_
    refine q_x (v := (.int .i64 0)) hF hS (ex_assign rfl) rfl rfl fun a hF => ?_
    refine q_x (v := (.bool false)) hF hS (ex_assign rfl) rfl rfl fun a hF => ?_
    refine q_end (n_sq (q_ret (r_sq ?_)))
    obtain rfl := someI hr
    exact ret_of hF hS rfl (.tmp rfl (.tmp rfl .nil)) rfl

theorem c_impl_ContributionOf (p_g : impl_Geo) (p_s : List impl_Variable) (p_t : impl_Table) (p_r : impl_Record) (r : Int × Int × Bool) (hr : impl_ContributionOf p_g p_s p_t p_r = some r) (w0 : World) (m : Mem) (hv : Vis m w0) (s1 : Sl) (h1 : Rd m s1 p_g.Parents) (s2 : Sl) (h2 : Rd m s2 p_s) (s3 : Sl) (h3 : Rd m s3 p_t.Vars) (s4 : Sl) (h4 : Rd m s4 p_t.Where) (s5 : Sl) (h5 : Rd m s5 p_r.Values) :
    Ret Try.prog 12 [(.agg #[s1.v]), s2.v, (.agg #[(.int .i64 p_t.Level), s3.v, s4.v, (.int .i64 p_t.Sum)]), (.agg #[(.int .i64 p_r.Area), (.int .i64 p_r.House), s5.v])] w0 (fun v _ => v = (.tuple #[(.int .i64 r.1), (.int .i64 r.2.1), (.bool r.2.2)])) := by
  unfold impl_ContributionOf at hr
  refine ret_start Try.func12 rfl 48 rfl rfl m hv fun a hF hS => ?_
  refine q_seq ?_
  refine q_region ?_
  refine q_box (cs := [s1.v]) hF hS rfl rfl rfl fun a w b6 hF hS => ?_
  refine q_box (cs := [(.int .i64 p_t.Level), s3.v, s4.v, (.int .i64 p_t.Sum)]) hF hS rfl rfl rfl fun a w b7 hF hS => ?_
  refine q_box (cs := [(.int .i64 p_r.Area), (.int .i64 p_r.House), s5.v]) hF hS rfl rfl rfl fun a w b8 hF hS => ?_
  refine q_x (v := (.int .i64 0)) hF hS (ex_assign rfl) rfl rfl fun a hF => ?_
  refine q_x (v := (.int .i64 0)) hF hS (ex_assign rfl) rfl rfl fun a hF => ?_
  refine q_x (v := (.bool false)) hF hS (ex_assign rfl) rfl rfl fun a hF => ?_
  refine q_end (n_sq ?_)
  refine q_seq ?_
  refine q_seq ?_
  obtain ⟨t_13, hj1, hr⟩ := bindS hr
  refine q_join (fun a w => Fr a 48 [(1, s2.v), (4, (.pointer (some ⟨b6, 0, none⟩))), (6, (.pointer (some ⟨b7, 0, none⟩))), (7, (.pointer (some ⟨b8, 0, none⟩))), (37, (.bool t_13))] ∧ St [] w0 w m [[⟨b8, [(.int .i64 p_r.Area), (.int .i64 p_r.House), s5.v], 41⟩], [⟨b7, [(.int .i64 p_t.Level), s3.v, s4.v, (.int .i64 p_t.Sum)], 28⟩], [⟨b6, [s1.v], 25⟩]]) ?_ ?_
  · refine q_region ?_
    refine q_x (v := (.agg #[s1.v])) hF hS (ex_loadA (vs := [s1.v]) 2 0 Try.underlying25 rfl sz25 rfl rfl rfl rfl) rfl rfl fun a hF => ?_
    refine q_x (v := s2.v) hF hS (ex_move rfl) rfl rfl fun a hF => ?_
    refine q_x (v := (.agg #[(.int .i64 p_t.Level), s3.v, s4.v, (.int .i64 p_t.Sum)])) hF hS (ex_loadA (vs := [(.int .i64 p_t.Level), s3.v, s4.v, (.int .i64 p_t.Sum)]) 1 0 Try.underlying28 rfl sz28 rfl rfl rfl rfl) rfl rfl fun a hF => ?_
    obtain ⟨t_9, ht_9, hj1⟩ := bindS hj1
    refine q_call (vs := [(.agg #[s1.v]), s2.v, (.agg #[(.int .i64 p_t.Level), s3.v, s4.v, (.int .i64 p_t.Sum)])]) hF hS Try.func29 (by kernel_rfl) rfl rfl rfl (c_impl_areTabled p_g p_s p_t t_9 ht_9 _ m hS.vis s1 h1 s2 h2 s3 h3 s4 h4) ?_
    rintro a w _ rfl hF hS
    refine q_x (v := (.bool (!t_9))) hF hS (ex_not rfl) rfl rfl fun a hF => ?_
    refine q_x (v := (.bool (!t_9))) hF hS (ex_move rfl) rfl rfl fun a hF => ?_
    rcases bcase (!t_9) with hc2 | hc2
    · have hj1 := cond_f hc2 hj1
      refine q_xg (v := s2.v) hF hS (ex_move rfl) (wanted_t hF rfl rfl rfl hc2) rfl fun a hF => ?_
      refine q_xg (v := (.agg #[(.int .i64 p_r.Area), (.int .i64 p_r.House), s5.v])) hF hS (ex_loadA (vs := [(.int .i64 p_r.Area), (.int .i64 p_r.House), s5.v]) 0 0 Try.underlying41 rfl sz41 rfl rfl rfl rfl) (wanted_t hF rfl rfl rfl hc2) rfl fun a hF => ?_
      obtain ⟨t_10, ht_10, hj1⟩ := bindS hj1
      refine q_callg (vs := [s2.v, (.agg #[(.int .i64 p_r.Area), (.int .i64 p_r.House), s5.v])]) hF hS (wanted_t hF rfl rfl rfl hc2) Try.func39 (by kernel_rfl) rfl rfl rfl (c_impl_isRecord p_s p_r t_10 ht_10 _ m hS.vis s2 h2 s5 h5) ?_
      rintro a w _ rfl hF hS
      refine q_xg (v := (.bool (!t_10))) hF hS (ex_not rfl) (wanted_t hF rfl rfl rfl hc2) rfl fun a hF => ?_
      refine q_x (v := (.bool (!t_10))) hF hS (ex_pick_f rfl rfl hc2) rfl rfl fun a hF => ?_
      refine q_x (v := (.bool (!t_10))) hF hS (ex_move rfl) rfl rfl fun a hF => ?_
      rcases bcase (!t_10) with hc3 | hc3
      · have hj1 := cond_f hc3 hj1
        refine q_xg (v := (.agg #[s1.v])) hF hS (ex_loadA (vs := [s1.v]) 2 0 Try.underlying25 rfl sz25 rfl rfl rfl rfl) (wanted_t hF rfl rfl rfl hc3) rfl fun a hF => ?_
        refine q_xg (v := (.pointer (some ⟨b8, 0, none⟩))) hF hS (ex_fieldAddr Try.underlying41 rfl sz3 rfl rfl) (wanted_t hF rfl rfl rfl hc3) rfl fun a hF => ?_
        refine q_xg (v := (.int .i64 p_r.Area)) hF hS (ex_load1 0 0 Try.underlying3 rfl rfl rfl rfl) (wanted_t hF rfl rfl rfl hc3) rfl fun a hF => ?_
        obtain ⟨t_11, ht_11, hj1⟩ := bindS hj1
        refine q_callg (vs := [(.agg #[s1.v]), (.int .i64 p_r.Area)]) hF hS (wanted_t hF rfl rfl rfl hc3) Try.func40 (by kernel_rfl) rfl rfl rfl (c_impl_isArea p_g p_r.Area t_11 ht_11 _ m hS.vis s1 h1) ?_
        rintro a w _ rfl hF hS
        refine q_xg (v := (.bool (!t_11))) hF hS (ex_not rfl) (wanted_t hF rfl rfl rfl hc3) rfl fun a hF => ?_
        refine q_x (v := (.bool (!t_11))) hF hS (ex_pick_f rfl rfl hc3) rfl rfl fun a hF => ?_
        refine q_x (v := (.bool (!t_11))) hF hS (ex_move rfl) rfl rfl fun a hF => ?_
        rcases bcase (!t_11) with hc4 | hc4
        · have hj1 := cond_f hc4 hj1
          refine q_xg (v := (.agg #[s1.v])) hF hS (ex_loadA (vs := [s1.v]) 2 0 Try.underlying25 rfl sz25 rfl rfl rfl rfl) (wanted_t hF rfl rfl rfl hc4) rfl fun a hF => ?_
          refine q_xg (v := (.pointer (some ⟨b8, 0, none⟩))) hF hS (ex_fieldAddr Try.underlying41 rfl sz3 rfl rfl) (wanted_t hF rfl rfl rfl hc4) rfl fun a hF => ?_
          refine q_xg (v := (.int .i64 p_r.Area)) hF hS (ex_load1 0 0 Try.underlying3 rfl rfl rfl rfl) (wanted_t hF rfl rfl rfl hc4) rfl fun a hF => ?_
          obtain ⟨t_12, ht_12, hj1⟩ := bindS hj1
          refine q_callg (vs := [(.agg #[s1.v]), (.int .i64 p_r.Area)]) hF hS (wanted_t hF rfl rfl rfl hc4) Try.func41 (by kernel_rfl) rfl rfl rfl (c_impl_isLeaf p_g p_r.Area t_12 ht_12 _ m hS.vis s1 h1) ?_
          rintro a w _ rfl hF hS
          refine q_xg (v := (.bool (!t_12))) hF hS (ex_not rfl) (wanted_t hF rfl rfl rfl hc4) rfl fun a hF => ?_
          refine q_x (v := (.bool (!t_12))) hF hS (ex_pick_f rfl rfl hc4) rfl rfl fun a hF => ?_
          refine q_end (n_jn ?_)
          obtain rfl := someI hj1
          exact ⟨hF.sub ⟨rfl, rfl, rfl, rfl, rfl, trivial⟩, hS⟩
        · have hj1 := cond_t hc4 hj1
          refine q_skip hF (wanted_f hF rfl rfl rfl hc4 rfl) rfl fun a hF => ?_
          refine q_skip hF (wanted_f hF rfl rfl rfl hc4 rfl) rfl fun a hF => ?_
          refine q_skip hF (wanted_f hF rfl rfl rfl hc4 rfl) rfl fun a hF => ?_
          refine q_skip hF (wanted_f hF rfl rfl rfl hc4 rfl) rfl fun a hF => ?_
          refine q_skip hF (wanted_f hF rfl rfl rfl hc4 rfl) rfl fun a hF => ?_
          refine q_x (v := (.bool true)) hF hS (ex_pick_t rfl rfl hc4) rfl rfl fun a hF => ?_
          refine q_end (n_jn ?_)
          obtain rfl := someI hj1
          exact ⟨hF.sub ⟨rfl, rfl, rfl, rfl, rfl, trivial⟩, hS⟩
      · have hj1 := cond_t hc3 hj1
        refine q_skip hF (wanted_f hF rfl rfl rfl hc3 rfl) rfl fun a hF => ?_
        refine q_skip hF (wanted_f hF rfl rfl rfl hc3 rfl) rfl fun a hF => ?_
        refine q_skip hF (wanted_f hF rfl rfl rfl hc3 rfl) rfl fun a hF => ?_
        refine q_skip hF (wanted_f hF rfl rfl rfl hc3 rfl) rfl fun a hF => ?_
        refine q_skip hF (wanted_f hF rfl rfl rfl hc3 rfl) rfl fun a hF => ?_
        refine q_x (v := (.bool true)) hF hS (ex_pick_t rfl rfl hc3) rfl rfl fun a hF => ?_
        refine q_x (v := (.bool true)) hF hS (ex_move rfl) rfl rfl fun a hF => ?_
        refine q_skip hF (wanted_f hF rfl rfl rfl rfl rfl) rfl fun a hF => ?_
        refine q_skip hF (wanted_f hF rfl rfl rfl rfl rfl) rfl fun a hF => ?_
        refine q_skip hF (wanted_f hF rfl rfl rfl rfl rfl) rfl fun a hF => ?_
        refine q_skip hF (wanted_f hF rfl rfl rfl rfl rfl) rfl fun a hF => ?_
        refine q_skip hF (wanted_f hF rfl rfl rfl rfl rfl) rfl fun a hF => ?_
        refine q_x (v := (.bool true)) hF hS (ex_pick_t rfl rfl rfl) rfl rfl fun a hF => ?_
        refine q_end (n_jn ?_)
        obtain rfl := someI hj1
        exact ⟨hF.sub ⟨rfl, rfl, rfl, rfl, rfl, trivial⟩, hS⟩
    · have hj1 := cond_t hc2 hj1
      refine q_skip hF (wanted_f hF rfl rfl rfl hc2 rfl) rfl fun a hF => ?_
      refine q_skip hF (wanted_f hF rfl rfl rfl hc2 rfl) rfl fun a hF => ?_
      refine q_skip hF (wanted_f hF rfl rfl rfl hc2 rfl) rfl fun a hF => ?_
      refine q_skip hF (wanted_f hF rfl rfl rfl hc2 rfl) rfl fun a hF => ?_
      refine q_x (v := (.bool true)) hF hS (ex_pick_t rfl rfl hc2) rfl rfl fun a hF => ?_
      refine q_x (v := (.bool true)) hF hS (ex_move rfl) rfl rfl fun a hF => ?_
      refine q_skip hF (wanted_f hF rfl rfl rfl rfl rfl) rfl fun a hF => ?_
      refine q_skip hF (wanted_f hF rfl rfl rfl rfl rfl) rfl fun a hF => ?_
      refine q_skip hF (wanted_f hF rfl rfl rfl rfl rfl) rfl fun a hF => ?_
      refine q_skip hF (wanted_f hF rfl rfl rfl rfl rfl) rfl fun a hF => ?_
      refine q_skip hF (wanted_f hF rfl rfl rfl rfl rfl) rfl fun a hF => ?_
      refine q_x (v := (.bool true)) hF hS (ex_pick_t rfl rfl rfl) rfl rfl fun a hF => ?_
      refine q_x (v := (.bool true)) hF hS (ex_move rfl) rfl rfl fun a hF => ?_
      refine q_skip hF (wanted_f hF rfl rfl rfl rfl rfl) rfl fun a hF => ?_
      refine q_skip hF (wanted_f hF rfl rfl rfl rfl rfl) rfl fun a hF => ?_
      refine q_skip hF (wanted_f hF rfl rfl rfl rfl rfl) rfl fun a hF => ?_
      refine q_skip hF (wanted_f hF rfl rfl rfl rfl rfl) rfl fun a hF => ?_
      refine q_skip hF (wanted_f hF rfl rfl rfl rfl rfl) rfl fun a hF => ?_
      refine q_x (v := (.bool true)) hF hS (ex_pick_t rfl rfl rfl) rfl rfl fun a hF => ?_
      refine q_end (n_jn ?_)
      obtain rfl := someI hj1
      exact ⟨hF.sub ⟨rfl, rfl, rfl, rfl, rfl, trivial⟩, hS⟩
  · rintro a w ⟨hF, hS⟩
    refine n_sq ?_
    rcases bcase (t_13) with hc5 | hc5
    · have hr := cond_f hc5 hr
      refine q_cond_f hF rfl hc5 ?_
      refine q_skipc (n_sq ?_)
      refine q_seq ?_
      refine q_region ?_
      refine q_x (v := (.agg #[s1.v])) hF hS (ex_loadA (vs := [s1.v]) 2 0 Try.underlying25 rfl sz25 rfl rfl rfl rfl) rfl rfl fun a hF => ?_
      refine q_x (v := s2.v) hF hS (ex_move rfl) rfl rfl fun a hF => ?_
      refine q_x (v := (.agg #[(.int .i64 p_t.Level), s3.v, s4.v, (.int .i64 p_t.Sum)])) hF hS (ex_loadA (vs := [(.int .i64 p_t.Level), s3.v, s4.v, (.int .i64 p_t.Sum)]) 1 0 Try.underlying28 rfl sz28 rfl rfl rfl rfl) rfl rfl fun a hF => ?_
      refine q_x (v := (.agg #[(.int .i64 p_r.Area), (.int .i64 p_r.House), s5.v])) hF hS (ex_loadA (vs := [(.int .i64 p_r.Area), (.int .i64 p_r.House), s5.v]) 0 0 Try.underlying41 rfl sz41 rfl rfl rfl rfl) rfl rfl fun a hF => ?_
      obtain ⟨t_14, ht_14, hr⟩ := bindS hr
      refine q_call (vs := [(.agg #[s1.v]), s2.v, (.agg #[(.int .i64 p_t.Level), s3.v, s4.v, (.int .i64 p_t.Sum)]), (.agg #[(.int .i64 p_r.Area), (.int .i64 p_r.House), s5.v])]) hF hS Try.func32 (by kernel_rfl) rfl rfl rfl (c_impl_contribution p_g p_s p_t p_r t_14 ht_14 _ m hS.vis s1 h1 s2 h2 s3 h3 s4 h4 s5 h5) ?_
      rintro a w _ rfl hF hS
      refine q_x (v := (.tuple #[(.int .i64 t_14.1), (.int .i64 t_14.2)])) hF hS (ex_move rfl) rfl rfl fun a hF => ?_
      refine q_x (v := (.int .i64 t_14.1)) hF hS (ex_extract rfl rfl) rfl rfl fun a hF => ?_
      refine q_x (v := (.int .i64 t_14.2)) hF hS (ex_extract rfl rfl) rfl rfl fun a hF => ?_
      refine q_x (v := (.int .i64 t_14.1)) hF hS (ex_assign rfl) rfl rfl fun a hF => ?_
      refine q_x (v := (.int .i64 t_14.2)) hF hS (ex_assign rfl) rfl rfl fun a hF => ?_
      refine q_end (n_sq ?_)
      refine q_seq ?_
      refine q_region ?_
      refine q_x (v := (.int .i64 t_14.1)) hF hS (ex_move rfl) rfl rfl fun a hF => ?_
      refine q_x (v := (.int .i64 t_14.2)) hF hS (ex_move rfl) rfl rfl fun a hF => ?_
      refine q_x (v := (.int .i64 t_14.1)) hF hS (ex_assign rfl) rfl rfl fun a hF => ?_
      refine q_x (v := (.int .i64 t_14.2)) hF hS (ex_assign rfl) rfl rfl fun a hF => ?_
      refine q_x (v := (.bool true)) hF hS (ex_assign rfl) rfl rfl fun a hF => ?_
      refine q_end (n_sq (q_ret ?_))
      obtain rfl := someI hr
      exact ret_of hF hS rfl (.tmp rfl (.tmp rfl (.tmp rfl .nil))) rfl
    · have hr := cond_t hc5 hr
      refine q_cond_t hF rfl hc5 ?_
      refine q_seq ?_
      refine q_region ?_
      refine q_x (v := (.int .i64 0)) hF hS (ex_assign rfl) rfl rfl fun a hF => ?_
      refine q_x (v := (.int .i64 0)) hF hS (ex_assign rfl) rfl rfl fun a hF => ?_
      refine q_x (v := (.bool false)) hF hS (ex_assign rfl) rfl rfl fun a hF => ?_
      refine q_end (n_sq (q_ret (r_sq ?_)))
      obtain rfl := someI hr
      exact ret_of hF hS rfl (.tmp rfl (.tmp rfl (.tmp rfl .nil))) rfl

theorem c_impl_MeetsWhere (p_s : List impl_Variable) (p_t : impl_Table) (p_r : impl_Record) (r : Bool × Bool) (hr : impl_MeetsWhere p_s p_t p_r = some r) (w0 : World) (m : Mem) (hv : Vis m w0) (s1 : Sl) (h1 : Rd m s1 p_s) (s2 : Sl) (h2 : Rd m s2 p_t.Vars) (s3 : Sl) (h3 : Rd m s3 p_t.Where) (s4 : Sl) (h4 : Rd m s4 p_r.Values) :
    Ret Try.prog 22 [s1.v, (.agg #[(.int .i64 p_t.Level), s2.v, s3.v, (.int .i64 p_t.Sum)]), (.agg #[(.int .i64 p_r.Area), (.int .i64 p_r.House), s4.v])] w0 (fun v _ => v = (.tuple #[(.bool r.1), (.bool r.2)])) := by
  unfold impl_MeetsWhere at hr
  refine ret_start Try.func22 rfl 27 rfl rfl m hv fun a hF hS => ?_
  refine q_seq ?_
  refine q_region ?_
  refine q_box (cs := [(.int .i64 p_t.Level), s2.v, s3.v, (.int .i64 p_t.Sum)]) hF hS rfl rfl rfl fun a w b5 hF hS => ?_
  refine q_box (cs := [(.int .i64 p_r.Area), (.int .i64 p_r.House), s4.v]) hF hS rfl rfl rfl fun a w b6 hF hS => ?_
  refine q_x (v := (.bool false)) hF hS (ex_assign rfl) rfl rfl fun a hF => ?_
  refine q_x (v := (.bool false)) hF hS (ex_assign rfl) rfl rfl fun a hF => ?_
  refine q_end (n_sq ?_)
  refine q_seq ?_
  refine q_seq ?_
  obtain ⟨t_10, hj1, hr⟩ := bindS hr
  refine q_join (fun a w => Fr a 27 [(4, (.pointer (some ⟨b5, 0, none⟩))), (5, (.pointer (some ⟨b6, 0, none⟩))), (23, (.bool t_10))] ∧ St [] w0 w m [[⟨b6, [(.int .i64 p_r.Area), (.int .i64 p_r.House), s4.v], 41⟩], [⟨b5, [(.int .i64 p_t.Level), s2.v, s3.v, (.int .i64 p_t.Sum)], 28⟩]]) ?_ ?_
  · refine q_region ?_
    refine q_x (v := s1.v) hF hS (ex_move rfl) rfl rfl fun a hF => ?_
    obtain ⟨t_7, ht_7, hj1⟩ := bindS hj1
    refine q_call (vs := [s1.v]) hF hS Try.func56 (by kernel_rfl) rfl rfl rfl (c_impl_IsSchema p_s t_7 ht_7 _ m hS.vis s1 h1) ?_
    rintro a w _ rfl hF hS
    refine q_x (v := (.bool (!t_7))) hF hS (ex_not rfl) rfl rfl fun a hF => ?_
    refine q_x (v := (.bool (!t_7))) hF hS (ex_move rfl) rfl rfl fun a hF => ?_
    rcases bcase (!t_7) with hc2 | hc2
    · have hj1 := cond_f hc2 hj1
      refine q_xg (v := s1.v) hF hS (ex_move rfl) (wanted_t hF rfl rfl rfl hc2) rfl fun a hF => ?_
      refine q_xg (v := (.pointer (some ⟨b5, 2, none⟩))) hF hS (ex_fieldAddr Try.underlying28 rfl sz23 rfl rfl) (wanted_t hF rfl rfl rfl hc2) rfl fun a hF => ?_
      refine q_xg (v := s3.v) hF hS (ex_load1 1 0 Try.underlying23 rfl rfl rfl rfl) (wanted_t hF rfl rfl rfl hc2) rfl fun a hF => ?_
      obtain ⟨t_8, ht_8, hj1⟩ := bindS hj1
      refine q_callg (vs := [s1.v, s3.v]) hF hS (wanted_t hF rfl rfl rfl hc2) Try.func57 (by kernel_rfl) rfl rfl rfl (c_impl_isWhere p_s p_t.Where t_8 ht_8 _ m hS.vis s1 h1 s3 h3) ?_
      rintro a w _ rfl hF hS
      refine q_xg (v := (.bool (!t_8))) hF hS (ex_not rfl) (wanted_t hF rfl rfl rfl hc2) rfl fun a hF => ?_
      refine q_x (v := (.bool (!t_8))) hF hS (ex_pick_f rfl rfl hc2) rfl rfl fun a hF => ?_
      refine q_x (v := (.bool (!t_8))) hF hS (ex_move rfl) rfl rfl fun a hF => ?_
      rcases bcase (!t_8) with hc3 | hc3
      · have hj1 := cond_f hc3 hj1
        refine q_xg (v := s1.v) hF hS (ex_move rfl) (wanted_t hF rfl rfl rfl hc3) rfl fun a hF => ?_
        refine q_xg (v := (.agg #[(.int .i64 p_r.Area), (.int .i64 p_r.House), s4.v])) hF hS (ex_loadA (vs := [(.int .i64 p_r.Area), (.int .i64 p_r.House), s4.v]) 0 0 Try.underlying41 rfl sz41 rfl rfl rfl rfl) (wanted_t hF rfl rfl rfl hc3) rfl fun a hF => ?_
        obtain ⟨t_9, ht_9, hj1⟩ := bindS hj1
        refine q_callg (vs := [s1.v, (.agg #[(.int .i64 p_r.Area), (.int .i64 p_r.House), s4.v])]) hF hS (wanted_t hF rfl rfl rfl hc3) Try.func39 (by kernel_rfl) rfl rfl rfl (c_impl_isRecord p_s p_r t_9 ht_9 _ m hS.vis s1 h1 s4 h4) ?_
        rintro a w _ rfl hF hS
        refine q_xg (v := (.bool (!t_9))) hF hS (ex_not rfl) (wanted_t hF rfl rfl rfl hc3) rfl fun a hF => ?_
        refine q_x (v := (.bool (!t_9))) hF hS (ex_pick_f rfl rfl hc3) rfl rfl fun a hF => ?_
        refine q_end (n_jn ?_)
        obtain rfl := someI hj1
        exact ⟨hF.sub ⟨rfl, rfl, rfl, trivial⟩, hS⟩
      · have hj1 := cond_t hc3 hj1
        refine q_skip hF (wanted_f hF rfl rfl rfl hc3 rfl) rfl fun a hF => ?_
        refine q_skip hF (wanted_f hF rfl rfl rfl hc3 rfl) rfl fun a hF => ?_
        refine q_skip hF (wanted_f hF rfl rfl rfl hc3 rfl) rfl fun a hF => ?_
        refine q_skip hF (wanted_f hF rfl rfl rfl hc3 rfl) rfl fun a hF => ?_
        refine q_x (v := (.bool true)) hF hS (ex_pick_t rfl rfl hc3) rfl rfl fun a hF => ?_
        refine q_end (n_jn ?_)
        obtain rfl := someI hj1
        exact ⟨hF.sub ⟨rfl, rfl, rfl, trivial⟩, hS⟩
    · have hj1 := cond_t hc2 hj1
      refine q_skip hF (wanted_f hF rfl rfl rfl hc2 rfl) rfl fun a hF => ?_
      refine q_skip hF (wanted_f hF rfl rfl rfl hc2 rfl) rfl fun a hF => ?_
      refine q_skip hF (wanted_f hF rfl rfl rfl hc2 rfl) rfl fun a hF => ?_
      refine q_skip hF (wanted_f hF rfl rfl rfl hc2 rfl) rfl fun a hF => ?_
      refine q_skip hF (wanted_f hF rfl rfl rfl hc2 rfl) rfl fun a hF => ?_
      refine q_x (v := (.bool true)) hF hS (ex_pick_t rfl rfl hc2) rfl rfl fun a hF => ?_
      refine q_x (v := (.bool true)) hF hS (ex_move rfl) rfl rfl fun a hF => ?_
      refine q_skip hF (wanted_f hF rfl rfl rfl rfl rfl) rfl fun a hF => ?_
      refine q_skip hF (wanted_f hF rfl rfl rfl rfl rfl) rfl fun a hF => ?_
      refine q_skip hF (wanted_f hF rfl rfl rfl rfl rfl) rfl fun a hF => ?_
      refine q_skip hF (wanted_f hF rfl rfl rfl rfl rfl) rfl fun a hF => ?_
      refine q_x (v := (.bool true)) hF hS (ex_pick_t rfl rfl rfl) rfl rfl fun a hF => ?_
      refine q_end (n_jn ?_)
      obtain rfl := someI hj1
      exact ⟨hF.sub ⟨rfl, rfl, rfl, trivial⟩, hS⟩
  · rintro a w ⟨hF, hS⟩
    refine n_sq ?_
    rcases bcase (t_10) with hc4 | hc4
    · have hr := cond_f hc4 hr
      refine q_cond_f hF rfl hc4 ?_
      refine q_skipc (n_sq ?_)
      refine q_seq ?_
      refine q_region ?_
      refine q_x (v := (.agg #[(.int .i64 p_t.Level), s2.v, s3.v, (.int .i64 p_t.Sum)])) hF hS (ex_loadA (vs := [(.int .i64 p_t.Level), s2.v, s3.v, (.int .i64 p_t.Sum)]) 1 0 Try.underlying28 rfl sz28 rfl rfl rfl rfl) rfl rfl fun a hF => ?_
      refine q_x (v := (.agg #[(.int .i64 p_r.Area), (.int .i64 p_r.House), s4.v])) hF hS (ex_loadA (vs := [(.int .i64 p_r.Area), (.int .i64 p_r.House), s4.v]) 0 0 Try.underlying41 rfl sz41 rfl rfl rfl rfl) rfl rfl fun a hF => ?_
      obtain ⟨t_11, ht_11, hr⟩ := bindS hr
      refine q_call (vs := [(.agg #[(.int .i64 p_t.Level), s2.v, s3.v, (.int .i64 p_t.Sum)]), (.agg #[(.int .i64 p_r.Area), (.int .i64 p_r.House), s4.v])]) hF hS Try.func58 (by kernel_rfl) rfl rfl rfl (c_impl_meetsWhere p_t p_r t_11 ht_11 _ m hS.vis s2 h2 s3 h3 s4 h4) ?_
      rintro a w _ rfl hF hS
      refine q_x (v := (.bool t_11)) hF hS (ex_assign rfl) rfl rfl fun a hF => ?_
      refine q_x (v := (.bool true)) hF hS (ex_assign rfl) rfl rfl fun a hF => ?_
      refine q_end (n_sq (q_ret ?_))
      obtain rfl := someI hr
      exact ret_of hF hS rfl (.tmp rfl (.tmp rfl .nil)) rfl
    · have hr := cond_t hc4 hr
      refine q_cond_t hF rfl hc4 ?_
      refine q_seq ?_
      refine q_region ?_
      refine q_x (v := (.bool false)) hF hS (ex_assign rfl) rfl rfl fun a hF => ?_
      refine q_x (v := (.bool false)) hF hS (ex_assign rfl) rfl rfl fun a hF => ?_
      refine q_end (n_sq (q_ret (r_sq ?_)))
      obtain rfl := someI hr
      exact ret_of hF hS rfl (.tmp rfl (.tmp rfl .nil)) rfl

theorem c_laws_FnTables (p_code : List (K .u8)) (p_more : List (K .u8)) (r : Bool) (hr : laws_FnTables p_code p_more = some r) (w0 : World) (m : Mem) (hv : Vis m w0) (s1 : Sl) (h1 : Rd m s1 p_code) (s2 : Sl) (h2 : Rd m s2 p_more) :
    Ret Try.prog 4 [s1.v, s2.v] w0 (fun v _ => v = (.bool r)) := by
  unfold laws_FnTables at hr
  refine ret_start Try.func4 rfl 224 rfl rfl m hv fun a hF hS => ?_
  refine q_seq ?_
  refine q_region ?_
  refine q_x (v := (.bool false)) hF hS (ex_assign rfl) rfl rfl fun a hF => ?_
  refine q_end (n_sq ?_)
  refine q_seq ?_
  refine q_seq ?_
  refine q_region ?_
  refine q_x (v := s1.v) hF hS (ex_move rfl) rfl rfl fun a hF => ?_
  refine q_x (v := (.int .i64 (goLen p_code))) hF hS (ex_len Try.underlying22 rfl h1.len) rfl rfl fun a hF => ?_
  refine q_x (v := s2.v) hF hS (ex_move rfl) rfl rfl fun a hF => ?_
  refine q_x (v := (.int .i64 (goLen p_more))) hF hS (ex_len Try.underlying22 rfl h2.len) rfl rfl fun a hF => ?_
  refine q_x (v := (.int .i64 (w64 ((goLen p_code) + (goLen p_more))))) hF hS (ex_ibin rfl rfl rfl) rfl rfl fun a hF => ?_
  refine q_x (v := (.bool (decide (1048576 < (w64 ((goLen p_code) + (goLen p_more))))))) hF hS (ex_ibin rfl rfl rfl) rfl rfl fun a hF => ?_
  refine q_end (n_sq ?_)
  rcases bcase (decide (1048576 < (w64 ((goLen p_code) + (goLen p_more))))) with hc1 | hc1
  · have hr := cond_f hc1 hr
    refine q_cond_f hF rfl hc1 ?_
    refine q_skipc (n_sq ?_)
    refine q_seq ?_
    refine q_region ?_
    refine q_x (v := s1.v) hF hS (ex_move rfl) rfl rfl fun a hF => ?_
    obtain ⟨t_3, ht_3, hr⟩ := bindS hr
    refine q_call (vs := [s1.v]) hF hS Try.func14 (by kernel_rfl) rfl rfl rfl (c_spec_DrawTableOf p_code t_3 ht_3 _ m hS.vis s1 h1) ?_
    have hT := hS
    rintro a w _ ⟨m4, q5, q7, q8, q9, s5, s6, s7, s8, s9, rfl, hm4, hR4, h5, h6, h7, h8, h9⟩ hF hS2
    have hS : St _ _ _ _ [q5, q7, q8, q9] := hS.join hR4 hm4
    have hm4 := MLe.weakX (O0 := []) hT hm4
    refine q_x (v := (.tuple #[(.agg #[s5.v]), s6.v, (.agg #[(.int .i64 t_3.2.2.1.Level), s7.v, s8.v, (.int .i64 t_3.2.2.1.Sum)]), s9.v])) hF hS (ex_move rfl) rfl rfl fun a hF => ?_
    refine q_x (v := (.agg #[s5.v])) hF hS (ex_extract rfl rfl) rfl rfl fun a hF => ?_
    refine q_x (v := s6.v) hF hS (ex_extract rfl rfl) rfl rfl fun a hF => ?_
    refine q_x (v := (.agg #[(.int .i64 t_3.2.2.1.Level), s7.v, s8.v, (.int .i64 t_3.2.2.1.Sum)])) hF hS (ex_extract rfl rfl) rfl rfl fun a hF => ?_
    refine q_x (v := s9.v) hF hS (ex_extract rfl rfl) rfl rfl fun a hF => ?_
    refine q_alloc (cs := [nilS.v]) hF hS rfl rfl rfl fun a w b10 hF hS => ?_
    refine q_alloc (cs := [(.int .i64 0), nilS.v, nilS.v, (.int .i64 0)]) hF hS rfl rfl rfl fun a w b11 hF hS => ?_
    refine q_store (vs := [s5.v]) (cs' := [s5.v]) 1 0 hF hS sz25 rfl rfl rfl rfl rfl rfl rfl rfl fun a w hF hS => ?_
    refine q_x (v := s6.v) hF hS (ex_assign rfl) rfl rfl fun a hF => ?_
    refine q_store (vs := [(.int .i64 t_3.2.2.1.Level), s7.v, s8.v, (.int .i64 t_3.2.2.1.Sum)]) (cs' := [(.int .i64 t_3.2.2.1.Level), s7.v, s8.v, (.int .i64 t_3.2.2.1.Sum)]) 0 0 hF hS sz28 rfl rfl rfl rfl rfl rfl rfl rfl fun a w hF hS => ?_
    refine q_x (v := s9.v) hF hS (ex_assign rfl) rfl rfl fun a hF => ?_
    refine q_end (n_sq ?_)
    refine q_seq ?_
    refine q_region ?_
    refine q_x (v := (.agg #[s5.v])) hF hS (ex_loadA (vs := [s5.v]) 1 0 Try.underlying25 rfl sz25 rfl rfl rfl rfl) rfl rfl fun a hF => ?_
    refine q_x (v := s6.v) hF hS (ex_move rfl) rfl rfl fun a hF => ?_
    refine q_x (v := (.agg #[(.int .i64 t_3.2.2.1.Level), s7.v, s8.v, (.int .i64 t_3.2.2.1.Sum)])) hF hS (ex_loadA (vs := [(.int .i64 t_3.2.2.1.Level), s7.v, s8.v, (.int .i64 t_3.2.2.1.Sum)]) 0 0 Try.underlying28 rfl sz28 rfl rfl rfl rfl) rfl rfl fun a hF => ?_
    refine q_x (v := s9.v) hF hS (ex_move rfl) rfl rfl fun a hF => ?_
    obtain ⟨m13, hl13, hv13, hz13⟩ := hS.lend
    obtain ⟨t_12, ht_12, hr⟩ := bindS hr
    refine q_call (vs := [(.agg #[s5.v]), s6.v, (.agg #[(.int .i64 t_3.2.2.1.Level), s7.v, s8.v, (.int .i64 t_3.2.2.1.Sum)]), s9.v]) hF hS Try.func13 (by kernel_rfl) rfl rfl rfl (c_impl_TableOf t_3.1 t_3.2.1 t_3.2.2.1 t_3.2.2.2 t_12 ht_12 _ m13 hv13 s5 (h5.froz hl13 (hz13 2 _ rfl)) s6 (h6.mono hl13) s7 (h7.froz hl13 (hz13 3 _ rfl)) s8 (h8.froz hl13 (hz13 4 _ rfl)) s9 (h9.froz hl13 (hz13 5 _ rfl))) ?_
    rintro a w _ ⟨q15, s15, rfl, hR14, h15⟩ hF hS2
    have hS : St _ _ _ _ [q15, [⟨b11, [(.int .i64 t_3.2.2.1.Level), s7.v, s8.v, (.int .i64 t_3.2.2.1.Sum)], 28⟩], [⟨b10, [s5.v], 25⟩], q5, q7, q8, q9] := hS.joinF hR14
    have h15 := h15.any m4
    refine q_x (v := (.tuple #[s15.v, (.bool t_12.2)])) hF hS (ex_move rfl) rfl rfl fun a hF => ?_
    refine q_x (v := s15.v) hF hS (ex_extract rfl rfl) rfl rfl fun a hF => ?_
    refine q_x (v := (.bool t_12.2)) hF hS (ex_extract rfl rfl) rfl rfl fun a hF => ?_
    refine q_x (v := s15.v) hF hS (ex_assign rfl) rfl rfl fun a hF => ?_
    refine q_x (v := (.bool t_12.2)) hF hS (ex_assign rfl) rfl rfl fun a hF => ?_
    refine q_end (n_sq ?_)
    refine q_seq ?_
    refine q_region ?_
    refine q_x (v := (.agg #[s5.v])) hF hS (ex_loadA (vs := [s5.v]) 2 0 Try.underlying25 rfl sz25 rfl rfl rfl rfl) rfl rfl fun a hF => ?_
    refine q_x (v := s6.v) hF hS (ex_move rfl) rfl rfl fun a hF => ?_
    refine q_x (v := (.agg #[(.int .i64 t_3.2.2.1.Level), s7.v, s8.v, (.int .i64 t_3.2.2.1.Sum)])) hF hS (ex_loadA (vs := [(.int .i64 t_3.2.2.1.Level), s7.v, s8.v, (.int .i64 t_3.2.2.1.Sum)]) 1 0 Try.underlying28 rfl sz28 rfl rfl rfl rfl) rfl rfl fun a hF => ?_
    refine q_x (v := s9.v) hF hS (ex_move rfl) rfl rfl fun a hF => ?_
    obtain ⟨m17, hl17, hv17, hz17⟩ := hS.lend
    obtain ⟨t_16, ht_16, hr⟩ := bindS hr
    refine q_call (vs := [(.agg #[s5.v]), s6.v, (.agg #[(.int .i64 t_3.2.2.1.Level), s7.v, s8.v, (.int .i64 t_3.2.2.1.Sum)]), s9.v]) hF hS Try.func15 (by kernel_rfl) rfl rfl rfl (c_spec_TableOf t_3.1 t_3.2.1 t_3.2.2.1 t_3.2.2.2 t_16 ht_16 _ m17 hv17 s5 (h5.froz hl17 (hz17 3 _ rfl)) s6 (h6.mono hl17) s7 (h7.froz hl17 (hz17 4 _ rfl)) s8 (h8.froz hl17 (hz17 5 _ rfl)) s9 (h9.froz hl17 (hz17 6 _ rfl))) ?_
    rintro a w _ ⟨q19, s19, rfl, hR18, h19⟩ hF hS2
    have hS : St _ _ _ _ [q19, q15, [⟨b11, [(.int .i64 t_3.2.2.1.Level), s7.v, s8.v, (.int .i64 t_3.2.2.1.Sum)], 28⟩], [⟨b10, [s5.v], 25⟩], q5, q7, q8, q9] := hS.joinF hR18
    have h19 := h19.any m4
    refine q_x (v := (.tuple #[s19.v, (.bool t_16.2)])) hF hS (ex_move rfl) rfl rfl fun a hF => ?_
    refine q_x (v := s19.v) hF hS (ex_extract rfl rfl) rfl rfl fun a hF => ?_
    refine q_x (v := (.bool t_16.2)) hF hS (ex_extract rfl rfl) rfl rfl fun a hF => ?_
    refine q_x (v := s19.v) hF hS (ex_assign rfl) rfl rfl fun a hF => ?_
    refine q_x (v := (.bool t_16.2)) hF hS (ex_assign rfl) rfl rfl fun a hF => ?_
    refine q_end (n_sq ?_)
    refine q_seq ?_
    refine q_region ?_
    refine q_x (v := s2.v) hF hS (ex_move rfl) rfl rfl fun a hF => ?_
    obtain ⟨t_20, ht_20, hr⟩ := bindS hr
    refine q_call (vs := [s2.v]) hF hS Try.func16 (by kernel_rfl) rfl rfl rfl (c_spec_DrawCellAt p_more t_20 ht_20 _ m4 hS.vis s2 (h2.mono hm4.le)) ?_
    have hT := hS
    rintro a w _ ⟨m21, q22, q24, q25, s22, s23, s24, s25, rfl, hm21, hR21, h22, h23, h24, h25⟩ hF hS2
    have hS : St _ _ _ _ [q22, q24, q25, q19, q15, [⟨b11, [(.int .i64 t_3.2.2.1.Level), s7.v, s8.v, (.int .i64 t_3.2.2.1.Sum)], 28⟩], [⟨b10, [s5.v], 25⟩], q5, q7, q8, q9] := hS.join hR21 hm21
    have hm21 := MLe.weakX (O0 := []) hT hm21
    refine q_x (v := (.tuple #[(.agg #[s22.v]), s23.v, (.agg #[(.int .i64 t_20.2.2.1.Level), s24.v, s25.v, (.int .i64 t_20.2.2.1.Sum)]), (.int .i64 t_20.2.2.2)])) hF hS (ex_move rfl) rfl rfl fun a hF => ?_
    refine q_x (v := (.agg #[s22.v])) hF hS (ex_extract rfl rfl) rfl rfl fun a hF => ?_
    refine q_x (v := s23.v) hF hS (ex_extract rfl rfl) rfl rfl fun a hF => ?_
    refine q_x (v := (.agg #[(.int .i64 t_20.2.2.1.Level), s24.v, s25.v, (.int .i64 t_20.2.2.1.Sum)])) hF hS (ex_extract rfl rfl) rfl rfl fun a hF => ?_
    refine q_x (v := (.int .i64 t_20.2.2.2)) hF hS (ex_extract rfl rfl) rfl rfl fun a hF => ?_
    refine q_alloc (cs := [nilS.v]) hF hS rfl rfl rfl fun a w b26 hF hS => ?_
    refine q_alloc (cs := [(.int .i64 0), nilS.v, nilS.v, (.int .i64 0)]) hF hS rfl rfl rfl fun a w b27 hF hS => ?_
    refine q_store (vs := [s22.v]) (cs' := [s22.v]) 1 0 hF hS sz25 rfl rfl rfl rfl rfl rfl rfl rfl fun a w hF hS => ?_
    refine q_x (v := s23.v) hF hS (ex_assign rfl) rfl rfl fun a hF => ?_
    refine q_store (vs := [(.int .i64 t_20.2.2.1.Level), s24.v, s25.v, (.int .i64 t_20.2.2.1.Sum)]) (cs' := [(.int .i64 t_20.2.2.1.Level), s24.v, s25.v, (.int .i64 t_20.2.2.1.Sum)]) 0 0 hF hS sz28 rfl rfl rfl rfl rfl rfl rfl rfl fun a w hF hS => ?_
    refine q_x (v := (.int .i64 t_20.2.2.2)) hF hS (ex_assign rfl) rfl rfl fun a hF => ?_
    refine q_end (n_sq ?_)
    refine q_seq ?_
    refine q_region ?_
    refine q_x (v := (.agg #[s22.v])) hF hS (ex_loadA (vs := [s22.v]) 1 0 Try.underlying25 rfl sz25 rfl rfl rfl rfl) rfl rfl fun a hF => ?_
    refine q_x (v := s23.v) hF hS (ex_move rfl) rfl rfl fun a hF => ?_
    refine q_x (v := (.agg #[(.int .i64 t_20.2.2.1.Level), s24.v, s25.v, (.int .i64 t_20.2.2.1.Sum)])) hF hS (ex_loadA (vs := [(.int .i64 t_20.2.2.1.Level), s24.v, s25.v, (.int .i64 t_20.2.2.1.Sum)]) 0 0 Try.underlying28 rfl sz28 rfl rfl rfl rfl) rfl rfl fun a hF => ?_
    refine q_x (v := (.int .i64 t_20.2.2.2)) hF hS (ex_move rfl) rfl rfl fun a hF => ?_
    obtain ⟨m29, hl29, hv29, hz29⟩ := hS.lend
    obtain ⟨t_28, ht_28, hr⟩ := bindS hr
    refine q_call (vs := [(.agg #[s22.v]), s23.v, (.agg #[(.int .i64 t_20.2.2.1.Level), s24.v, s25.v, (.int .i64 t_20.2.2.1.Sum)]), (.int .i64 t_20.2.2.2)]) hF hS Try.func17 (by kernel_rfl) rfl rfl rfl (c_impl_CellAt t_20.1 t_20.2.1 t_20.2.2.1 t_20.2.2.2 t_28 ht_28 _ m29 hv29 s22 (h22.froz hl29 (hz29 2 _ rfl)) s23 (h23.mono hl29) s24 (h24.froz hl29 (hz29 3 _ rfl)) s25 (h25.froz hl29 (hz29 4 _ rfl))) ?_
    rintro a w _ ⟨q31, s31, rfl, hR30, h31⟩ hF hS2
    have hS : St _ _ _ _ [q31, [⟨b27, [(.int .i64 t_20.2.2.1.Level), s24.v, s25.v, (.int .i64 t_20.2.2.1.Sum)], 28⟩], [⟨b26, [s22.v], 25⟩], q22, q24, q25, q19, q15, [⟨b11, [(.int .i64 t_3.2.2.1.Level), s7.v, s8.v, (.int .i64 t_3.2.2.1.Sum)], 28⟩], [⟨b10, [s5.v], 25⟩], q5, q7, q8, q9] := hS.joinF hR30
    have h31 := h31.any m21
    refine q_x (v := (.tuple #[(.int .i64 t_28.1), s31.v, (.bool t_28.2.2)])) hF hS (ex_move rfl) rfl rfl fun a hF => ?_
    refine q_x (v := (.int .i64 t_28.1)) hF hS (ex_extract rfl rfl) rfl rfl fun a hF => ?_
    refine q_x (v := s31.v) hF hS (ex_extract rfl rfl) rfl rfl fun a hF => ?_
    refine q_x (v := (.bool t_28.2.2)) hF hS (ex_extract rfl rfl) rfl rfl fun a hF => ?_
    refine q_x (v := (.int .i64 t_28.1)) hF hS (ex_assign rfl) rfl rfl fun a hF => ?_
    refine q_x (v := s31.v) hF hS (ex_assign rfl) rfl rfl fun a hF => ?_
    refine q_x (v := (.bool t_28.2.2)) hF hS (ex_assign rfl) rfl rfl fun a hF => ?_
    refine q_end (n_sq ?_)
    refine q_seq ?_
    refine q_region ?_
    refine q_x (v := (.agg #[s22.v])) hF hS (ex_loadA (vs := [s22.v]) 2 0 Try.underlying25 rfl sz25 rfl rfl rfl rfl) rfl rfl fun a hF => ?_
    refine q_x (v := s23.v) hF hS (ex_move rfl) rfl rfl fun a hF => ?_
    refine q_x (v := (.agg #[(.int .i64 t_20.2.2.1.Level), s24.v, s25.v, (.int .i64 t_20.2.2.1.Sum)])) hF hS (ex_loadA (vs := [(.int .i64 t_20.2.2.1.Level), s24.v, s25.v, (.int .i64 t_20.2.2.1.Sum)]) 1 0 Try.underlying28 rfl sz28 rfl rfl rfl rfl) rfl rfl fun a hF => ?_
    refine q_x (v := (.int .i64 t_20.2.2.2)) hF hS (ex_move rfl) rfl rfl fun a hF => ?_
    obtain ⟨m33, hl33, hv33, hz33⟩ := hS.lend
    obtain ⟨t_32, ht_32, hr⟩ := bindS hr
    refine q_call (vs := [(.agg #[s22.v]), s23.v, (.agg #[(.int .i64 t_20.2.2.1.Level), s24.v, s25.v, (.int .i64 t_20.2.2.1.Sum)]), (.int .i64 t_20.2.2.2)]) hF hS Try.func18 (by kernel_rfl) rfl rfl rfl (c_spec_CellAt t_20.1 t_20.2.1 t_20.2.2.1 t_20.2.2.2 t_32 ht_32 _ m33 hv33 s22 (h22.froz hl33 (hz33 3 _ rfl)) s23 (h23.mono hl33) s24 (h24.froz hl33 (hz33 4 _ rfl)) s25 (h25.froz hl33 (hz33 5 _ rfl))) ?_
    rintro a w _ ⟨q35, s35, rfl, hR34, h35⟩ hF hS2
    have hS : St _ _ _ _ [q35, q31, [⟨b27, [(.int .i64 t_20.2.2.1.Level), s24.v, s25.v, (.int .i64 t_20.2.2.1.Sum)], 28⟩], [⟨b26, [s22.v], 25⟩], q22, q24, q25, q19, q15, [⟨b11, [(.int .i64 t_3.2.2.1.Level), s7.v, s8.v, (.int .i64 t_3.2.2.1.Sum)], 28⟩], [⟨b10, [s5.v], 25⟩], q5, q7, q8, q9] := hS.joinF hR34
    have h35 := h35.any m21
    refine q_x (v := (.tuple #[(.int .i64 t_32.1), s35.v, (.bool t_32.2.2)])) hF hS (ex_move rfl) rfl rfl fun a hF => ?_
    refine q_x (v := (.int .i64 t_32.1)) hF hS (ex_extract rfl rfl) rfl rfl fun a hF => ?_
    refine q_x (v := s35.v) hF hS (ex_extract rfl rfl) rfl rfl fun a hF => ?_
    refine q_x (v := (.bool t_32.2.2)) hF hS (ex_extract rfl rfl) rfl rfl fun a hF => ?_
    refine q_x (v := (.int .i64 t_32.1)) hF hS (ex_assign rfl) rfl rfl fun a hF => ?_
    refine q_x (v := s35.v) hF hS (ex_assign rfl) rfl rfl fun a hF => ?_
    refine q_x (v := (.bool t_32.2.2)) hF hS (ex_assign rfl) rfl rfl fun a hF => ?_
    refine q_end (n_sq ?_)
    refine q_seq ?_
    refine q_seq ?_
    obtain ⟨t_40, hj2, hr⟩ := bindS hr
    refine q_join (fun a w => Fr a 224 [(5, (.pointer (some ⟨b10, 0, none⟩))), (6, s6.v), (7, (.pointer (some ⟨b11, 0, none⟩))), (8, s9.v), (9, s15.v), (10, (.bool t_12.2)), (13, (.pointer (some ⟨b26, 0, none⟩))), (14, s23.v), (15, (.pointer (some ⟨b27, 0, none⟩))), (16, (.int .i64 t_20.2.2.2)), (17, (.int .i64 t_28.1)), (18, s31.v), (19, (.bool t_28.2.2)), (115, (.bool t_40))] ∧ St [] w0 w m21 [q9, q15, q31, q24, q25, q22, q7, q8, q5, [⟨b27, [(.int .i64 t_20.2.2.1.Level), s24.v, s25.v, (.int .i64 t_20.2.2.1.Sum)], 28⟩], [⟨b26, [s22.v], 25⟩], [⟨b11, [(.int .i64 t_3.2.2.1.Level), s7.v, s8.v, (.int .i64 t_3.2.2.1.Sum)], 28⟩], [⟨b10, [s5.v], 25⟩]]) ?_ ?_
    · refine q_region ?_
      refine q_x (v := (.bool t_12.2)) hF hS (ex_move rfl) rfl rfl fun a hF => ?_
      refine q_x (v := (.bool t_16.2)) hF hS (ex_move rfl) rfl rfl fun a hF => ?_
      refine q_x (v := (.bool (t_12.2 != t_16.2))) hF hS (ex_bne Try.underlying4 rfl rfl) rfl rfl fun a hF => ?_
      refine q_x (v := (.bool (t_12.2 != t_16.2))) hF hS (ex_move rfl) rfl rfl fun a hF => ?_
      rcases bcase (t_12.2 != t_16.2) with hc3 | hc3
      · have hj2 := cond_f hc3 hj2
        refine q_xg (v := s15.v) hF hS (ex_move rfl) (wanted_t hF rfl rfl rfl hc3) rfl fun a hF => ?_
        refine q_xg (v := s19.v) hF hS (ex_move rfl) (wanted_t hF rfl rfl rfl hc3) rfl fun a hF => ?_
        obtain ⟨m37, hl37, hv37, hz37⟩ := hS.lend
        obtain ⟨t_36, ht_36, hj2⟩ := bindS hj2
        refine q_callg (vs := [s15.v, s19.v]) hF hS (wanted_t hF rfl rfl rfl hc3) Try.func11 (by kernel_rfl) rfl rfl rfl (c_laws_qInts t_12.1 t_16.1 t_36 ht_36 _ m37 hv37 s15 ((h15.mono hm21.le).froz hl37 (hz37 8 _ rfl)) s19 ((h19.mono hm21.le).froz hl37 (hz37 7 _ rfl))) ?_
        rintro a w _ rfl hF hS
        refine q_xg (v := (.bool (!t_36))) hF hS (ex_not rfl) (wanted_t hF rfl rfl rfl hc3) rfl fun a hF => ?_
        refine q_x (v := (.bool (!t_36))) hF hS (ex_pick_f rfl rfl hc3) rfl rfl fun a hF => ?_
        refine q_x (v := (.bool (!t_36))) hF hS (ex_move rfl) rfl rfl fun a hF => ?_
        rcases bcase (!t_36) with hc4 | hc4
        · have hj2 := cond_f hc4 hj2
          refine q_xg (v := (.bool t_28.2.2)) hF hS (ex_move rfl) (wanted_t hF rfl rfl rfl hc4) rfl fun a hF => ?_
          refine q_xg (v := (.bool t_32.2.2)) hF hS (ex_move rfl) (wanted_t hF rfl rfl rfl hc4) rfl fun a hF => ?_
          refine q_xg (v := (.bool (t_28.2.2 != t_32.2.2))) hF hS (ex_bne Try.underlying4 rfl rfl) (wanted_t hF rfl rfl rfl hc4) rfl fun a hF => ?_
          refine q_x (v := (.bool (t_28.2.2 != t_32.2.2))) hF hS (ex_pick_f rfl rfl hc4) rfl rfl fun a hF => ?_
          refine q_x (v := (.bool (t_28.2.2 != t_32.2.2))) hF hS (ex_move rfl) rfl rfl fun a hF => ?_
          rcases bcase (t_28.2.2 != t_32.2.2) with hc5 | hc5
          · have hj2 := cond_f hc5 hj2
            refine q_xg (v := (.int .i64 t_28.1)) hF hS (ex_move rfl) (wanted_t hF rfl rfl rfl hc5) rfl fun a hF => ?_
            refine q_xg (v := (.int .i64 t_32.1)) hF hS (ex_move rfl) (wanted_t hF rfl rfl rfl hc5) rfl fun a hF => ?_
            refine q_xg (v := (.bool (t_28.1 != t_32.1))) hF hS (ex_ibin rfl rfl rfl) (wanted_t hF rfl rfl rfl hc5) rfl fun a hF => ?_
            refine q_x (v := (.bool (t_28.1 != t_32.1))) hF hS (ex_pick_f rfl rfl hc5) rfl rfl fun a hF => ?_
            refine q_x (v := (.bool (t_28.1 != t_32.1))) hF hS (ex_move rfl) rfl rfl fun a hF => ?_
            rcases bcase (t_28.1 != t_32.1) with hc6 | hc6
            · have hj2 := cond_f hc6 hj2
              refine q_xg (v := s31.v) hF hS (ex_move rfl) (wanted_t hF rfl rfl rfl hc6) rfl fun a hF => ?_
              refine q_xg (v := s35.v) hF hS (ex_move rfl) (wanted_t hF rfl rfl rfl hc6) rfl fun a hF => ?_
              obtain ⟨m39, hl39, hv39, hz39⟩ := hS.lend
              obtain ⟨t_38, ht_38, hj2⟩ := bindS hj2
              refine q_callg (vs := [s31.v, s35.v]) hF hS (wanted_t hF rfl rfl rfl hc6) Try.func11 (by kernel_rfl) rfl rfl rfl (c_laws_qInts t_28.2.1 t_32.2.1 t_38 ht_38 _ m39 hv39 s31 (h31.froz hl39 (hz39 1 _ rfl)) s35 (h35.froz hl39 (hz39 0 _ rfl))) ?_
              rintro a w _ rfl hF hS
              refine q_xg (v := (.bool (!t_38))) hF hS (ex_not rfl) (wanted_t hF rfl rfl rfl hc6) rfl fun a hF => ?_
              refine q_x (v := (.bool (!t_38))) hF hS (ex_pick_f rfl rfl hc6) rfl rfl fun a hF => ?_
              refine q_end (n_jn ?_)
              obtain rfl := someI hj2
              exact ⟨hF.sub ⟨rfl, rfl, rfl, rfl, rfl, rfl, rfl, rfl, rfl, rfl, rfl, rfl, rfl, rfl, trivial⟩, hS.sel [14, 8, 1, 5, 6, 4, 12, 13, 11, 2, 3, 9, 10] (by decide)⟩
            · have hj2 := cond_t hc6 hj2
              refine q_skip hF (wanted_f hF rfl rfl rfl hc6 rfl) rfl fun a hF => ?_
              refine q_skip hF (wanted_f hF rfl rfl rfl hc6 rfl) rfl fun a hF => ?_
              refine q_skip hF (wanted_f hF rfl rfl rfl hc6 rfl) rfl fun a hF => ?_
              refine q_skip hF (wanted_f hF rfl rfl rfl hc6 rfl) rfl fun a hF => ?_
              refine q_x (v := (.bool true)) hF hS (ex_pick_t rfl rfl hc6) rfl rfl fun a hF => ?_
              refine q_end (n_jn ?_)
              obtain rfl := someI hj2
              exact ⟨hF.sub ⟨rfl, rfl, rfl, rfl, rfl, rfl, rfl, rfl, rfl, rfl, rfl, rfl, rfl, rfl, trivial⟩, hS.sel [14, 8, 1, 5, 6, 4, 12, 13, 11, 2, 3, 9, 10] (by decide)⟩
          · have hj2 := cond_t hc5 hj2
            refine q_skip hF (wanted_f hF rfl rfl rfl hc5 rfl) rfl fun a hF => ?_
            refine q_skip hF (wanted_f hF rfl rfl rfl hc5 rfl) rfl fun a hF => ?_
            refine q_skip hF (wanted_f hF rfl rfl rfl hc5 rfl) rfl fun a hF => ?_
            refine q_x (v := (.bool true)) hF hS (ex_pick_t rfl rfl hc5) rfl rfl fun a hF => ?_
            refine q_x (v := (.bool true)) hF hS (ex_move rfl) rfl rfl fun a hF => ?_
            refine q_skip hF (wanted_f hF rfl rfl rfl rfl rfl) rfl fun a hF => ?_
            refine q_skip hF (wanted_f hF rfl rfl rfl rfl rfl) rfl fun a hF => ?_
            refine q_skip hF (wanted_f hF rfl rfl rfl rfl rfl) rfl fun a hF => ?_
            refine q_skip hF (wanted_f hF rfl rfl rfl rfl rfl) rfl fun a hF => ?_
            refine q_x (v := (.bool true)) hF hS (ex_pick_t rfl rfl rfl) rfl rfl fun a hF => ?_
            refine q_end (n_jn ?_)
            obtain rfl := someI hj2
            exact ⟨hF.sub ⟨rfl, rfl, rfl, rfl, rfl, rfl, rfl, rfl, rfl, rfl, rfl, rfl, rfl, rfl, trivial⟩, hS.sel [14, 8, 1, 5, 6, 4, 12, 13, 11, 2, 3, 9, 10] (by decide)⟩
        · have hj2 := cond_t hc4 hj2
          refine q_skip hF (wanted_f hF rfl rfl rfl hc4 rfl) rfl fun a hF => ?_
          refine q_skip hF (wanted_f hF rfl rfl rfl hc4 rfl) rfl fun a hF => ?_
          refine q_skip hF (wanted_f hF rfl rfl rfl hc4 rfl) rfl fun a hF => ?_
          refine q_x (v := (.bool true)) hF hS (ex_pick_t rfl rfl hc4) rfl rfl fun a hF => ?_
          refine q_x (v := (.bool true)) hF hS (ex_move rfl) rfl rfl fun a hF => ?_
          refine q_skip hF (wanted_f hF rfl rfl rfl rfl rfl) rfl fun a hF => ?_
          refine q_skip hF (wanted_f hF rfl rfl rfl rfl rfl) rfl fun a hF => ?_
          refine q_skip hF (wanted_f hF rfl rfl rfl rfl rfl) rfl fun a hF => ?_
          refine q_x (v := (.bool true)) hF hS (ex_pick_t rfl rfl rfl) rfl rfl fun a hF => ?_
          refine q_x (v := (.bool true)) hF hS (ex_move rfl) rfl rfl fun a hF => ?_
          refine q_skip hF (wanted_f hF rfl rfl rfl rfl rfl) rfl fun a hF => ?_
          refine q_skip hF (wanted_f hF rfl rfl rfl rfl rfl) rfl fun a hF => ?_
          refine q_skip hF (wanted_f hF rfl rfl rfl rfl rfl) rfl fun a hF => ?_
          refine q_skip hF (wanted_f hF rfl rfl rfl rfl rfl) rfl fun a hF => ?_
          refine q_x (v := (.bool true)) hF hS (ex_pick_t rfl rfl rfl) rfl rfl fun a hF => ?_
          refine q_end (n_jn ?_)
          obtain rfl := someI hj2
          exact ⟨hF.sub ⟨rfl, rfl, rfl, rfl, rfl, rfl, rfl, rfl, rfl, rfl, rfl, rfl, rfl, rfl, trivial⟩, hS.sel [14, 8, 1, 5, 6, 4, 12, 13, 11, 2, 3, 9, 10] (by decide)⟩
      · have hj2 := cond_t hc3 hj2
        refine q_skip hF (wanted_f hF rfl rfl rfl hc3 rfl) rfl fun a hF => ?_
        refine q_skip hF (wanted_f hF rfl rfl rfl hc3 rfl) rfl fun a hF => ?_
        refine q_skip hF (wanted_f hF rfl rfl rfl hc3 rfl) rfl fun a hF => ?_
        refine q_skip hF (wanted_f hF rfl rfl rfl hc3 rfl) rfl fun a hF => ?_
        refine q_x (v := (.bool true)) hF hS (ex_pick_t rfl rfl hc3) rfl rfl fun a hF => ?_
        refine q_x (v := (.bool true)) hF hS (ex_move rfl) rfl rfl fun a hF => ?_
        refine q_skip hF (wanted_f hF rfl rfl rfl rfl rfl) rfl fun a hF => ?_
        refine q_skip hF (wanted_f hF rfl rfl rfl rfl rfl) rfl fun a hF => ?_
        refine q_skip hF (wanted_f hF rfl rfl rfl rfl rfl) rfl fun a hF => ?_
        refine q_x (v := (.bool true)) hF hS (ex_pick_t rfl rfl rfl) rfl rfl fun a hF => ?_
        refine q_x (v := (.bool true)) hF hS (ex_move rfl) rfl rfl fun a hF => ?_
        refine q_skip hF (wanted_f hF rfl rfl rfl rfl rfl) rfl fun a hF => ?_
        refine q_skip hF (wanted_f hF rfl rfl rfl rfl rfl) rfl fun a hF => ?_
        refine q_skip hF (wanted_f hF rfl rfl rfl rfl rfl) rfl fun a hF => ?_
        refine q_x (v := (.bool true)) hF hS (ex_pick_t rfl rfl rfl) rfl rfl fun a hF => ?_
        refine q_x (v := (.bool true)) hF hS (ex_move rfl) rfl rfl fun a hF => ?_
        refine q_skip hF (wanted_f hF rfl rfl rfl rfl rfl) rfl fun a hF => ?_
        refine q_skip hF (wanted_f hF rfl rfl rfl rfl rfl) rfl fun a hF => ?_
        refine q_skip hF (wanted_f hF rfl rfl rfl rfl rfl) rfl fun a hF => ?_
        refine q_skip hF (wanted_f hF rfl rfl rfl rfl rfl) rfl fun a hF => ?_
        refine q_x (v := (.bool true)) hF hS (ex_pick_t rfl rfl rfl) rfl rfl fun a hF => ?_
        refine q_end (n_jn ?_)
        obtain rfl := someI hj2
        exact ⟨hF.sub ⟨rfl, rfl, rfl, rfl, rfl, rfl, rfl, rfl, rfl, rfl, rfl, rfl, rfl, rfl, trivial⟩, hS.sel [14, 8, 1, 5, 6, 4, 12, 13, 11, 2, 3, 9, 10] (by decide)⟩
    · rintro a w ⟨hF, hS⟩
      refine n_sq ?_
      rcases bcase (t_40) with hc7 | hc7
      · have hr := cond_f hc7 hr
        refine q_cond_f hF rfl hc7 ?_
        refine q_skipc (n_sq ?_)
        refine q_seq ?_
        refine q_seq ?_
        refine q_region ?_
        refine q_x (v := (.bool t_28.2.2)) hF hS (ex_move rfl) rfl rfl fun a hF => ?_
        refine q_end (n_sq ?_)
        obtain ⟨j8, hj8, hr⟩ := bindS hr
        refine q_join (fun a w => j8 = .inl () ∧ Fr a 224 [(5, (.pointer (some ⟨b10, 0, none⟩))), (6, s6.v), (7, (.pointer (some ⟨b11, 0, none⟩))), (8, s9.v), (9, s15.v), (10, (.bool t_12.2))] ∧ St [] w0 w m21 [q9, q15, q7, q8, q5, [⟨b11, [(.int .i64 t_3.2.2.1.Level), s7.v, s8.v, (.int .i64 t_3.2.2.1.Sum)], 28⟩], [⟨b10, [s5.v], 25⟩]]) ?_ ?_
        · rcases bcase (t_28.2.2) with hc9 | hc9
          · have hj8 := cond_f hc9 hj8
            refine q_cond_f hF rfl hc9 ?_
            refine q_skipc (n_jn ?_)
            obtain rfl := someI hj8
            exact ⟨rfl, hF.sub ⟨rfl, rfl, rfl, rfl, rfl, rfl, trivial⟩, hS.mask [true, true, false, false, false, false, true, true, true, false, false, true, true]⟩
          · have hj8 := cond_t hc9 hj8
            refine q_cond_t hF rfl hc9 ?_
            refine q_seq ?_
            refine q_region ?_
            refine q_x (v := (.agg #[s22.v])) hF hS (ex_loadA (vs := [s22.v]) 10 0 Try.underlying25 rfl sz25 rfl rfl rfl rfl) rfl rfl fun a hF => ?_
            refine q_x (v := s23.v) hF hS (ex_move rfl) rfl rfl fun a hF => ?_
            refine q_x (v := (.agg #[(.int .i64 t_20.2.2.1.Level), s24.v, s25.v, (.int .i64 t_20.2.2.1.Sum)])) hF hS (ex_loadA (vs := [(.int .i64 t_20.2.2.1.Level), s24.v, s25.v, (.int .i64 t_20.2.2.1.Sum)]) 9 0 Try.underlying28 rfl sz28 rfl rfl rfl rfl) rfl rfl fun a hF => ?_
            refine q_x (v := (.int .i64 t_28.1)) hF hS (ex_move rfl) rfl rfl fun a hF => ?_
            refine q_x (v := s31.v) hF hS (ex_move rfl) rfl rfl fun a hF => ?_
            obtain ⟨m42, hl42, hv42, hz42⟩ := hS.lend
            obtain ⟨t_41, ht_41, hj8⟩ := bindS hj8
            refine q_call (vs := [(.agg #[s22.v]), s23.v, (.agg #[(.int .i64 t_20.2.2.1.Level), s24.v, s25.v, (.int .i64 t_20.2.2.1.Sum)]), (.int .i64 t_28.1), s31.v]) hF hS Try.func19 (by kernel_rfl) rfl rfl rfl (c_impl_CellIndex t_20.1 t_20.2.1 t_20.2.2.1 t_28.1 t_28.2.1 t_41 ht_41 _ m42 hv42 s22 (h22.froz hl42 (hz42 5 _ rfl)) s23 (h23.mono hl42) s24 (h24.froz hl42 (hz42 3 _ rfl)) s25 (h25.froz hl42 (hz42 4 _ rfl)) s31 (h31.froz hl42 (hz42 2 _ rfl))) ?_
            rintro a w _ rfl hF hS
            refine q_x (v := (.tuple #[(.int .i64 t_41.1), (.bool t_41.2)])) hF hS (ex_move rfl) rfl rfl fun a hF => ?_
            refine q_x (v := (.int .i64 t_41.1)) hF hS (ex_extract rfl rfl) rfl rfl fun a hF => ?_
            refine q_x (v := (.bool t_41.2)) hF hS (ex_extract rfl rfl) rfl rfl fun a hF => ?_
            refine q_x (v := (.int .i64 t_41.1)) hF hS (ex_assign rfl) rfl rfl fun a hF => ?_
            refine q_x (v := (.bool t_41.2)) hF hS (ex_assign rfl) rfl rfl fun a hF => ?_
            refine q_end (n_sq ?_)
            refine q_seq ?_
            obtain ⟨t_43, hj10, hj8⟩ := bindS hj8
            refine q_join (fun a w => Fr a 224 [(5, (.pointer (some ⟨b10, 0, none⟩))), (6, s6.v), (7, (.pointer (some ⟨b11, 0, none⟩))), (8, s9.v), (9, s15.v), (10, (.bool t_12.2)), (132, (.bool t_43))] ∧ St [] w0 w m21 [q9, q15, q7, q8, q5, [⟨b11, [(.int .i64 t_3.2.2.1.Level), s7.v, s8.v, (.int .i64 t_3.2.2.1.Sum)], 28⟩], [⟨b10, [s5.v], 25⟩]]) ?_ ?_
            · refine q_region ?_
              refine q_x (v := (.bool t_41.2)) hF hS (ex_move rfl) rfl rfl fun a hF => ?_
              refine q_x (v := (.bool (!t_41.2))) hF hS (ex_not rfl) rfl rfl fun a hF => ?_
              refine q_x (v := (.bool (!t_41.2))) hF hS (ex_move rfl) rfl rfl fun a hF => ?_
              rcases bcase (!t_41.2) with hc11 | hc11
              · have hj10 := cond_f hc11 hj10
                refine q_xg (v := (.int .i64 t_41.1)) hF hS (ex_move rfl) (wanted_t hF rfl rfl rfl hc11) rfl fun a hF => ?_
                refine q_xg (v := (.int .i64 t_20.2.2.2)) hF hS (ex_move rfl) (wanted_t hF rfl rfl rfl hc11) rfl fun a hF => ?_
                refine q_xg (v := (.bool (t_41.1 != t_20.2.2.2))) hF hS (ex_ibin rfl rfl rfl) (wanted_t hF rfl rfl rfl hc11) rfl fun a hF => ?_
                refine q_x (v := (.bool (t_41.1 != t_20.2.2.2))) hF hS (ex_pick_f rfl rfl hc11) rfl rfl fun a hF => ?_
                refine q_end (n_jn ?_)
                obtain rfl := someI hj10
                exact ⟨hF.sub ⟨rfl, rfl, rfl, rfl, rfl, rfl, rfl, trivial⟩, hS.mask [true, true, false, false, false, false, true, true, true, false, false, true, true]⟩
              · have hj10 := cond_t hc11 hj10
                refine q_skip hF (wanted_f hF rfl rfl rfl hc11 rfl) rfl fun a hF => ?_
                refine q_skip hF (wanted_f hF rfl rfl rfl hc11 rfl) rfl fun a hF => ?_
                refine q_skip hF (wanted_f hF rfl rfl rfl hc11 rfl) rfl fun a hF => ?_
                refine q_x (v := (.bool true)) hF hS (ex_pick_t rfl rfl hc11) rfl rfl fun a hF => ?_
                refine q_end (n_jn ?_)
                obtain rfl := someI hj10
                exact ⟨hF.sub ⟨rfl, rfl, rfl, rfl, rfl, rfl, rfl, trivial⟩, hS.mask [true, true, false, false, false, false, true, true, true, false, false, true, true]⟩
            · rintro a w ⟨hF, hS⟩
              refine n_sq ?_
              rcases bcase (t_43) with hc12 | hc12
              · have hj8 := cond_f hc12 hj8
                refine q_cond_f hF rfl hc12 ?_
                refine q_skipc (n_jn ?_)
                obtain rfl := someI hj8
                exact ⟨rfl, hF.sub ⟨rfl, rfl, rfl, rfl, rfl, rfl, trivial⟩, hS⟩
              · have hj8 := cond_t hc12 hj8
                refine q_cond_t hF rfl hc12 ?_
                refine q_seq ?_
                refine q_region ?_
                refine q_x (v := (.bool false)) hF hS (ex_assign rfl) rfl rfl fun a hF => ?_
                refine q_end (n_sq (q_ret (r_jn ?_)))
                obtain rfl := someI hj8
                refine r_sq ?_
                obtain rfl := someI hr
                exact ret_of hF hS rfl (.tmp rfl .nil) rfl
        · rintro a w ⟨rfl, hF, hS⟩
          refine n_sq ?_
          refine q_seq ?_
          refine q_seq ?_
          refine q_region ?_
          refine q_x (v := (.bool t_12.2)) hF hS (ex_move rfl) rfl rfl fun a hF => ?_
          refine q_x (v := (.bool (!t_12.2))) hF hS (ex_not rfl) rfl rfl fun a hF => ?_
          refine q_end (n_sq ?_)
          rcases bcase (!t_12.2) with hc13 | hc13
          · have hr := cond_f hc13 hr
            refine q_cond_f hF rfl hc13 ?_
            refine q_skipc (n_sq ?_)
            refine q_seq ?_
            refine q_region ?_
            refine q_x (v := (.agg #[s5.v])) hF hS (ex_loadA (vs := [s5.v]) 6 0 Try.underlying25 rfl sz25 rfl rfl rfl rfl) rfl rfl fun a hF => ?_
            refine q_x (v := s6.v) hF hS (ex_move rfl) rfl rfl fun a hF => ?_
            refine q_x (v := (.agg #[(.int .i64 t_3.2.2.1.Level), s7.v, s8.v, (.int .i64 t_3.2.2.1.Sum)])) hF hS (ex_loadA (vs := [(.int .i64 t_3.2.2.1.Level), s7.v, s8.v, (.int .i64 t_3.2.2.1.Sum)]) 5 0 Try.underlying28 rfl sz28 rfl rfl rfl rfl) rfl rfl fun a hF => ?_
            obtain ⟨m45, hl45, hv45, hz45⟩ := hS.lend
            obtain ⟨t_44, ht_44, hr⟩ := bindS hr
            refine q_call (vs := [(.agg #[s5.v]), s6.v, (.agg #[(.int .i64 t_3.2.2.1.Level), s7.v, s8.v, (.int .i64 t_3.2.2.1.Sum)])]) hF hS Try.func20 (by kernel_rfl) rfl rfl rfl (c_impl_CellCount t_3.1 t_3.2.1 t_3.2.2.1 t_44 ht_44 _ m45 hv45 s5 ((h5.mono hm21.le).froz hl45 (hz45 4 _ rfl)) s6 ((h6.mono hm21.le).mono hl45) s7 ((h7.mono hm21.le).froz hl45 (hz45 2 _ rfl)) s8 ((h8.mono hm21.le).froz hl45 (hz45 3 _ rfl))) ?_
            rintro a w _ rfl hF hS
            refine q_x (v := (.tuple #[(.int .i64 t_44.1), (.bool t_44.2)])) hF hS (ex_move rfl) rfl rfl fun a hF => ?_
            refine q_x (v := (.int .i64 t_44.1)) hF hS (ex_extract rfl rfl) rfl rfl fun a hF => ?_
            refine q_x (v := (.bool t_44.2)) hF hS (ex_extract rfl rfl) rfl rfl fun a hF => ?_
            refine q_x (v := (.int .i64 t_44.1)) hF hS (ex_assign rfl) rfl rfl fun a hF => ?_
            refine q_x (v := (.bool t_44.2)) hF hS (ex_assign rfl) rfl rfl fun a hF => ?_
            refine q_end (n_sq ?_)
            refine q_seq ?_
            refine q_region ?_
            refine q_x (v := (.agg #[s5.v])) hF hS (ex_loadA (vs := [s5.v]) 6 0 Try.underlying25 rfl sz25 rfl rfl rfl rfl) rfl rfl fun a hF => ?_
            refine q_x (v := s6.v) hF hS (ex_move rfl) rfl rfl fun a hF => ?_
            refine q_x (v := (.agg #[(.int .i64 t_3.2.2.1.Level), s7.v, s8.v, (.int .i64 t_3.2.2.1.Sum)])) hF hS (ex_loadA (vs := [(.int .i64 t_3.2.2.1.Level), s7.v, s8.v, (.int .i64 t_3.2.2.1.Sum)]) 5 0 Try.underlying28 rfl sz28 rfl rfl rfl rfl) rfl rfl fun a hF => ?_
            obtain ⟨m47, hl47, hv47, hz47⟩ := hS.lend
            obtain ⟨t_46, ht_46, hr⟩ := bindS hr
            refine q_call (vs := [(.agg #[s5.v]), s6.v, (.agg #[(.int .i64 t_3.2.2.1.Level), s7.v, s8.v, (.int .i64 t_3.2.2.1.Sum)])]) hF hS Try.func21 (by kernel_rfl) rfl rfl rfl (c_impl_SensitivityOf t_3.1 t_3.2.1 t_3.2.2.1 t_46 ht_46 _ m47 hv47 s5 ((h5.mono hm21.le).froz hl47 (hz47 4 _ rfl)) s6 ((h6.mono hm21.le).mono hl47) s7 ((h7.mono hm21.le).froz hl47 (hz47 2 _ rfl)) s8 ((h8.mono hm21.le).froz hl47 (hz47 3 _ rfl))) ?_
            rintro a w _ rfl hF hS
            refine q_x (v := (.tuple #[(.int .i64 t_46.1), (.bool t_46.2)])) hF hS (ex_move rfl) rfl rfl fun a hF => ?_
            refine q_x (v := (.int .i64 t_46.1)) hF hS (ex_extract rfl rfl) rfl rfl fun a hF => ?_
            refine q_x (v := (.bool t_46.2)) hF hS (ex_extract rfl rfl) rfl rfl fun a hF => ?_
            refine q_x (v := (.int .i64 t_46.1)) hF hS (ex_assign rfl) rfl rfl fun a hF => ?_
            refine q_x (v := (.bool t_46.2)) hF hS (ex_assign rfl) rfl rfl fun a hF => ?_
            refine q_end (n_sq ?_)
            refine q_seq ?_
            refine q_seq ?_
            obtain ⟨t_48, hj14, hr⟩ := bindS hr
            refine q_join (fun a w => Fr a 224 [(5, (.pointer (some ⟨b10, 0, none⟩))), (6, s6.v), (7, (.pointer (some ⟨b11, 0, none⟩))), (8, s9.v), (9, s15.v), (27, (.int .i64 t_46.1)), (160, (.bool t_48))] ∧ St [] w0 w m21 [q9, q15, q7, q8, q5, [⟨b11, [(.int .i64 t_3.2.2.1.Level), s7.v, s8.v, (.int .i64 t_3.2.2.1.Sum)], 28⟩], [⟨b10, [s5.v], 25⟩]]) ?_ ?_
            · refine q_region ?_
              refine q_x (v := (.bool t_44.2)) hF hS (ex_move rfl) rfl rfl fun a hF => ?_
              refine q_x (v := (.bool (!t_44.2))) hF hS (ex_not rfl) rfl rfl fun a hF => ?_
              refine q_x (v := (.bool (!t_44.2))) hF hS (ex_move rfl) rfl rfl fun a hF => ?_
              rcases bcase (!t_44.2) with hc15 | hc15
              · have hj14 := cond_f hc15 hj14
                refine q_xg (v := (.bool t_46.2)) hF hS (ex_move rfl) (wanted_t hF rfl rfl rfl hc15) rfl fun a hF => ?_
                refine q_xg (v := (.bool (!t_46.2))) hF hS (ex_not rfl) (wanted_t hF rfl rfl rfl hc15) rfl fun a hF => ?_
                refine q_x (v := (.bool (!t_46.2))) hF hS (ex_pick_f rfl rfl hc15) rfl rfl fun a hF => ?_
                refine q_x (v := (.bool (!t_46.2))) hF hS (ex_move rfl) rfl rfl fun a hF => ?_
                rcases bcase (!t_46.2) with hc16 | hc16
                · have hj14 := cond_f hc16 hj14
                  refine q_xg (v := (.int .i64 t_44.1)) hF hS (ex_move rfl) (wanted_t hF rfl rfl rfl hc16) rfl fun a hF => ?_
                  refine q_xg (v := s15.v) hF hS (ex_move rfl) (wanted_t hF rfl rfl rfl hc16) rfl fun a hF => ?_
                  refine q_xg (v := (.int .i64 (goLen t_12.1))) hF hS (ex_len Try.underlying23 rfl (h15.mono hm21.le).len) (wanted_t hF rfl rfl rfl hc16) rfl fun a hF => ?_
                  refine q_xg (v := (.bool (t_44.1 != (goLen t_12.1)))) hF hS (ex_ibin rfl rfl rfl) (wanted_t hF rfl rfl rfl hc16) rfl fun a hF => ?_
                  refine q_x (v := (.bool (t_44.1 != (goLen t_12.1)))) hF hS (ex_pick_f rfl rfl hc16) rfl rfl fun a hF => ?_
                  refine q_end (n_jn ?_)
                  obtain rfl := someI hj14
                  exact ⟨hF.sub ⟨rfl, rfl, rfl, rfl, rfl, rfl, rfl, trivial⟩, hS⟩
                · have hj14 := cond_t hc16 hj14
                  refine q_skip hF (wanted_f hF rfl rfl rfl hc16 rfl) rfl fun a hF => ?_
                  refine q_skip hF (wanted_f hF rfl rfl rfl hc16 rfl) rfl fun a hF => ?_
                  refine q_skip hF (wanted_f hF rfl rfl rfl hc16 rfl) rfl fun a hF => ?_
                  refine q_skip hF (wanted_f hF rfl rfl rfl hc16 rfl) rfl fun a hF => ?_
                  refine q_x (v := (.bool true)) hF hS (ex_pick_t rfl rfl hc16) rfl rfl fun a hF => ?_
                  refine q_end (n_jn ?_)
                  obtain rfl := someI hj14
                  exact ⟨hF.sub ⟨rfl, rfl, rfl, rfl, rfl, rfl, rfl, trivial⟩, hS⟩
              · have hj14 := cond_t hc15 hj14
                refine q_skip hF (wanted_f hF rfl rfl rfl hc15 rfl) rfl fun a hF => ?_
                refine q_skip hF (wanted_f hF rfl rfl rfl hc15 rfl) rfl fun a hF => ?_
                refine q_x (v := (.bool true)) hF hS (ex_pick_t rfl rfl hc15) rfl rfl fun a hF => ?_
                refine q_x (v := (.bool true)) hF hS (ex_move rfl) rfl rfl fun a hF => ?_
                refine q_skip hF (wanted_f hF rfl rfl rfl rfl rfl) rfl fun a hF => ?_
                refine q_skip hF (wanted_f hF rfl rfl rfl rfl rfl) rfl fun a hF => ?_
                refine q_skip hF (wanted_f hF rfl rfl rfl rfl rfl) rfl fun a hF => ?_
                refine q_skip hF (wanted_f hF rfl rfl rfl rfl rfl) rfl fun a hF => ?_
                refine q_x (v := (.bool true)) hF hS (ex_pick_t rfl rfl rfl) rfl rfl fun a hF => ?_
                refine q_end (n_jn ?_)
                obtain rfl := someI hj14
                exact ⟨hF.sub ⟨rfl, rfl, rfl, rfl, rfl, rfl, rfl, trivial⟩, hS⟩
            · rintro a w ⟨hF, hS⟩
              refine n_sq ?_
              rcases bcase (t_48) with hc17 | hc17
              · have hr := cond_f hc17 hr
                refine q_cond_f hF rfl hc17 ?_
                refine q_skipc (n_sq ?_)
                refine q_seq ?_
                refine q_region ?_
                refine q_x (v := s15.v) hF hS (ex_move rfl) rfl rfl fun a hF => ?_
                refine q_x (v := (.int .i64 (goLen t_12.1))) hF hS (ex_len Try.underlying23 rfl (h15.mono hm21.le).len) rfl rfl fun a hF => ?_
                obtain ⟨l_49, hl_49, hr⟩ := bindS hr
                refine q_do rfl fun _ hK => wp_make (z := (0 : Int)) hF hS Try.underlying23 inf3 rfl rfl rfl rfl rfl (by decide) hl_49 rfl fun a w q50 s50 hF hS h50 _ => hK _ _ ?_
                refine q_x (v := s50.v) hF hS (ex_assign rfl) rfl rfl fun a hF => ?_
                refine q_end (n_sq ?_)
                refine q_seq ?_
                refine q_seq ?_
                refine q_region ?_
                refine q_x (v := s9.v) hF hS (ex_move rfl) rfl rfl fun a hF => ?_
                refine q_x (v := (.int .i64 (goLen t_3.2.2.2))) hF hS (ex_len Try.underlying29 rfl (h9.mono hm21.le).len) rfl rfl fun a hF => ?_
                refine q_x (v := (.int .i64 0)) hF hS (ex_move rfl) rfl rfl fun a hF => ?_
                refine q_end (n_sq ?_)
                refine q_block ?_
                obtain ⟨o18, hl18, hr⟩ := bindS hr
                refine q_loop (fun (s : (List Int) × Int) a w => ∃ (q52 : Piece), ∃ sums_51, ∃ t_53, s = (sums_51, t_53) ∧ Fr a 224 [(5, (.pointer (some ⟨b10, 0, none⟩))), (6, s6.v), (7, (.pointer (some ⟨b11, 0, none⟩))), (9, s15.v), (27, (.int .i64 t_46.1)), (29, s50.v), (164, s9.v), (165, (.int .i64 (goLen t_3.2.2.2))), (166, (.int .i64 t_53))] ∧ St [] w0 w m21 [q52, q9, q15, q7, q8, q5, [⟨b11, [(.int .i64 t_3.2.2.1.Level), s7.v, s8.v, (.int .i64 t_3.2.2.1.Sum)], 28⟩], [⟨b10, [s5.v], 25⟩]] ∧ OwnL m21 3 q52 s50 sums_51) (fun (o : ((List Int)) ⊕ (Bool)) e a w => ∃ (q71 : Piece), ∃ sums_70, o = .inl sums_70 ∧ e = .exit 0 ∧ Fr a 224 [(9, s15.v), (29, s50.v)] ∧ St [] w0 w m21 [q15, q71] ∧ OwnL m21 3 q71 s50 sums_70) hl18 ⟨q50, _, _, rfl, hF.sub ⟨rfl, rfl, rfl, rfl, rfl, rfl, rfl, rfl, rfl, trivial⟩, hS, h50⟩ ?_ ?_
                · clear hF hS
                  rintro s a w st ⟨q52, sums_51, t_53, rfl, hF, hS, h52⟩ hb18
                  unfold laws_FnTables_l1 at hb18
                  refine q_seq ?_
                  refine q_region ?_
                  refine q_x (v := (.bool (decide (t_53 < (goLen t_3.2.2.2))))) hF hS (ex_ibin rfl rfl rfl) rfl rfl fun a hF => ?_
                  refine q_end (n_sq ?_)
                  refine q_seq ?_
                  rcases bcase (decide (t_53 < (goLen t_3.2.2.2))) with hc19 | hc19
                  · have hb18 := cond_f hc19 hb18
                    refine q_cond_f hF rfl hc19 ?_
                    refine q_exit (x_sq ?_)
                    obtain rfl := someI hb18
                    exact ⟨nofun, .inl ⟨q52, _, rfl, rfl, hF.sub ⟨rfl, rfl, trivial⟩, hS.sel [2, 0] (by decide), h52⟩⟩
                  · have hb18 := cond_t hc19 hb18
                    refine q_cond_t hF rfl hc19 ?_
                    refine q_skipc (n_sq ?_)
                    refine q_seq ?_
                    refine q_block ?_
                    refine q_seq ?_
                    refine q_region ?_
                    obtain ⟨e_54, he_54, hb18⟩ := bindS hb18
                    obtain ⟨vs55, at55, d55⟩ := (h9.mono hm21.le).at he_54 3 rfl
                    obtain ⟨s56, rfl, h56⟩ : ∃ s56 : Sl, vs55 = [(.int .i64 e_54.Area), (.int .i64 e_54.House), s56.v] ∧ Rd m21 s56 e_54.Values := d55
                    refine q_x (v := (elP s9 (t_53.toNat * 3))) hF hS (ex_indexAddr Try.underlying29 sz41 rfl rfl ((h9.mono hm21.le).idx he_54)) rfl rfl fun a hF => ?_
                    refine q_x (v := (.agg #[(.int .i64 e_54.Area), (.int .i64 e_54.House), s56.v])) hF hS (ex_loadEA (us := [(.int .i64 e_54.Area), (.int .i64 e_54.House), s56.v]) 0 Try.underlying41 rfl sz41 rfl (at55.at 1 rfl) rfl rfl rfl) rfl rfl fun a hF => ?_
                    refine q_alloc (cs := [(.int .i64 0), (.int .i64 0), nilS.v]) hF hS rfl rfl rfl fun a w b57 hF hS => ?_
                    refine q_store (vs := [(.int .i64 e_54.Area), (.int .i64 e_54.House), s56.v]) (cs' := [(.int .i64 e_54.Area), (.int .i64 e_54.House), s56.v]) 0 0 hF hS sz41 rfl rfl rfl rfl rfl rfl rfl rfl fun a w hF hS => ?_
                    refine q_end (n_sq ?_)
                    refine q_seq ?_
                    refine q_region ?_
                    refine q_x (v := (.agg #[s5.v])) hF hS (ex_loadA (vs := [s5.v]) 8 0 Try.underlying25 rfl sz25 rfl rfl rfl rfl) rfl rfl fun a hF => ?_
                    refine q_x (v := s6.v) hF hS (ex_move rfl) rfl rfl fun a hF => ?_
                    refine q_x (v := (.agg #[(.int .i64 t_3.2.2.1.Level), s7.v, s8.v, (.int .i64 t_3.2.2.1.Sum)])) hF hS (ex_loadA (vs := [(.int .i64 t_3.2.2.1.Level), s7.v, s8.v, (.int .i64 t_3.2.2.1.Sum)]) 7 0 Try.underlying28 rfl sz28 rfl rfl rfl rfl) rfl rfl fun a hF => ?_
                    refine q_x (v := (.agg #[(.int .i64 e_54.Area), (.int .i64 e_54.House), s56.v])) hF hS (ex_loadA (vs := [(.int .i64 e_54.Area), (.int .i64 e_54.House), s56.v]) 0 0 Try.underlying41 rfl sz41 rfl rfl rfl rfl) rfl rfl fun a hF => ?_
                    obtain ⟨m59, hl59, hv59, hz59⟩ := hS.lend
                    obtain ⟨t_58, ht_58, hb18⟩ := bindS hb18
                    refine q_call (vs := [(.agg #[s5.v]), s6.v, (.agg #[(.int .i64 t_3.2.2.1.Level), s7.v, s8.v, (.int .i64 t_3.2.2.1.Sum)]), (.agg #[(.int .i64 e_54.Area), (.int .i64 e_54.House), s56.v])]) hF hS Try.func12 (by kernel_rfl) rfl rfl rfl (c_impl_ContributionOf t_3.1 t_3.2.1 t_3.2.2.1 e_54 t_58 ht_58 _ m59 hv59 s5 ((h5.mono hm21.le).froz hl59 (hz59 6 _ rfl)) s6 ((h6.mono hm21.le).mono hl59) s7 ((h7.mono hm21.le).froz hl59 (hz59 4 _ rfl)) s8 ((h8.mono hm21.le).froz hl59 (hz59 5 _ rfl)) s56 (h56.mono hl59)) ?_
                    rintro a w _ rfl hF hS
                    refine q_x (v := (.tuple #[(.int .i64 t_58.1), (.int .i64 t_58.2.1), (.bool t_58.2.2)])) hF hS (ex_move rfl) rfl rfl fun a hF => ?_
                    refine q_x (v := (.int .i64 t_58.1)) hF hS (ex_extract rfl rfl) rfl rfl fun a hF => ?_
                    refine q_x (v := (.int .i64 t_58.2.1)) hF hS (ex_extract rfl rfl) rfl rfl fun a hF => ?_
                    refine q_x (v := (.bool t_58.2.2)) hF hS (ex_extract rfl rfl) rfl rfl fun a hF => ?_
                    refine q_x (v := (.int .i64 t_58.1)) hF hS (ex_assign rfl) rfl rfl fun a hF => ?_
                    refine q_x (v := (.int .i64 t_58.2.1)) hF hS (ex_assign rfl) rfl rfl fun a hF => ?_
                    refine q_x (v := (.bool t_58.2.2)) hF hS (ex_assign rfl) rfl rfl fun a hF => ?_
                    refine q_end (n_sq ?_)
                    refine q_seq ?_
                    refine q_region ?_
                    refine q_x (v := s6.v) hF hS (ex_move rfl) rfl rfl fun a hF => ?_
                    refine q_x (v := (.agg #[(.int .i64 t_3.2.2.1.Level), s7.v, s8.v, (.int .i64 t_3.2.2.1.Sum)])) hF hS (ex_loadA (vs := [(.int .i64 t_3.2.2.1.Level), s7.v, s8.v, (.int .i64 t_3.2.2.1.Sum)]) 7 0 Try.underlying28 rfl sz28 rfl rfl rfl rfl) rfl rfl fun a hF => ?_
                    refine q_x (v := (.agg #[(.int .i64 e_54.Area), (.int .i64 e_54.House), s56.v])) hF hS (ex_loadA (vs := [(.int .i64 e_54.Area), (.int .i64 e_54.House), s56.v]) 0 0 Try.underlying41 rfl sz41 rfl rfl rfl rfl) rfl rfl fun a hF => ?_
                    obtain ⟨m61, hl61, hv61, hz61⟩ := hS.lend
                    obtain ⟨t_60, ht_60, hb18⟩ := bindS hb18
                    refine q_call (vs := [s6.v, (.agg #[(.int .i64 t_3.2.2.1.Level), s7.v, s8.v, (.int .i64 t_3.2.2.1.Sum)]), (.agg #[(.int .i64 e_54.Area), (.int .i64 e_54.House), s56.v])]) hF hS Try.func22 (by kernel_rfl) rfl rfl rfl (c_impl_MeetsWhere t_3.2.1 t_3.2.2.1 e_54 t_60 ht_60 _ m61 hv61 s6 ((h6.mono hm21.le).mono hl61) s7 ((h7.mono hm21.le).froz hl61 (hz61 4 _ rfl)) s8 ((h8.mono hm21.le).froz hl61 (hz61 5 _ rfl)) s56 (h56.mono hl61)) ?_
                    rintro a w _ rfl hF hS
                    refine q_x (v := (.tuple #[(.bool t_60.1), (.bool t_60.2)])) hF hS (ex_move rfl) rfl rfl fun a hF => ?_
                    refine q_x (v := (.bool t_60.1)) hF hS (ex_extract rfl rfl) rfl rfl fun a hF => ?_
                    refine q_x (v := (.bool t_60.2)) hF hS (ex_extract rfl rfl) rfl rfl fun a hF => ?_
                    refine q_x (v := (.bool t_60.1)) hF hS (ex_assign rfl) rfl rfl fun a hF => ?_
                    refine q_x (v := (.bool t_60.2)) hF hS (ex_assign rfl) rfl rfl fun a hF => ?_
                    refine q_end (n_sq ?_)
                    refine q_seq ?_
                    refine q_seq ?_
                    obtain ⟨t_62, hj20, hb18⟩ := bindS hb18
                    refine q_join (fun a w => Fr a 224 [(5, (.pointer (some ⟨b10, 0, none⟩))), (6, s6.v), (7, (.pointer (some ⟨b11, 0, none⟩))), (9, s15.v), (27, (.int .i64 t_46.1)), (29, s50.v), (32, (.int .i64 t_58.1)), (33, (.int .i64 t_58.2.1)), (164, s9.v), (165, (.int .i64 (goLen t_3.2.2.2))), (166, (.int .i64 t_53)), (210, (.bool t_62))] ∧ St [] w0 w m21 [q15, q52, q9, q7, q8, q5, [⟨b11, [(.int .i64 t_3.2.2.1.Level), s7.v, s8.v, (.int .i64 t_3.2.2.1.Sum)], 28⟩], [⟨b10, [s5.v], 25⟩]]) ?_ ?_
                    · refine q_region ?_
                      refine q_x (v := (.bool t_58.2.2)) hF hS (ex_move rfl) rfl rfl fun a hF => ?_
                      refine q_x (v := (.bool (!t_58.2.2))) hF hS (ex_not rfl) rfl rfl fun a hF => ?_
                      refine q_x (v := (.bool (!t_58.2.2))) hF hS (ex_move rfl) rfl rfl fun a hF => ?_
                      rcases bcase (!t_58.2.2) with hc21 | hc21
                      · have hj20 := cond_f hc21 hj20
                        refine q_xg (v := (.bool t_60.2)) hF hS (ex_move rfl) (wanted_t hF rfl rfl rfl hc21) rfl fun a hF => ?_
                        refine q_xg (v := (.bool (!t_60.2))) hF hS (ex_not rfl) (wanted_t hF rfl rfl rfl hc21) rfl fun a hF => ?_
                        refine q_x (v := (.bool (!t_60.2))) hF hS (ex_pick_f rfl rfl hc21) rfl rfl fun a hF => ?_
                        refine q_x (v := (.bool (!t_60.2))) hF hS (ex_move rfl) rfl rfl fun a hF => ?_
                        rcases bcase (!t_60.2) with hc22 | hc22
                        · have hj20 := cond_f hc22 hj20
                          refine q_xg (v := (.int .i64 t_58.1)) hF hS (ex_move rfl) (wanted_t hF rfl rfl rfl hc22) rfl fun a hF => ?_
                          refine q_xg (v := s15.v) hF hS (ex_move rfl) (wanted_t hF rfl rfl rfl hc22) rfl fun a hF => ?_
                          refine q_xg (v := (.int .i64 (goLen t_12.1))) hF hS (ex_len Try.underlying23 rfl (h15.mono hm21.le).len) (wanted_t hF rfl rfl rfl hc22) rfl fun a hF => ?_
                          refine q_xg (v := (.bool (decide ((goLen t_12.1) ≤ t_58.1)))) hF hS (ex_ibin rfl rfl rfl) (wanted_t hF rfl rfl rfl hc22) rfl fun a hF => ?_
                          refine q_x (v := (.bool (decide ((goLen t_12.1) ≤ t_58.1)))) hF hS (ex_pick_f rfl rfl hc22) rfl rfl fun a hF => ?_
                          refine q_x (v := (.bool (decide ((goLen t_12.1) ≤ t_58.1)))) hF hS (ex_move rfl) rfl rfl fun a hF => ?_
                          rcases bcase (decide ((goLen t_12.1) ≤ t_58.1)) with hc23 | hc23
                          · have hj20 := cond_f hc23 hj20
                            refine q_xg (v := (.int .i64 t_58.2.1)) hF hS (ex_move rfl) (wanted_t hF rfl rfl rfl hc23) rfl fun a hF => ?_
                            refine q_xg (v := (.int .i64 t_46.1)) hF hS (ex_move rfl) (wanted_t hF rfl rfl rfl hc23) rfl fun a hF => ?_
                            refine q_xg (v := (.bool (decide (t_46.1 < t_58.2.1)))) hF hS (ex_ibin rfl rfl rfl) (wanted_t hF rfl rfl rfl hc23) rfl fun a hF => ?_
                            refine q_x (v := (.bool (decide (t_46.1 < t_58.2.1)))) hF hS (ex_pick_f rfl rfl hc23) rfl rfl fun a hF => ?_
                            refine q_x (v := (.bool (decide (t_46.1 < t_58.2.1)))) hF hS (ex_move rfl) rfl rfl fun a hF => ?_
                            rcases bcase (decide (t_46.1 < t_58.2.1)) with hc24 | hc24
                            · have hj20 := cond_f hc24 hj20
                              refine q_xg (v := (.int .i64 t_58.1)) hF hS (ex_move rfl) (wanted_t hF rfl rfl rfl hc24) rfl fun a hF => ?_
                              refine q_xg (v := (.bool (decide (0 ≤ t_58.1)))) hF hS (ex_ibin rfl rfl rfl) (wanted_t hF rfl rfl rfl hc24) rfl fun a hF => ?_
                              refine q_xg (v := (.bool (decide (0 ≤ t_58.1)))) hF hS (ex_move rfl) (wanted_t hF rfl rfl rfl hc24) rfl fun a hF => ?_
                              rcases bcase (decide (0 ≤ t_58.1)) with hc25 | hc25
                              · have hj20 := cond_f hc25 hj20
                                refine q_skip hF (wanted_f hF rfl rfl rfl hc25 rfl) rfl fun a hF => ?_
                                refine q_skip hF (wanted_f hF rfl rfl rfl hc25 rfl) rfl fun a hF => ?_
                                refine q_xg (v := (.bool false)) hF hS (ex_pick_f rfl rfl hc25) (wanted_t hF rfl rfl rfl hc24) rfl fun a hF => ?_
                                refine q_x (v := (.bool false)) hF hS (ex_pick_f rfl rfl hc24) rfl rfl fun a hF => ?_
                                refine q_end (n_jn ?_)
                                obtain rfl := someI hj20
                                exact ⟨hF.sub ⟨rfl, rfl, rfl, rfl, rfl, rfl, rfl, rfl, rfl, rfl, rfl, rfl, trivial⟩, hS.sel [3, 1, 2, 4, 5, 6, 7, 8] (by decide)⟩
                              · have hj20 := cond_t hc25 hj20
                                refine q_xg (v := (.bool t_60.1)) hF hS (ex_move rfl) (wanted_t hF rfl rfl rfl hc25) rfl fun a hF => ?_
                                refine q_xg (v := (.bool (!t_60.1))) hF hS (ex_not rfl) (wanted_t hF rfl rfl rfl hc25) rfl fun a hF => ?_
                                refine q_xg (v := (.bool (!t_60.1))) hF hS (ex_pick_t rfl rfl hc25) (wanted_t hF rfl rfl rfl hc24) rfl fun a hF => ?_
                                refine q_x (v := (.bool (!t_60.1))) hF hS (ex_pick_f rfl rfl hc24) rfl rfl fun a hF => ?_
                                refine q_end (n_jn ?_)
                                obtain rfl := someI hj20
                                exact ⟨hF.sub ⟨rfl, rfl, rfl, rfl, rfl, rfl, rfl, rfl, rfl, rfl, rfl, rfl, trivial⟩, hS.sel [3, 1, 2, 4, 5, 6, 7, 8] (by decide)⟩
                            · have hj20 := cond_t hc24 hj20
                              refine q_skip hF (wanted_f hF rfl rfl rfl hc24 rfl) rfl fun a hF => ?_
                              refine q_skip hF (wanted_f hF rfl rfl rfl hc24 rfl) rfl fun a hF => ?_
                              refine q_skip hF (wanted_f hF rfl rfl rfl hc24 rfl) rfl fun a hF => ?_
                              refine q_skip hF (wanted_u hF rfl rfl rfl) rfl fun a hF => ?_
                              refine q_skip hF (wanted_u hF rfl rfl rfl) rfl fun a hF => ?_
                              refine q_skip hF (wanted_f hF rfl rfl rfl hc24 rfl) rfl fun a hF => ?_
                              refine q_x (v := (.bool true)) hF hS (ex_pick_t rfl rfl hc24) rfl rfl fun a hF => ?_
                              refine q_end (n_jn ?_)
                              obtain rfl := someI hj20
                              exact ⟨hF.sub ⟨rfl, rfl, rfl, rfl, rfl, rfl, rfl, rfl, rfl, rfl, rfl, rfl, trivial⟩, hS.sel [3, 1, 2, 4, 5, 6, 7, 8] (by decide)⟩
                          · have hj20 := cond_t hc23 hj20
                            refine q_skip hF (wanted_f hF rfl rfl rfl hc23 rfl) rfl fun a hF => ?_
                            refine q_skip hF (wanted_f hF rfl rfl rfl hc23 rfl) rfl fun a hF => ?_
                            refine q_skip hF (wanted_f hF rfl rfl rfl hc23 rfl) rfl fun a hF => ?_
                            refine q_x (v := (.bool true)) hF hS (ex_pick_t rfl rfl hc23) rfl rfl fun a hF => ?_
                            refine q_x (v := (.bool true)) hF hS (ex_move rfl) rfl rfl fun a hF => ?_
                            refine q_skip hF (wanted_f hF rfl rfl rfl rfl rfl) rfl fun a hF => ?_
                            refine q_skip hF (wanted_f hF rfl rfl rfl rfl rfl) rfl fun a hF => ?_
                            refine q_skip hF (wanted_f hF rfl rfl rfl rfl rfl) rfl fun a hF => ?_
                            refine q_skip hF (wanted_u hF rfl rfl rfl) rfl fun a hF => ?_
                            refine q_skip hF (wanted_u hF rfl rfl rfl) rfl fun a hF => ?_
                            refine q_skip hF (wanted_f hF rfl rfl rfl rfl rfl) rfl fun a hF => ?_
                            refine q_x (v := (.bool true)) hF hS (ex_pick_t rfl rfl rfl) rfl rfl fun a hF => ?_
                            refine q_end (n_jn ?_)
                            obtain rfl := someI hj20
                            exact ⟨hF.sub ⟨rfl, rfl, rfl, rfl, rfl, rfl, rfl, rfl, rfl, rfl, rfl, rfl, trivial⟩, hS.sel [3, 1, 2, 4, 5, 6, 7, 8] (by decide)⟩
                        · have hj20 := cond_t hc22 hj20
                          refine q_skip hF (wanted_f hF rfl rfl rfl hc22 rfl) rfl fun a hF => ?_
                          refine q_skip hF (wanted_f hF rfl rfl rfl hc22 rfl) rfl fun a hF => ?_
                          refine q_skip hF (wanted_f hF rfl rfl rfl hc22 rfl) rfl fun a hF => ?_
                          refine q_skip hF (wanted_f hF rfl rfl rfl hc22 rfl) rfl fun a hF => ?_
                          refine q_x (v := (.bool true)) hF hS (ex_pick_t rfl rfl hc22) rfl rfl fun a hF => ?_
                          refine q_x (v := (.bool true)) hF hS (ex_move rfl) rfl rfl fun a hF => ?_
                          refine q_skip hF (wanted_f hF rfl rfl rfl rfl rfl) rfl fun a hF => ?_
                          refine q_skip hF (wanted_f hF rfl rfl rfl rfl rfl) rfl fun a hF => ?_
                          refine q_skip hF (wanted_f hF rfl rfl rfl rfl rfl) rfl fun a hF => ?_
                          refine q_x (v := (.bool true)) hF hS (ex_pick_t rfl rfl rfl) rfl rfl fun a hF => ?_
                          refine q_x (v := (.bool true)) hF hS (ex_move rfl) rfl rfl fun a hF => ?_
                          refine q_skip hF (wanted_f hF rfl rfl rfl rfl rfl) rfl fun a hF => ?_
                          refine q_skip hF (wanted_f hF rfl rfl rfl rfl rfl) rfl fun a hF => ?_
                          refine q_skip hF (wanted_f hF rfl rfl rfl rfl rfl) rfl fun a hF => ?_
                          refine q_skip hF (wanted_u hF rfl rfl rfl) rfl fun a hF => ?_
                          refine q_skip hF (wanted_u hF rfl rfl rfl) rfl fun a hF => ?_
                          refine q_skip hF (wanted_f hF rfl rfl rfl rfl rfl) rfl fun a hF => ?_
                          refine q_x (v := (.bool true)) hF hS (ex_pick_t rfl rfl rfl) rfl rfl fun a hF => ?_
                          refine q_end (n_jn ?_)
                          obtain rfl := someI hj20
                          exact ⟨hF.sub ⟨rfl, rfl, rfl, rfl, rfl, rfl, rfl, rfl, rfl, rfl, rfl, rfl, trivial⟩, hS.sel [3, 1, 2, 4, 5, 6, 7, 8] (by decide)⟩
                      · have hj20 := cond_t hc21 hj20
                        refine q_skip hF (wanted_f hF rfl rfl rfl hc21 rfl) rfl fun a hF => ?_
                        refine q_skip hF (wanted_f hF rfl rfl rfl hc21 rfl) rfl fun a hF => ?_
                        refine q_x (v := (.bool true)) hF hS (ex_pick_t rfl rfl hc21) rfl rfl fun a hF => ?_
                        refine q_x (v := (.bool true)) hF hS (ex_move rfl) rfl rfl fun a hF => ?_
                        refine q_skip hF (wanted_f hF rfl rfl rfl rfl rfl) rfl fun a hF => ?_
                        refine q_skip hF (wanted_f hF rfl rfl rfl rfl rfl) rfl fun a hF => ?_
                        refine q_skip hF (wanted_f hF rfl rfl rfl rfl rfl) rfl fun a hF => ?_
                        refine q_skip hF (wanted_f hF rfl rfl rfl rfl rfl) rfl fun a hF => ?_
                        refine q_x (v := (.bool true)) hF hS (ex_pick_t rfl rfl rfl) rfl rfl fun a hF => ?_
                        refine q_x (v := (.bool true)) hF hS (ex_move rfl) rfl rfl fun a hF => ?_
                        refine q_skip hF (wanted_f hF rfl rfl rfl rfl rfl) rfl fun a hF => ?_
                        refine q_skip hF (wanted_f hF rfl rfl rfl rfl rfl) rfl fun a hF => ?_
                        refine q_skip hF (wanted_f hF rfl rfl rfl rfl rfl) rfl fun a hF => ?_
                        refine q_x (v := (.bool true)) hF hS (ex_pick_t rfl rfl rfl) rfl rfl fun a hF => ?_
                        refine q_x (v := (.bool true)) hF hS (ex_move rfl) rfl rfl fun a hF => ?_
                        refine q_skip hF (wanted_f hF rfl rfl rfl rfl rfl) rfl fun a hF => ?_
                        refine q_skip hF (wanted_f hF rfl rfl rfl rfl rfl) rfl fun a hF => ?_
                        refine q_skip hF (wanted_f hF rfl rfl rfl rfl rfl) rfl fun a hF => ?_
                        refine q_skip hF (wanted_u hF rfl rfl rfl) rfl fun a hF => ?_
                        refine q_skip hF (wanted_u hF rfl rfl rfl) rfl fun a hF => ?_
                        refine q_skip hF (wanted_f hF rfl rfl rfl rfl rfl) rfl fun a hF => ?_
                        refine q_x (v := (.bool true)) hF hS (ex_pick_t rfl rfl rfl) rfl rfl fun a hF => ?_
                        refine q_end (n_jn ?_)
                        obtain rfl := someI hj20
                        exact ⟨hF.sub ⟨rfl, rfl, rfl, rfl, rfl, rfl, rfl, rfl, rfl, rfl, rfl, rfl, trivial⟩, hS.sel [3, 1, 2, 4, 5, 6, 7, 8] (by decide)⟩
                    · rintro a w ⟨hF, hS⟩
                      refine n_sq ?_
                      rcases bcase (t_62) with hc26 | hc26
                      · have hb18 := cond_f hc26 hb18
                        refine q_cond_f hF rfl hc26 ?_
                        refine q_skipc (n_sq ?_)
                        refine q_seq ?_
                        refine q_region ?_
                        refine q_x (v := (.int .i64 t_58.1)) hF hS (ex_move rfl) rfl rfl fun a hF => ?_
                        refine q_x (v := (.bool (decide (0 ≤ t_58.1)))) hF hS (ex_ibin rfl rfl rfl) rfl rfl fun a hF => ?_
                        refine q_end (n_sq ?_)
                        obtain ⟨sums_68, hj27, hb18⟩ := bindS hb18
                        refine q_join (fun a w => ∃ (q69 : Piece), Fr a 224 [(5, (.pointer (some ⟨b10, 0, none⟩))), (6, s6.v), (7, (.pointer (some ⟨b11, 0, none⟩))), (9, s15.v), (27, (.int .i64 t_46.1)), (29, s50.v), (164, s9.v), (165, (.int .i64 (goLen t_3.2.2.2))), (166, (.int .i64 t_53))] ∧ St [] w0 w m21 [q15, q69, q9, q7, q8, q5, [⟨b11, [(.int .i64 t_3.2.2.1.Level), s7.v, s8.v, (.int .i64 t_3.2.2.1.Sum)], 28⟩], [⟨b10, [s5.v], 25⟩]] ∧ OwnL m21 3 q69 s50 sums_68) ?_ ?_
                        · rcases bcase (decide (0 ≤ t_58.1)) with hc28 | hc28
                          · have hj27 := cond_f hc28 hj27
                            refine q_cond_f hF rfl hc28 ?_
                            refine q_skipc (n_jn ?_)
                            obtain rfl := someI hj27
                            exact ⟨q52, hF.sub ⟨rfl, rfl, rfl, rfl, rfl, rfl, rfl, rfl, rfl, trivial⟩, hS, h52⟩
                          · have hj27 := cond_t hc28 hj27
                            refine q_cond_t hF rfl hc28 ?_
                            refine q_region ?_
                            refine q_x (v := s50.v) hF hS (ex_move rfl) rfl rfl fun a hF => ?_
                            refine q_x (v := (.int .i64 t_58.1)) hF hS (ex_move rfl) rfl rfl fun a hF => ?_
                            obtain ⟨e_63, he_63, hj27⟩ := bindS hj27
                            obtain ⟨vs64, at64, d64⟩ := h52.at he_63 1 rfl
                            obtain rfl : vs64 = [(.int .i64 e_63)] := d64
                            refine q_x (v := (elP s50 (t_58.1.toNat * 1))) hF hS (ex_indexAddr Try.underlying23 sz3 rfl rfl (h52.idx he_63)) rfl rfl fun a hF => ?_
                            refine q_x (v := (.int .i64 e_63)) hF hS (ex_loadE1 0 Try.underlying3 rfl rfl (at64.at 1 rfl) rfl rfl) rfl rfl fun a hF => ?_
                            refine q_x (v := (.int .i64 t_58.2.1)) hF hS (ex_move rfl) rfl rfl fun a hF => ?_
                            refine q_x (v := (.int .i64 (w64 (e_63 + t_58.2.1)))) hF hS (ex_ibin rfl rfl rfl) rfl rfl fun a hF => ?_
                            obtain ⟨e_65, he_65, hj27⟩ := bindS hj27
                            obtain ⟨vs66, at66, d66⟩ := h52.at he_65 1 rfl
                            obtain rfl : vs66 = [(.int .i64 e_65)] := d66
                            refine q_x (v := (elP s50 (t_58.1.toNat * 1))) hF hS (ex_indexAddr Try.underlying23 sz3 rfl rfl (h52.idx he_65)) rfl rfl fun a hF => ?_
                            have hS : St _ _ _ _ [q52, q15, q9, q7, q8, q5, [⟨b11, [(.int .i64 t_3.2.2.1.Level), s7.v, s8.v, (.int .i64 t_3.2.2.1.Sum)], 28⟩], [⟨b10, [s5.v], 25⟩]] := hS.sel [1, 0, 2, 3, 4, 5, 6, 7] (by decide)
                            refine q_do rfl fun _ hK => wp_storeE (e' := (w64 (e_63 + t_58.2.1))) (us := [(.int .i64 (w64 (e_63 + t_58.2.1)))]) (vs := [(.int .i64 e_65)]) 0 hF hS h52 sz3 rfl rfl rfl rfl rfl rfl rfl he_65 at66 rfl rfl rfl fun w q67 hS h67 => hK _ _ ?_
                            refine q_end (n_jn ?_)
                            obtain rfl := someI hj27
                            exact ⟨q67, hF.sub ⟨rfl, rfl, rfl, rfl, rfl, rfl, rfl, rfl, rfl, trivial⟩, hS.sel [1, 0, 2, 3, 4, 5, 6, 7] (by decide), h67⟩
                        · rintro a w ⟨q69, hF, hS, h69⟩
                          refine n_ib (n_sq ?_)
                          refine q_region ?_
                          refine q_x (v := (.int .i64 (w64 (t_53 + 1)))) hF hS (ex_ibin rfl rfl rfl) rfl rfl fun a hF => ?_
                          refine q_x (v := (.int .i64 (w64 (t_53 + 1)))) hF hS (ex_move rfl) rfl rfl fun a hF => ?_
                          refine q_end ?_
                          obtain rfl := someI hb18
                          exact ⟨rfl, q69, _, _, rfl, hF.sub ⟨rfl, rfl, rfl, rfl, rfl, rfl, rfl, rfl, rfl, trivial⟩, hS.sel [1, 2, 0, 3, 4, 5, 6, 7] (by decide), h69⟩
                      · have hb18 := cond_t hc26 hb18
                        refine q_cond_t hF rfl hc26 ?_
                        refine q_seq ?_
                        refine q_region ?_
                        refine q_x (v := (.bool false)) hF hS (ex_assign rfl) rfl rfl fun a hF => ?_
                        refine q_end (n_sq (q_ret (r_sq (r_ib (r_sq ?_)))))
                        obtain rfl := someI hb18
                        refine ⟨nofun, .inr fun ho => ?_⟩
                        subst ho
                        refine r_ib (r_sq ?_)
                        obtain rfl := someI hr
                        exact ret_of hF hS rfl (.tmp rfl .nil) rfl
                · rintro e a w ⟨q71, sums_70, rfl, rfl, hF, hS, h71⟩
                  refine x_ib (n_sq ?_)
                  refine q_seq ?_
                  refine q_region ?_
                  refine q_x (v := s50.v) hF hS (ex_move rfl) rfl rfl fun a hF => ?_
                  refine q_x (v := s15.v) hF hS (ex_move rfl) rfl rfl fun a hF => ?_
                  obtain ⟨m73, hl73, hv73, hz73⟩ := hS.lend
                  obtain ⟨t_72, ht_72, hr⟩ := bindS hr
                  refine q_call (vs := [s50.v, s15.v]) hF hS Try.func11 (by kernel_rfl) rfl rfl rfl (c_laws_qInts sums_70 t_12.1 t_72 ht_72 _ m73 hv73 s50 (h71.froz hl73 (hz73 1 _ rfl)) s15 ((h15.mono hm21.le).froz hl73 (hz73 0 _ rfl))) ?_
                  rintro a w _ rfl hF hS
                  refine q_x (v := (.bool t_72)) hF hS (ex_assign rfl) rfl rfl fun a hF => ?_
                  refine q_end (n_sq (q_ret ?_))
                  obtain rfl := someI hr
                  exact ret_of hF hS rfl (.tmp rfl .nil) rfl
              · have hr := cond_t hc17 hr
                refine q_cond_t hF rfl hc17 ?_
                refine q_seq ?_
                refine q_region ?_
                refine q_x (v := (.bool false)) hF hS (ex_assign rfl) rfl rfl fun a hF => ?_
                refine q_end (n_sq (q_ret (r_sq ?_)))
                obtain rfl := someI hr
                exact ret_of hF hS rfl (.tmp rfl .nil) rfl
          · have hr := cond_t hc13 hr
            refine q_cond_t hF rfl hc13 ?_
            refine q_seq ?_
            refine q_region ?_
            refine q_x (v := (.bool true)) hF hS (ex_assign rfl) rfl rfl fun a hF => ?_
            refine q_end (n_sq (q_ret (r_sq ?_)))
            obtain rfl := someI hr
            exact ret_of hF hS rfl (.tmp rfl .nil) rfl
      · have hr := cond_t hc7 hr
        refine q_cond_t hF rfl hc7 ?_
        refine q_seq ?_
        refine q_region ?_
        refine q_x (v := (.bool false)) hF hS (ex_assign rfl) rfl rfl fun a hF => ?_
        refine q_end (n_sq (q_ret (r_sq ?_)))
        obtain rfl := someI hr
        exact ret_of hF hS rfl (.tmp rfl .nil) rfl
  · have hr := cond_t hc1 hr
    refine q_cond_t hF rfl hc1 ?_
    refine q_seq ?_
    refine q_region ?_
    refine q_x (v := (.bool true)) hF hS (ex_assign rfl) rfl rfl fun a hF => ?_
    refine q_end (n_sq (q_ret (r_sq ?_)))
    obtain rfl := someI hr
    exact ret_of hF hS rfl (.tmp rfl .nil) rfl

end Go.Proofs.Ytmlegfogjdhhkaa
