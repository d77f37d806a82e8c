/- The walks of the functions: each returns what its plain function says. -/
import Derived.Test.YtmlegfogjdhhkaaCWalks2
namespace Go.Proofs.Ytmlegfogjdhhkaa
open Go.Gx Go.Gx.F Go.RowKit
set_option linter.all false
set_option maxRecDepth 10000


theorem c_spec_DrawRecordsIn (p_code : List (K .u8)) (r : impl_Geo × (List impl_Variable) × impl_Table × (List impl_Record) × Int) (hr : spec_DrawRecordsIn p_code = some r) (w0 : World) (m : Mem) (hv : Vis m w0) (s1 : Sl) (h1 : Rd m s1 p_code) :
    Ret Try.prog 5 [s1.v] w0 (fun v w => ∃ (m' : Mem) (q0' : Piece) (q2' : Piece) (q3' : Piece) (q4' : Piece) (s0' : Sl) (s1' : Sl) (s2' : Sl) (s3' : Sl) (s4' : Sl), v = (.tuple #[(.agg #[s0'.v]), s1'.v, (.agg #[(.int .i64 r.2.2.1.Level), s2'.v, s3'.v, (.int .i64 r.2.2.1.Sum)]), s4'.v, (.int .i64 r.2.2.2.2)]) ∧ MLe [] w0.heap.size m m' ∧ St [] w0 w m' [q0', q2', q3', q4'] ∧ OwnL m' 3 q0' s0' r.1.Parents ∧ Rd m' s1' r.2.1 ∧ OwnL m' 3 q2' s2' r.2.2.1.Vars ∧ OwnL m' 3 q3' s3' r.2.2.1.Where ∧ OwnL m' 41 q4' s4' r.2.2.2.1) := by
  unfold spec_DrawRecordsIn at hr
  refine ret_start Try.func5 rfl 80 rfl rfl m hv fun a hF hS => ?_
  refine q_seq ?_
  refine q_region ?_
  refine q_alloc (cs := [nilS.v]) hF hS rfl rfl rfl fun a w b2 hF hS => ?_
  refine q_x (v := nilS.v) hF hS (ex_assign rfl) rfl rfl fun a hF => ?_
  refine q_alloc (cs := [(.int .i64 0), nilS.v, nilS.v, (.int .i64 0)]) hF hS rfl rfl rfl fun a w b3 hF hS => ?_
  refine q_x (v := nilS.v) hF hS (ex_assign rfl) rfl rfl fun a hF => ?_
  refine q_x (v := (.int .i64 0)) hF hS (ex_assign rfl) rfl rfl fun a hF => ?_
  refine q_end (n_sq ?_)
  refine q_seq ?_
  refine q_region ?_
  refine q_x (v := s1.v) hF hS (ex_move rfl) rfl rfl fun a hF => ?_
  refine q_x (v := (.agg #[s1.v, (.int .i64 0), (.int .u64 0)])) hF hS (ex_build (cells := [s1.v, (.int .i64 0), (.int .u64 0)]) rfl (by kernel_rfl)) rfl rfl fun a hF => ?_
  refine q_box (cs := [s1.v, (.int .i64 0), (.int .u64 0)]) hF hS rfl rfl rfl fun a w b4 hF hS => ?_
  refine q_x (v := (.pointer (some ⟨b4, 0, none⟩))) hF hS (ex_assign rfl) rfl rfl fun a hF => ?_
  refine q_end (n_sq ?_)
  refine q_seq ?_
  refine q_region ?_
  refine q_x (v := s1.v) hF hS (ex_move rfl) rfl rfl fun a hF => ?_
  obtain ⟨t_5, ht_5, hr⟩ := bindS hr
  refine q_call (vs := [s1.v]) hF hS Try.func14 (by kernel_rfl) rfl rfl rfl (c_spec_DrawTableOf p_code t_5 ht_5 _ m hS.vis s1 h1) ?_
  have hT := hS
  rintro a w _ ⟨m6, q7, q9, q10, q11, s7, s8, s9, s10, s11, rfl, hm6, hR6, h7, h8, h9, h10, h11⟩ hF hS2
  have hS : St _ _ _ _ [q7, q9, q10, q11, [⟨b4, [s1.v, (.int .i64 0), (.int .u64 0)], 58⟩], [⟨b3, [(.int .i64 0), nilS.v, nilS.v, (.int .i64 0)], 28⟩], [⟨b2, [nilS.v], 25⟩]] := hS.join hR6 hm6
  have hm6 := MLe.weakX (O0 := []) hT hm6
  refine q_x (v := (.tuple #[(.agg #[s7.v]), s8.v, (.agg #[(.int .i64 t_5.2.2.1.Level), s9.v, s10.v, (.int .i64 t_5.2.2.1.Sum)]), s11.v])) hF hS (ex_move rfl) rfl rfl fun a hF => ?_
  refine q_x (v := (.agg #[s7.v])) hF hS (ex_extract rfl rfl) rfl rfl fun a hF => ?_
  refine q_x (v := s8.v) hF hS (ex_extract rfl rfl) rfl rfl fun a hF => ?_
  refine q_x (v := (.agg #[(.int .i64 t_5.2.2.1.Level), s9.v, s10.v, (.int .i64 t_5.2.2.1.Sum)])) hF hS (ex_extract rfl rfl) rfl rfl fun a hF => ?_
  refine q_x (v := s11.v) hF hS (ex_extract rfl rfl) rfl rfl fun a hF => ?_
  refine q_alloc (cs := [nilS.v]) hF hS rfl rfl rfl fun a w b12 hF hS => ?_
  refine q_alloc (cs := [(.int .i64 0), nilS.v, nilS.v, (.int .i64 0)]) hF hS rfl rfl rfl fun a w b13 hF hS => ?_
  refine q_store (vs := [s7.v]) (cs' := [s7.v]) 1 0 hF hS sz25 rfl rfl rfl rfl rfl rfl rfl rfl fun a w hF hS => ?_
  refine q_x (v := s8.v) hF hS (ex_assign rfl) rfl rfl fun a hF => ?_
  refine q_store (vs := [(.int .i64 t_5.2.2.1.Level), s9.v, s10.v, (.int .i64 t_5.2.2.1.Sum)]) (cs' := [(.int .i64 t_5.2.2.1.Level), s9.v, s10.v, (.int .i64 t_5.2.2.1.Sum)]) 0 0 hF hS sz28 rfl rfl rfl rfl rfl rfl rfl rfl fun a w hF hS => ?_
  refine q_x (v := s11.v) hF hS (ex_assign rfl) rfl rfl fun a hF => ?_
  refine q_end (n_sq ?_)
  refine q_seq ?_
  refine q_seq ?_
  refine q_region ?_
  refine q_x (v := (.agg #[s7.v])) hF hS (ex_loadA (vs := [s7.v]) 1 0 Try.underlying25 rfl sz25 rfl rfl rfl rfl) rfl rfl fun a hF => ?_
  refine q_x (v := s8.v) hF hS (ex_move rfl) rfl rfl fun a hF => ?_
  refine q_x (v := (.agg #[(.int .i64 t_5.2.2.1.Level), s9.v, s10.v, (.int .i64 t_5.2.2.1.Sum)])) hF hS (ex_loadA (vs := [(.int .i64 t_5.2.2.1.Level), s9.v, s10.v, (.int .i64 t_5.2.2.1.Sum)]) 0 0 Try.underlying28 rfl sz28 rfl rfl rfl rfl) rfl rfl fun a hF => ?_
  obtain ⟨m15, hl15, hv15, hz15⟩ := hS.lend
  obtain ⟨t_14, ht_14, hr⟩ := bindS hr
  refine q_call (vs := [(.agg #[s7.v]), s8.v, (.agg #[(.int .i64 t_5.2.2.1.Level), s9.v, s10.v, (.int .i64 t_5.2.2.1.Sum)])]) hF hS Try.func23 (by kernel_rfl) rfl rfl rfl (c_spec_uGood t_5.1 t_5.2.1 t_5.2.2.1 t_14 ht_14 _ m15 hv15 s7 (h7.froz hl15 (hz15 2 _ rfl)) s8 (h8.mono hl15) s9 (h9.froz hl15 (hz15 3 _ rfl)) s10 (h10.froz hl15 (hz15 4 _ rfl))) ?_
  rintro a w _ rfl hF hS
  refine q_x (v := (.bool (!t_14))) hF hS (ex_not rfl) rfl rfl fun a hF => ?_
  refine q_end (n_sq ?_)
  rcases bcase (!t_14) with hc1 | hc1
  · have hr := cond_f hc1 hr
    refine q_cond_f hF rfl hc1 ?_
    refine q_skipc (n_sq ?_)
    refine q_seq ?_
    refine q_seq ?_
    obtain ⟨j2, hj2, hr⟩ := bindS hr
    refine q_join (fun a w => ∃ t_21, ∃ t_22, j2 = (t_21, t_22) ∧ Fr a 80 [(2, (.pointer (some ⟨b2, 0, none⟩))), (4, (.pointer (some ⟨b3, 0, none⟩))), (7, (.pointer (some ⟨b4, 0, none⟩))), (8, (.pointer (some ⟨b12, 0, none⟩))), (9, s8.v), (10, (.pointer (some ⟨b13, 0, none⟩))), (11, s11.v), (46, (.bool t_21))] ∧ St [] w0 w m6 [q11, q9, q10, q7, [⟨b13, [(.int .i64 t_5.2.2.1.Level), s9.v, s10.v, (.int .i64 t_5.2.2.1.Sum)], 28⟩], [⟨b12, [s7.v], 25⟩], [⟨b4, [s1.v, (.int .i64 t_22.at_), (.int .u64 t_22.seed.v)], 58⟩], [⟨b3, [(.int .i64 0), nilS.v, nilS.v, (.int .i64 0)], 28⟩], [⟨b2, [nilS.v], 25⟩]] ∧ Rd m6 s1 t_22.code ∧ t_22.code = p_code) ?_ ?_
    · refine q_region ?_
      refine q_x (v := (.agg #[s7.v])) hF hS (ex_loadA (vs := [s7.v]) 1 0 Try.underlying25 rfl sz25 rfl rfl rfl rfl) rfl rfl fun a hF => ?_
      refine q_x (v := s8.v) hF hS (ex_move rfl) rfl rfl fun a hF => ?_
      refine q_x (v := s11.v) hF hS (ex_move rfl) rfl rfl fun a hF => ?_
      obtain ⟨m17, hl17, hv17, hz17⟩ := hS.lend
      obtain ⟨t_16, ht_16, hj2⟩ := bindS hj2
      refine q_call (vs := [(.agg #[s7.v]), s8.v, s11.v]) hF hS Try.func24 (by kernel_rfl) rfl rfl rfl (c_spec_uSurvey t_5.1 t_5.2.1 t_5.2.2.2 t_16 ht_16 _ m17 hv17 s7 (h7.froz hl17 (hz17 2 _ rfl)) s8 (h8.mono hl17) s11 (h11.froz hl17 (hz17 5 _ rfl))) ?_
      rintro a w _ rfl hF hS
      refine q_x (v := (.bool t_16)) hF hS (ex_move rfl) rfl rfl fun a hF => ?_
      rcases bcase (t_16) with hc3 | hc3
      · have hj2 := cond_f hc3 hj2
        refine q_skip hF (wanted_f hF rfl rfl rfl hc3 rfl) rfl fun a hF => ?_
        refine q_skip hF (wanted_f hF rfl rfl rfl hc3 rfl) rfl fun a hF => ?_
        refine q_skip hF (wanted_f hF rfl rfl rfl hc3 rfl) rfl fun a hF => ?_
        refine q_x (v := (.bool false)) hF hS (ex_pick_f rfl rfl hc3) rfl rfl fun a hF => ?_
        refine q_x (v := (.bool false)) hF hS (ex_move rfl) rfl rfl fun a hF => ?_
        refine q_skip hF (wanted_f hF rfl rfl rfl rfl rfl) rfl fun a hF => ?_
        refine q_skip hF (wanted_f hF rfl rfl rfl rfl rfl) rfl fun a hF => ?_
        refine q_skip hF (wanted_f hF rfl rfl rfl rfl rfl) rfl fun a hF => ?_
        refine q_x (v := (.bool false)) hF hS (ex_pick_f rfl rfl rfl) rfl rfl fun a hF => ?_
        refine q_end (n_jn ?_)
        obtain rfl := someI hj2
        exact ⟨_, _, rfl, hF.sub ⟨rfl, rfl, rfl, rfl, rfl, rfl, rfl, rfl, trivial⟩, hS.sel [5, 3, 4, 2, 0, 1, 6, 7, 8] (by decide), (h1.mono hm6.le), rfl⟩
      · have hj2 := cond_t hc3 hj2
        refine q_xg (v := s11.v) hF hS (ex_move rfl) (wanted_t hF rfl rfl rfl hc3) rfl fun a hF => ?_
        refine q_xg (v := (.int .i64 (goLen t_5.2.2.2))) hF hS (ex_len Try.underlying29 rfl h11.len) (wanted_t hF rfl rfl rfl hc3) rfl fun a hF => ?_
        refine q_xg (v := (.bool (decide (0 < (goLen t_5.2.2.2))))) hF hS (ex_ibin rfl rfl rfl) (wanted_t hF rfl rfl rfl hc3) rfl fun a hF => ?_
        refine q_x (v := (.bool (decide (0 < (goLen t_5.2.2.2))))) hF hS (ex_pick_t rfl rfl hc3) rfl rfl fun a hF => ?_
        refine q_x (v := (.bool (decide (0 < (goLen t_5.2.2.2))))) hF hS (ex_move rfl) rfl rfl fun a hF => ?_
        rcases bcase (decide (0 < (goLen t_5.2.2.2))) with hc4 | hc4
        · have hj2 := cond_f hc4 hj2
          refine q_skip hF (wanted_f hF rfl rfl rfl hc4 rfl) rfl fun a hF => ?_
          refine q_skip hF (wanted_f hF rfl rfl rfl hc4 rfl) rfl fun a hF => ?_
          refine q_skip hF (wanted_f hF rfl rfl rfl hc4 rfl) rfl fun a hF => ?_
          refine q_x (v := (.bool false)) hF hS (ex_pick_f rfl rfl hc4) rfl rfl fun a hF => ?_
          refine q_end (n_jn ?_)
          obtain rfl := someI hj2
          exact ⟨_, _, rfl, hF.sub ⟨rfl, rfl, rfl, rfl, rfl, rfl, rfl, rfl, trivial⟩, hS.sel [5, 3, 4, 2, 0, 1, 6, 7, 8] (by decide), (h1.mono hm6.le), rfl⟩
        · have hj2 := cond_t hc4 hj2
          refine q_xg (v := (.pointer (some ⟨b4, 0, none⟩))) hF hS (ex_move rfl) (wanted_t hF rfl rfl rfl hc4) rfl fun a hF => ?_
          have hS : St _ _ _ _ [[⟨b4, [s1.v, (.int .i64 0), (.int .u64 0)], 58⟩], [⟨b13, [(.int .i64 t_5.2.2.1.Level), s9.v, s10.v, (.int .i64 t_5.2.2.1.Sum)], 28⟩], [⟨b12, [s7.v], 25⟩], q7, q9, q10, q11, [⟨b3, [(.int .i64 0), nilS.v, nilS.v, (.int .i64 0)], 28⟩], [⟨b2, [nilS.v], 25⟩]] := hS.sel [6, 0, 1, 2, 3, 4, 5, 7, 8] (by decide)
          have hS18 : St _ _ _ _ ([[⟨b4, [s1.v, (.int .i64 0), (.int .u64 0)], 58⟩]] ++ [[⟨b13, [(.int .i64 t_5.2.2.1.Level), s9.v, s10.v, (.int .i64 t_5.2.2.1.Sum)], 28⟩], [⟨b12, [s7.v], 25⟩], q7, q9, q10, q11, [⟨b3, [(.int .i64 0), nilS.v, nilS.v, (.int .i64 0)], 28⟩], [⟨b2, [nilS.v], 25⟩]]) := hS
          have hE18 := hS18.enter
          obtain ⟨t_19, ht_19, hj2⟩ := bindS hj2
          refine q_dog (wanted_t hF rfl rfl rfl hc4) fun _ hK => wp_callX (vs := [(.pointer (some ⟨b4, 0, none⟩)), (.int .i64 3)]) hF Try.func25 (by kernel_rfl) rfl rfl rfl (c_spec_l1Cur_one (spec_l1Cur.mk p_code 0 (⟨0⟩ : K .u64)) 3 t_19 ht_19 _ m6 b4 s1 (h1.mono hm6.le) _ hE18) fun a w _ hR hF => hK _ _ ?_
          obtain ⟨rfl, hR18, hk20⟩ := hR
          have hS : St _ _ _ _ [[⟨b4, [s1.v, (.int .i64 t_19.2.at_), (.int .u64 t_19.2.seed.v)], 58⟩], [⟨b13, [(.int .i64 t_5.2.2.1.Level), s9.v, s10.v, (.int .i64 t_5.2.2.1.Sum)], 28⟩], [⟨b12, [s7.v], 25⟩], q7, q9, q10, q11, [⟨b3, [(.int .i64 0), nilS.v, nilS.v, (.int .i64 0)], 28⟩], [⟨b2, [nilS.v], 25⟩]] := hS18.leaveF hR18
          have h20 : Rd m6 s1 t_19.2.code := by rw [hk20]; exact (h1.mono hm6.le)
          refine q_xg (v := (.bool (!t_19.1))) hF hS (ex_not rfl) (wanted_t hF rfl rfl rfl hc4) rfl fun a hF => ?_
          refine q_x (v := (.bool (!t_19.1))) hF hS (ex_pick_t rfl rfl hc4) rfl rfl fun a hF => ?_
          refine q_end (n_jn ?_)
          obtain rfl := someI hj2
          exact ⟨_, _, rfl, hF.sub ⟨rfl, rfl, rfl, rfl, rfl, rfl, rfl, rfl, trivial⟩, hS.sel [6, 4, 5, 3, 1, 2, 0, 7, 8] (by decide), h20, hk20⟩
    · rintro a w ⟨t_21, t_22, rfl, hF, hS, h23, h23k⟩
      refine n_sq ?_
      obtain ⟨j5, hj5, hr⟩ := bindS hr
      refine q_join (fun a w => ∃ t_32, j5 = .inl t_32 ∧ Fr a 80 [(2, (.pointer (some ⟨b2, 0, none⟩))), (4, (.pointer (some ⟨b3, 0, none⟩))), (7, (.pointer (some ⟨b4, 0, none⟩))), (8, (.pointer (some ⟨b12, 0, none⟩))), (9, s8.v), (10, (.pointer (some ⟨b13, 0, none⟩))), (11, s11.v)] ∧ St [] w0 w m6 [q11, q9, q10, q7, [⟨b13, [(.int .i64 t_5.2.2.1.Level), s9.v, s10.v, (.int .i64 t_5.2.2.1.Sum)], 28⟩], [⟨b12, [s7.v], 25⟩], [⟨b4, [s1.v, (.int .i64 t_32.at_), (.int .u64 t_32.seed.v)], 58⟩], [⟨b3, [(.int .i64 0), nilS.v, nilS.v, (.int .i64 0)], 28⟩], [⟨b2, [nilS.v], 25⟩]] ∧ Rd m6 s1 t_32.code ∧ t_32.code = p_code) ?_ ?_
      · rcases bcase (t_21) with hc6 | hc6
        · have hj5 := cond_f hc6 hj5
          refine q_cond_f hF rfl hc6 ?_
          refine q_skipc (n_jn ?_)
          obtain rfl := someI hj5
          exact ⟨_, rfl, hF.sub ⟨rfl, rfl, rfl, rfl, rfl, rfl, rfl, trivial⟩, hS, h23, h23k⟩
        · have hj5 := cond_t hc6 hj5
          refine q_cond_t hF rfl hc6 ?_
          refine q_seq ?_
          refine e_region ⟨[7], [b12, b13]⟩ mixed fun w' hw' => ?_
          have hS := hS.below hw'
          refine e_xb (v := (.agg #[s7.v])) 0 5 hF hS (.head _) rfl rfl (ex_loadA (vs := [s7.v]) 0 0 Try.underlying25 rfl sz25 rfl rfl rfl rfl) rfl rfl (by kernel_rfl) (by kernel_rfl) (by kernel_rfl) fun a hF => ?_
          refine e_p (v := s8.v) 1 hF rfl (ex_move rfl) rfl rfl (by kernel_rfl) (by kernel_rfl) (by kernel_rfl) fun a hF => ?_
          refine e_xb (v := (.agg #[(.int .i64 t_5.2.2.1.Level), s9.v, s10.v, (.int .i64 t_5.2.2.1.Sum)])) 2 4 hF hS (.tail _ (.head _)) rfl rfl (ex_loadA (vs := [(.int .i64 t_5.2.2.1.Level), s9.v, s10.v, (.int .i64 t_5.2.2.1.Sum)]) 0 0 Try.underlying28 rfl sz28 rfl rfl rfl rfl) rfl rfl (by kernel_rfl) (by kernel_rfl) (by kernel_rfl) fun a hF => ?_
          refine e_p (v := s11.v) 3 hF rfl (ex_move rfl) rfl rfl (by kernel_rfl) (by kernel_rfl) (by kernel_rfl) fun a hF => ?_
          refine e_p (v := (.pointer (some ⟨b4, 0, none⟩))) 4 hF rfl (ex_move rfl) rfl rfl (by kernel_rfl) (by kernel_rfl) (by kernel_rfl) fun a hF => ?_
          refine e_p (v := s11.v) 5 hF rfl (ex_move rfl) rfl rfl (by kernel_rfl) (by kernel_rfl) (by kernel_rfl) fun a hF => ?_
          refine e_p (v := (.int .i64 (goLen t_5.2.2.2))) 6 hF rfl (ex_len Try.underlying29 rfl h11.len) rfl rfl (by kernel_rfl) (by kernel_rfl) (by kernel_rfl) fun a hF => ?_
          refine e_one 7 (by kernel_rfl) ?_
          have hS : St _ _ _ _ [[⟨b4, [s1.v, (.int .i64 t_22.at_), (.int .u64 t_22.seed.v)], 58⟩], q11, q9, q10, q7, [⟨b13, [(.int .i64 t_5.2.2.1.Level), s9.v, s10.v, (.int .i64 t_5.2.2.1.Sum)], 28⟩], [⟨b12, [s7.v], 25⟩], [⟨b3, [(.int .i64 0), nilS.v, nilS.v, (.int .i64 0)], 28⟩], [⟨b2, [nilS.v], 25⟩]] := hS.sel [6, 0, 1, 2, 3, 4, 5, 7, 8] (by decide)
          have hS24 : St _ _ _ _ ([[⟨b4, [s1.v, (.int .i64 t_22.at_), (.int .u64 t_22.seed.v)], 58⟩]] ++ [q11, q9, q10, q7, [⟨b13, [(.int .i64 t_5.2.2.1.Level), s9.v, s10.v, (.int .i64 t_5.2.2.1.Sum)], 28⟩], [⟨b12, [s7.v], 25⟩], [⟨b3, [(.int .i64 0), nilS.v, nilS.v, (.int .i64 0)], 28⟩], [⟨b2, [nilS.v], 25⟩]]) := hS
          have hE24 := hS24.enter
          obtain ⟨t_25, ht_25, hj5⟩ := bindS hj5
          have hSo := hS
          refine e_opl rfl rfl rfl fun _ hK => wp_callX (vs := [(.pointer (some ⟨b4, 0, none⟩)), (.int .i64 (goLen t_5.2.2.2))]) hF Try.func27 (by kernel_rfl) rfl rfl rfl (c_spec_l1Cur_pick t_22 (goLen t_5.2.2.2) t_25 ht_25 _ m6 b4 s1 h23 _ hE24) fun a w _ hR hF => hK _ _ ?_
          obtain ⟨rfl, hR24, hk26⟩ := hR
          have hS : St _ _ _ _ [[⟨b4, [s1.v, (.int .i64 t_25.2.at_), (.int .u64 t_25.2.seed.v)], 58⟩], q11, q9, q10, q7, [⟨b13, [(.int .i64 t_5.2.2.1.Level), s9.v, s10.v, (.int .i64 t_5.2.2.1.Sum)], 28⟩], [⟨b12, [s7.v], 25⟩], [⟨b3, [(.int .i64 0), nilS.v, nilS.v, (.int .i64 0)], 28⟩], [⟨b2, [nilS.v], 25⟩]] := hS24.leaveF hR24
          have h26 : Rd m6 s1 t_25.2.code := by rw [hk26]; exact h23
          refine ⟨kpC hSo hS 6 6 rfl rfl (kpC hSo hS 5 5 rfl rfl kpN), ?_⟩
          obtain ⟨e_27, he_27, hj5⟩ := bindS hj5
          obtain ⟨vs28, at28, d28⟩ := h11.at he_27 3 rfl
          obtain ⟨s29, rfl, h29⟩ : ∃ s29 : Sl, vs28 = [(.int .i64 e_27.Area), (.int .i64 e_27.House), s29.v] ∧ Rd m6 s29 e_27.Values := d28
          refine e_p (v := (elP s11 (t_25.1.toNat * 3))) 8 hF rfl (ex_indexAddr Try.underlying29 sz41 rfl rfl (h11.idx he_27)) rfl rfl (by kernel_rfl) (by kernel_rfl) (by kernel_rfl) fun a hF => ?_
          refine e_x (v := (.agg #[(.int .i64 e_27.Area), (.int .i64 e_27.House), s29.v])) 9 hF hS rfl (ex_loadEA (us := [(.int .i64 e_27.Area), (.int .i64 e_27.House), s29.v]) 0 Try.underlying41 rfl sz41 rfl (at28.at 1 rfl) rfl rfl rfl) rfl rfl (by kernel_rfl) (by kernel_rfl) (by kernel_rfl) (by kernel_rfl) fun a hF => ?_
          refine e_one 10 (by kernel_rfl) ?_
          obtain ⟨m31, hl31, hv31, hz31⟩ := hS.lend
          obtain ⟨t_30, ht_30, hj5⟩ := bindS hj5
          refine e_call (vs := [(.agg #[s7.v]), s8.v, (.agg #[(.int .i64 t_5.2.2.1.Level), s9.v, s10.v, (.int .i64 t_5.2.2.1.Sum)]), (.agg #[(.int .i64 e_27.Area), (.int .i64 e_27.House), s29.v])]) hF hS rfl Try.func26 (by kernel_rfl) rfl rfl rfl (c_spec_uCell t_5.1 t_5.2.1 t_5.2.2.1 e_27 t_30 ht_30 _ m31 hv31 s7 (h7.froz hl31 (hz31 4 _ rfl)) s8 (h8.mono hl31) s9 (h9.froz hl31 (hz31 2 _ rfl)) s10 (h10.froz hl31 (hz31 3 _ rfl)) s29 (h29.mono hl31)) ?_
          rintro a w _ rfl hF hS
          refine e_p (v := (.tuple #[(.int .i64 t_30.1), (.int .i64 t_30.2)])) 11 hF rfl (ex_move rfl) rfl rfl (by kernel_rfl) (by kernel_rfl) (by kernel_rfl) fun a hF => ?_
          refine e_p (v := (.int .i64 t_30.1)) 12 hF rfl (ex_extract rfl rfl) rfl rfl (by kernel_rfl) (by kernel_rfl) (by kernel_rfl) fun a hF => ?_
          refine e_p (v := (.int .i64 t_30.2)) 13 hF rfl (ex_extract rfl rfl) rfl rfl (by kernel_rfl) (by kernel_rfl) (by kernel_rfl) fun a hF => ?_
          refine e_p (v := (.int .i64 t_30.1)) 14 hF rfl (ex_assign rfl) rfl rfl (by kernel_rfl) (by kernel_rfl) (by kernel_rfl) fun a hF => ?_
          refine e_p (v := (.int .i64 t_30.2)) 15 hF rfl (ex_assign rfl) rfl rfl (by kernel_rfl) (by kernel_rfl) (by kernel_rfl) fun a hF => ?_
          refine e_end (by kernel_rfl) (n_sq ?_) _
          refine q_seq ?_
          refine q_region ?_
          refine q_x (v := (.int .i64 t_30.1)) hF hS (ex_move rfl) rfl rfl fun a hF => ?_
          refine q_x (v := (.bool (decide (0 ≤ t_30.1)))) hF hS (ex_ibin rfl rfl rfl) rfl rfl fun a hF => ?_
          refine q_end (n_sq ?_)
          rcases bcase (decide (0 ≤ t_30.1)) with hc7 | hc7
          · have hj5 := cond_f hc7 hj5
            refine q_cond_f hF rfl hc7 ?_
            refine q_skipc (n_jn ?_)
            obtain rfl := someI hj5
            exact ⟨_, rfl, hF.sub ⟨rfl, rfl, rfl, rfl, rfl, rfl, rfl, trivial⟩, hS.sel [1, 2, 3, 4, 5, 6, 0, 7, 8] (by decide), h26, (hk26.trans h23k)⟩
          · have hj5 := cond_t hc7 hj5
            refine q_cond_t hF rfl hc7 ?_
            refine q_seq ?_
            refine e_region ⟨[5, 7], [b12, b13]⟩ mixed fun w' hw' => ?_
            have hS := hS.below hw'
            refine e_xb (v := (.agg #[s7.v])) 0 6 hF hS (.head _) rfl rfl (ex_loadA (vs := [s7.v]) 0 0 Try.underlying25 rfl sz25 rfl rfl rfl rfl) rfl rfl (by kernel_rfl) (by kernel_rfl) (by kernel_rfl) fun a hF => ?_
            refine e_p (v := s8.v) 1 hF rfl (ex_move rfl) rfl rfl (by kernel_rfl) (by kernel_rfl) (by kernel_rfl) fun a hF => ?_
            refine e_xb (v := (.agg #[(.int .i64 t_5.2.2.1.Level), s9.v, s10.v, (.int .i64 t_5.2.2.1.Sum)])) 2 5 hF hS (.tail _ (.head _)) rfl rfl (ex_loadA (vs := [(.int .i64 t_5.2.2.1.Level), s9.v, s10.v, (.int .i64 t_5.2.2.1.Sum)]) 0 0 Try.underlying28 rfl sz28 rfl rfl rfl rfl) rfl rfl (by kernel_rfl) (by kernel_rfl) (by kernel_rfl) fun a hF => ?_
            refine e_p (v := s11.v) 3 hF rfl (ex_move rfl) rfl rfl (by kernel_rfl) (by kernel_rfl) (by kernel_rfl) fun a hF => ?_
            refine e_p (v := (.int .i64 t_30.1)) 4 hF rfl (ex_move rfl) rfl rfl (by kernel_rfl) (by kernel_rfl) (by kernel_rfl) fun a hF => ?_
            refine e_one 5 (by kernel_rfl) ?_
            have hSo := hS
            refine e_store (vs := [s7.v]) (cs' := [s7.v]) 8 0 hF hS rfl rfl sz25 rfl rfl rfl rfl rfl rfl rfl rfl fun a w hF hS => ?_
            refine ⟨kpC hSo hS 6 6 rfl rfl (kpC hSo hS 5 5 rfl rfl kpN), ?_⟩
            refine e_p (v := s8.v) 6 hF rfl (ex_assign rfl) rfl rfl (by kernel_rfl) (by kernel_rfl) (by kernel_rfl) fun a hF => ?_
            refine e_one 7 (by kernel_rfl) ?_
            have hSo := hS
            refine e_store (vs := [(.int .i64 t_5.2.2.1.Level), s9.v, s10.v, (.int .i64 t_5.2.2.1.Sum)]) (cs' := [(.int .i64 t_5.2.2.1.Level), s9.v, s10.v, (.int .i64 t_5.2.2.1.Sum)]) 7 0 hF hS rfl rfl sz28 rfl rfl rfl rfl rfl rfl rfl rfl fun a w hF hS => ?_
            refine ⟨kpC hSo hS 6 6 rfl rfl (kpC hSo hS 5 5 rfl rfl kpN), ?_⟩
            refine e_p (v := s11.v) 8 hF rfl (ex_assign rfl) rfl rfl (by kernel_rfl) (by kernel_rfl) (by kernel_rfl) fun a hF => ?_
            refine e_p (v := (.int .i64 t_30.1)) 9 hF rfl (ex_assign rfl) rfl rfl (by kernel_rfl) (by kernel_rfl) (by kernel_rfl) fun a hF => ?_
            refine e_end (by kernel_rfl) (n_sq (q_ret (r_jn ?_))) _
            obtain rfl := someI hj5
            refine r_sq ?_
            obtain rfl := someI hr
            exact ret_of hF hS rfl (.cellA (us := [s7.v]) 8 0 Try.underlying25 rfl sz25 rfl rfl rfl rfl (.tmp rfl (.cellA (us := [(.int .i64 t_5.2.2.1.Level), s9.v, s10.v, (.int .i64 t_5.2.2.1.Sum)]) 7 0 Try.underlying28 rfl sz28 rfl rfl rfl rfl (.tmp rfl (.tmp rfl .nil))))) ⟨m6, q7, q9, q10, q11, s7, s8, s9, s10, s11, rfl, hm6, hS.sel [4, 2, 3, 1] (by decide), h7, h8, h9, h10, h11⟩
      · rintro a w ⟨t_32, rfl, hF, hS, h33, h33k⟩
        refine n_sq ?_
        refine q_seq ?_
        refine e_region ⟨[10, 12, 14], [b12, b13]⟩ mixed fun w' hw' => ?_
        have hS := hS.below hw'
        refine e_xb (v := (.agg #[s7.v])) 0 5 hF hS (.head _) rfl rfl (ex_loadA (vs := [s7.v]) 0 0 Try.underlying25 rfl sz25 rfl rfl rfl rfl) rfl rfl (by kernel_rfl) (by kernel_rfl) (by kernel_rfl) fun a hF => ?_
        refine e_p (v := s8.v) 1 hF rfl (ex_move rfl) rfl rfl (by kernel_rfl) (by kernel_rfl) (by kernel_rfl) fun a hF => ?_
        refine e_xb (v := (.agg #[(.int .i64 t_5.2.2.1.Level), s9.v, s10.v, (.int .i64 t_5.2.2.1.Sum)])) 2 4 hF hS (.tail _ (.head _)) rfl rfl (ex_loadA (vs := [(.int .i64 t_5.2.2.1.Level), s9.v, s10.v, (.int .i64 t_5.2.2.1.Sum)]) 0 0 Try.underlying28 rfl sz28 rfl rfl rfl rfl) rfl rfl (by kernel_rfl) (by kernel_rfl) (by kernel_rfl) fun a hF => ?_
        refine e_p (v := s11.v) 3 hF rfl (ex_move rfl) rfl rfl (by kernel_rfl) (by kernel_rfl) (by kernel_rfl) fun a hF => ?_
        refine e_p (v := (.pointer (some ⟨b4, 0, none⟩))) 4 hF rfl (ex_move rfl) rfl rfl (by kernel_rfl) (by kernel_rfl) (by kernel_rfl) fun a hF => ?_
        refine e_xb (v := (.agg #[s7.v])) 5 5 hF hS (.head _) rfl rfl (ex_loadA (vs := [s7.v]) 0 0 Try.underlying25 rfl sz25 rfl rfl rfl rfl) rfl rfl (by kernel_rfl) (by kernel_rfl) (by kernel_rfl) fun a hF => ?_
        refine e_p (v := s8.v) 6 hF rfl (ex_move rfl) rfl rfl (by kernel_rfl) (by kernel_rfl) (by kernel_rfl) fun a hF => ?_
        refine e_xb (v := (.agg #[(.int .i64 t_5.2.2.1.Level), s9.v, s10.v, (.int .i64 t_5.2.2.1.Sum)])) 7 4 hF hS (.tail _ (.head _)) rfl rfl (ex_loadA (vs := [(.int .i64 t_5.2.2.1.Level), s9.v, s10.v, (.int .i64 t_5.2.2.1.Sum)]) 0 0 Try.underlying28 rfl sz28 rfl rfl rfl rfl) rfl rfl (by kernel_rfl) (by kernel_rfl) (by kernel_rfl) fun a hF => ?_
        refine e_one 8 (by kernel_rfl) ?_
        obtain ⟨m35, hl35, hv35, hz35⟩ := hS.lend
        obtain ⟨t_34, ht_34, hr⟩ := bindS hr
        refine e_call (vs := [(.agg #[s7.v]), s8.v, (.agg #[(.int .i64 t_5.2.2.1.Level), s9.v, s10.v, (.int .i64 t_5.2.2.1.Sum)])]) hF hS rfl Try.func28 (by kernel_rfl) rfl rfl rfl (c_spec_uCount t_5.1 t_5.2.1 t_5.2.2.1 t_34 ht_34 _ m35 hv35 s7 (h7.froz hl35 (hz35 3 _ rfl)) s8 (h8.mono hl35) s9 (h9.froz hl35 (hz35 1 _ rfl)) s10 (h10.froz hl35 (hz35 2 _ rfl))) ?_
        rintro a w _ rfl hF hS
        refine e_p (v := (.int .i64 (w64 (t_34 + 2)))) 9 hF rfl (ex_ibin rfl rfl rfl) rfl rfl (by kernel_rfl) (by kernel_rfl) (by kernel_rfl) fun a hF => ?_
        refine e_one 10 (by kernel_rfl) ?_
        have hS : St _ _ _ _ [[⟨b4, [s1.v, (.int .i64 t_32.at_), (.int .u64 t_32.seed.v)], 58⟩], q11, q9, q10, q7, [⟨b13, [(.int .i64 t_5.2.2.1.Level), s9.v, s10.v, (.int .i64 t_5.2.2.1.Sum)], 28⟩], [⟨b12, [s7.v], 25⟩], [⟨b3, [(.int .i64 0), nilS.v, nilS.v, (.int .i64 0)], 28⟩], [⟨b2, [nilS.v], 25⟩]] := hS.sel [6, 0, 1, 2, 3, 4, 5, 7, 8] (by decide)
        have hS36 : St _ _ _ _ ([[⟨b4, [s1.v, (.int .i64 t_32.at_), (.int .u64 t_32.seed.v)], 58⟩]] ++ [q11, q9, q10, q7, [⟨b13, [(.int .i64 t_5.2.2.1.Level), s9.v, s10.v, (.int .i64 t_5.2.2.1.Sum)], 28⟩], [⟨b12, [s7.v], 25⟩], [⟨b3, [(.int .i64 0), nilS.v, nilS.v, (.int .i64 0)], 28⟩], [⟨b2, [nilS.v], 25⟩]]) := hS
        have hE36 := hS36.enter
        obtain ⟨t_37, ht_37, hr⟩ := bindS hr
        have hSo := hS
        refine e_opl rfl rfl rfl fun _ hK => wp_callX (vs := [(.pointer (some ⟨b4, 0, none⟩)), (.int .i64 (w64 (t_34 + 2)))]) hF Try.func27 (by kernel_rfl) rfl rfl rfl (c_spec_l1Cur_pick t_32 (w64 (t_34 + 2)) t_37 ht_37 _ m6 b4 s1 h33 _ hE36) fun a w _ hR hF => hK _ _ ?_
        obtain ⟨rfl, hR36, hk38⟩ := hR
        have hS : St _ _ _ _ [[⟨b4, [s1.v, (.int .i64 t_37.2.at_), (.int .u64 t_37.2.seed.v)], 58⟩], q11, q9, q10, q7, [⟨b13, [(.int .i64 t_5.2.2.1.Level), s9.v, s10.v, (.int .i64 t_5.2.2.1.Sum)], 28⟩], [⟨b12, [s7.v], 25⟩], [⟨b3, [(.int .i64 0), nilS.v, nilS.v, (.int .i64 0)], 28⟩], [⟨b2, [nilS.v], 25⟩]] := hS36.leaveF hR36
        have h38 : Rd m6 s1 t_37.2.code := by rw [hk38]; exact h33
        refine ⟨kpC hSo hS 6 6 rfl rfl (kpC hSo hS 5 5 rfl rfl kpN), ?_⟩
        refine e_p (v := (.int .i64 (w64 (t_37.1 - 1)))) 11 hF rfl (ex_ibin rfl rfl rfl) rfl rfl (by kernel_rfl) (by kernel_rfl) (by kernel_rfl) fun a hF => ?_
        refine e_one 12 (by kernel_rfl) ?_
        have hSo := hS
        refine e_store (vs := [s7.v]) (cs' := [s7.v]) 8 0 hF hS rfl rfl sz25 rfl rfl rfl rfl rfl rfl rfl rfl fun a w hF hS => ?_
        refine ⟨kpC hSo hS 6 6 rfl rfl (kpC hSo hS 5 5 rfl rfl kpN), ?_⟩
        refine e_p (v := s8.v) 13 hF rfl (ex_assign rfl) rfl rfl (by kernel_rfl) (by kernel_rfl) (by kernel_rfl) fun a hF => ?_
        refine e_one 14 (by kernel_rfl) ?_
        have hSo := hS
        refine e_store (vs := [(.int .i64 t_5.2.2.1.Level), s9.v, s10.v, (.int .i64 t_5.2.2.1.Sum)]) (cs' := [(.int .i64 t_5.2.2.1.Level), s9.v, s10.v, (.int .i64 t_5.2.2.1.Sum)]) 7 0 hF hS rfl rfl sz28 rfl rfl rfl rfl rfl rfl rfl rfl fun a w hF hS => ?_
        refine ⟨kpC hSo hS 6 6 rfl rfl (kpC hSo hS 5 5 rfl rfl kpN), ?_⟩
        refine e_p (v := s11.v) 15 hF rfl (ex_assign rfl) rfl rfl (by kernel_rfl) (by kernel_rfl) (by kernel_rfl) fun a hF => ?_
        refine e_p (v := (.int .i64 (w64 (t_37.1 - 1)))) 16 hF rfl (ex_assign rfl) rfl rfl (by kernel_rfl) (by kernel_rfl) (by kernel_rfl) fun a hF => ?_
        refine e_end (by kernel_rfl) (n_sq (q_ret ?_)) _
        obtain rfl := someI hr
        exact ret_of hF hS rfl (.cellA (us := [s7.v]) 8 0 Try.underlying25 rfl sz25 rfl rfl rfl rfl (.tmp rfl (.cellA (us := [(.int .i64 t_5.2.2.1.Level), s9.v, s10.v, (.int .i64 t_5.2.2.1.Sum)]) 7 0 Try.underlying28 rfl sz28 rfl rfl rfl rfl (.tmp rfl (.tmp rfl .nil))))) ⟨m6, q7, q9, q10, q11, s7, s8, s9, s10, s11, rfl, hm6, hS.sel [4, 2, 3, 1] (by decide), h7, h8, h9, h10, h11⟩
  · have hr := cond_t hc1 hr
    refine q_cond_t hF rfl hc1 ?_
    refine q_seq ?_
    refine e_region ⟨[4, 6], [b12, b13]⟩ mixed fun w' hw' => ?_
    have hS := hS.below hw'
    refine e_xb (v := (.agg #[s7.v])) 0 1 hF hS (.head _) rfl rfl (ex_loadA (vs := [s7.v]) 0 0 Try.underlying25 rfl sz25 rfl rfl rfl rfl) rfl rfl (by kernel_rfl) (by kernel_rfl) (by kernel_rfl) fun a hF => ?_
    refine e_p (v := s8.v) 1 hF rfl (ex_move rfl) rfl rfl (by kernel_rfl) (by kernel_rfl) (by kernel_rfl) fun a hF => ?_
    refine e_xb (v := (.agg #[(.int .i64 t_5.2.2.1.Level), s9.v, s10.v, (.int .i64 t_5.2.2.1.Sum)])) 2 0 hF hS (.tail _ (.head _)) rfl rfl (ex_loadA (vs := [(.int .i64 t_5.2.2.1.Level), s9.v, s10.v, (.int .i64 t_5.2.2.1.Sum)]) 0 0 Try.underlying28 rfl sz28 rfl rfl rfl rfl) rfl rfl (by kernel_rfl) (by kernel_rfl) (by kernel_rfl) fun a hF => ?_
    refine e_p (v := s11.v) 3 hF rfl (ex_move rfl) rfl rfl (by kernel_rfl) (by kernel_rfl) (by kernel_rfl) fun a hF => ?_
    refine e_one 4 (by kernel_rfl) ?_
    have hSo := hS
    refine e_store (vs := [s7.v]) (cs' := [s7.v]) 8 0 hF hS rfl rfl sz25 rfl rfl rfl rfl rfl rfl rfl rfl fun a w hF hS => ?_
    refine ⟨kpC hSo hS 1 1 rfl rfl (kpC hSo hS 0 0 rfl rfl kpN), ?_⟩
    refine e_p (v := s8.v) 5 hF rfl (ex_assign rfl) rfl rfl (by kernel_rfl) (by kernel_rfl) (by kernel_rfl) fun a hF => ?_
    refine e_one 6 (by kernel_rfl) ?_
    have hSo := hS
    refine e_store (vs := [(.int .i64 t_5.2.2.1.Level), s9.v, s10.v, (.int .i64 t_5.2.2.1.Sum)]) (cs' := [(.int .i64 t_5.2.2.1.Level), s9.v, s10.v, (.int .i64 t_5.2.2.1.Sum)]) 7 0 hF hS rfl rfl sz28 rfl rfl rfl rfl rfl rfl rfl rfl fun a w hF hS => ?_
    refine ⟨kpC hSo hS 1 1 rfl rfl (kpC hSo hS 0 0 rfl rfl kpN), ?_⟩
    refine e_p (v := s11.v) 7 hF rfl (ex_assign rfl) rfl rfl (by kernel_rfl) (by kernel_rfl) (by kernel_rfl) fun a hF => ?_
    refine e_p (v := (.int .i64 0)) 8 hF rfl (ex_assign rfl) rfl rfl (by kernel_rfl) (by kernel_rfl) (by kernel_rfl) fun a hF => ?_
    refine e_end (by kernel_rfl) (n_sq (q_ret (r_sq ?_))) _
    obtain rfl := someI hr
    exact ret_of hF hS rfl (.cellA (us := [s7.v]) 8 0 Try.underlying25 rfl sz25 rfl rfl rfl rfl (.tmp rfl (.cellA (us := [(.int .i64 t_5.2.2.1.Level), s9.v, s10.v, (.int .i64 t_5.2.2.1.Sum)]) 7 0 Try.underlying28 rfl sz28 rfl rfl rfl rfl (.tmp rfl (.tmp rfl .nil))))) ⟨m6, q7, q9, q10, q11, s7, s8, s9, s10, s11, rfl, hm6, hS.sel [2, 3, 4, 5] (by decide), h7, h8, h9, h10, h11⟩

theorem c_impl_IsGeo (p_g : impl_Geo) (r : Bool) (hr : impl_IsGeo p_g = some r) (w0 : World) (m : Mem) (hv : Vis m w0) (s1 : Sl) (h1 : Rd m s1 p_g.Parents) :
    Ret Try.prog 72 [(.agg #[s1.v])] w0 (fun v _ => v = (.bool r)) := by
  unfold impl_IsGeo at hr
  refine ret_start Try.func72 rfl 43 rfl rfl m hv fun a hF hS => ?_
  refine q_seq ?_
  refine q_region ?_
  refine q_box (cs := [s1.v]) hF hS rfl rfl rfl fun a w b2 hF hS => ?_
  refine q_x (v := (.bool false)) hF hS (ex_assign rfl) rfl rfl fun a hF => ?_
  refine q_end (n_sq ?_)
  refine q_seq ?_
  refine q_seq ?_
  obtain ⟨t_5, hj1, hr⟩ := bindS hr
  refine q_join (fun a w => Fr a 43 [(1, (.pointer (some ⟨b2, 0, none⟩))), (20, (.bool t_5))] ∧ St [] w0 w m [[⟨b2, [s1.v], 25⟩]]) ?_ ?_
  · refine q_region ?_
    refine q_x (v := (.pointer (some ⟨b2, 0, none⟩))) hF hS (ex_fieldAddr Try.underlying25 rfl sz23 rfl rfl) rfl rfl fun a hF => ?_
    refine q_x (v := s1.v) hF hS (ex_load1 0 0 Try.underlying23 rfl rfl rfl rfl) rfl rfl fun a hF => ?_
    refine q_x (v := (.int .i64 (goLen p_g.Parents))) hF hS (ex_len Try.underlying23 rfl h1.len) rfl rfl fun a hF => ?_
    refine q_x (v := (.bool (decide ((goLen p_g.Parents) < 1)))) hF hS (ex_ibin rfl rfl rfl) rfl rfl fun a hF => ?_
    refine q_x (v := (.bool (decide ((goLen p_g.Parents) < 1)))) hF hS (ex_move rfl) rfl rfl fun a hF => ?_
    rcases bcase (decide ((goLen p_g.Parents) < 1)) with hc2 | hc2
    · have hj1 := cond_f hc2 hj1
      refine q_xg (v := (.pointer (some ⟨b2, 0, none⟩))) hF hS (ex_fieldAddr Try.underlying25 rfl sz23 rfl rfl) (wanted_t hF rfl rfl rfl hc2) rfl fun a hF => ?_
      refine q_xg (v := s1.v) hF hS (ex_load1 0 0 Try.underlying23 rfl rfl rfl rfl) (wanted_t hF rfl rfl rfl hc2) rfl fun a hF => ?_
      refine q_xg (v := (.int .i64 (goLen p_g.Parents))) hF hS (ex_len Try.underlying23 rfl h1.len) (wanted_t hF rfl rfl rfl hc2) rfl fun a hF => ?_
      refine q_xg (v := (.bool (decide (30 < (goLen p_g.Parents))))) hF hS (ex_ibin rfl rfl rfl) (wanted_t hF rfl rfl rfl hc2) rfl fun a hF => ?_
      refine q_x (v := (.bool (decide (30 < (goLen p_g.Parents))))) hF hS (ex_pick_f rfl rfl hc2) rfl rfl fun a hF => ?_
      refine q_x (v := (.bool (decide (30 < (goLen p_g.Parents))))) hF hS (ex_move rfl) rfl rfl fun a hF => ?_
      rcases bcase (decide (30 < (goLen p_g.Parents))) with hc3 | hc3
      · have hj1 := cond_f hc3 hj1
        refine q_xg (v := (.pointer (some ⟨b2, 0, none⟩))) hF hS (ex_fieldAddr Try.underlying25 rfl sz23 rfl rfl) (wanted_t hF rfl rfl rfl hc3) rfl fun a hF => ?_
        refine q_xg (v := s1.v) hF hS (ex_load1 0 0 Try.underlying23 rfl rfl rfl rfl) (wanted_t hF rfl rfl rfl hc3) rfl fun a hF => ?_
        obtain ⟨e_3, he_3, hj1⟩ := bindS hj1
        obtain ⟨vs4, at4, d4⟩ := h1.at he_3 1 rfl
        obtain rfl : vs4 = [(.int .i64 e_3)] := d4
        refine q_xg (v := (elP s1 ((0 : Int).toNat * 1))) hF hS (ex_indexAddr Try.underlying23 sz3 rfl rfl (h1.idx he_3)) (wanted_t hF rfl rfl rfl hc3) rfl fun a hF => ?_
        refine q_xg (v := (.int .i64 e_3)) hF hS (ex_loadE1 0 Try.underlying3 rfl rfl ((at4).at) rfl rfl) (wanted_t hF rfl rfl rfl hc3) rfl fun a hF => ?_
        refine q_xg (v := (.bool (e_3 != (-1)))) hF hS (ex_ibin rfl rfl rfl) (wanted_t hF rfl rfl rfl hc3) rfl fun a hF => ?_
        refine q_x (v := (.bool (e_3 != (-1)))) hF hS (ex_pick_f rfl rfl hc3) rfl rfl fun a hF => ?_
        refine q_end (n_jn ?_)
        obtain rfl := someI hj1
        exact ⟨hF.sub ⟨rfl, rfl, trivial⟩, hS⟩
      · have hj1 := cond_t hc3 hj1
        refine q_skip hF (wanted_f hF rfl rfl rfl hc3 rfl) rfl fun a hF => ?_
        refine q_skip hF (wanted_f hF rfl rfl rfl hc3 rfl) rfl fun a hF => ?_
        refine q_skip hF (wanted_f hF rfl rfl rfl hc3 rfl) rfl fun a hF => ?_
        refine q_skip hF (wanted_f hF rfl rfl rfl hc3 rfl) rfl fun a hF => ?_
        refine q_skip hF (wanted_f hF rfl rfl rfl hc3 rfl) rfl fun a hF => ?_
        refine q_x (v := (.bool true)) hF hS (ex_pick_t rfl rfl hc3) rfl rfl fun a hF => ?_
        refine q_end (n_jn ?_)
        obtain rfl := someI hj1
        exact ⟨hF.sub ⟨rfl, rfl, trivial⟩, hS⟩
    · have hj1 := cond_t hc2 hj1
      refine q_skip hF (wanted_f hF rfl rfl rfl hc2 rfl) rfl fun a hF => ?_
      refine q_skip hF (wanted_f hF rfl rfl rfl hc2 rfl) rfl fun a hF => ?_
      refine q_skip hF (wanted_f hF rfl rfl rfl hc2 rfl) rfl fun a hF => ?_
      refine q_skip hF (wanted_f hF rfl rfl rfl hc2 rfl) rfl fun a hF => ?_
      refine q_x (v := (.bool true)) hF hS (ex_pick_t rfl rfl hc2) rfl rfl fun a hF => ?_
      refine q_x (v := (.bool true)) hF hS (ex_move rfl) rfl rfl fun a hF => ?_
      refine q_skip hF (wanted_f hF rfl rfl rfl rfl rfl) rfl fun a hF => ?_
      refine q_skip hF (wanted_f hF rfl rfl rfl rfl rfl) rfl fun a hF => ?_
      refine q_skip hF (wanted_f hF rfl rfl rfl rfl rfl) rfl fun a hF => ?_
      refine q_skip hF (wanted_f hF rfl rfl rfl rfl rfl) rfl fun a hF => ?_
      refine q_skip hF (wanted_f hF rfl rfl rfl rfl rfl) rfl fun a hF => ?_
      refine q_x (v := (.bool true)) hF hS (ex_pick_t rfl rfl rfl) rfl rfl fun a hF => ?_
      refine q_end (n_jn ?_)
      obtain rfl := someI hj1
      exact ⟨hF.sub ⟨rfl, rfl, trivial⟩, hS⟩
  · rintro a w ⟨hF, hS⟩
    refine n_sq ?_
    rcases bcase (t_5) with hc4 | hc4
    · have hr := cond_f hc4 hr
      refine q_cond_f hF rfl hc4 ?_
      refine q_skipc (n_sq ?_)
      refine q_seq ?_
      refine q_seq ?_
      refine q_region ?_
      refine q_x (v := (.int .i64 1)) hF hS (ex_assign rfl) rfl rfl fun a hF => ?_
      refine q_end (n_sq ?_)
      refine q_block ?_
      obtain ⟨o5, hl5, hr⟩ := bindS hr
      refine q_loop (fun (i_6 : Int) a w => Fr a 43 [(1, (.pointer (some ⟨b2, 0, none⟩))), (3, (.int .i64 i_6))] ∧ St [] w0 w m [[⟨b2, [s1.v], 25⟩]]) (fun (o : (Unit) ⊕ (Bool)) e a w => o = .inl () ∧ e = .exit 0 ∧ Fr a 43 [] ∧ St [] w0 w m []) hl5 ⟨hF.sub ⟨rfl, rfl, trivial⟩, hS⟩ ?_ ?_
      · clear hF hS
        rintro i_6 a w st ⟨hF, hS⟩ hb5
        unfold impl_IsGeo_l1 at hb5
        refine q_seq ?_
        refine q_seq ?_
        refine q_region ?_
        refine q_x (v := (.int .i64 i_6)) hF hS (ex_move rfl) rfl rfl fun a hF => ?_
        refine q_x (v := (.pointer (some ⟨b2, 0, none⟩))) hF hS (ex_fieldAddr Try.underlying25 rfl sz23 rfl rfl) rfl rfl fun a hF => ?_
        refine q_x (v := s1.v) hF hS (ex_load1 0 0 Try.underlying23 rfl rfl rfl rfl) rfl rfl fun a hF => ?_
        refine q_x (v := (.int .i64 (goLen p_g.Parents))) hF hS (ex_len Try.underlying23 rfl h1.len) rfl rfl fun a hF => ?_
        refine q_x (v := (.bool (decide (i_6 < (goLen p_g.Parents))))) hF hS (ex_ibin rfl rfl rfl) rfl rfl fun a hF => ?_
        refine q_end (n_sq ?_)
        rcases bcase (decide (i_6 < (goLen p_g.Parents))) with hc6 | hc6
        · have hb5 := cond_f hc6 hb5
          refine q_cond_f hF rfl hc6 ?_
          refine q_exit (x_sq ?_)
          obtain rfl := someI hb5
          exact ⟨nofun, .inl ⟨rfl, rfl, hF.sub trivial, hS.mask [false]⟩⟩
        · have hb5 := cond_t hc6 hb5
          refine q_cond_t hF rfl hc6 ?_
          refine q_skipc (n_sq ?_)
          refine q_seq ?_
          refine q_block ?_
          refine q_seq ?_
          obtain ⟨t_11, hj7, hb5⟩ := bindS hb5
          refine q_join (fun a w => Fr a 43 [(1, (.pointer (some ⟨b2, 0, none⟩))), (3, (.int .i64 i_6)), (42, (.bool t_11))] ∧ St [] w0 w m [[⟨b2, [s1.v], 25⟩]]) ?_ ?_
          · refine q_region ?_
            refine q_x (v := (.pointer (some ⟨b2, 0, none⟩))) hF hS (ex_fieldAddr Try.underlying25 rfl sz23 rfl rfl) rfl rfl fun a hF => ?_
            refine q_x (v := s1.v) hF hS (ex_load1 0 0 Try.underlying23 rfl rfl rfl rfl) rfl rfl fun a hF => ?_
            refine q_x (v := (.int .i64 i_6)) hF hS (ex_move rfl) rfl rfl fun a hF => ?_
            obtain ⟨e_7, he_7, hj7⟩ := bindS hj7
            obtain ⟨vs8, at8, d8⟩ := h1.at he_7 1 rfl
            obtain rfl : vs8 = [(.int .i64 e_7)] := d8
            refine q_x (v := (elP s1 (i_6.toNat * 1))) hF hS (ex_indexAddr Try.underlying23 sz3 rfl rfl (h1.idx he_7)) rfl rfl fun a hF => ?_
            refine q_x (v := (.int .i64 e_7)) hF hS (ex_loadE1 0 Try.underlying3 rfl rfl ((at8).at) rfl rfl) rfl rfl fun a hF => ?_
            refine q_x (v := (.bool (decide (e_7 < 0)))) hF hS (ex_ibin rfl rfl rfl) rfl rfl fun a hF => ?_
            refine q_x (v := (.bool (decide (e_7 < 0)))) hF hS (ex_move rfl) rfl rfl fun a hF => ?_
            rcases bcase (decide (e_7 < 0)) with hc8 | hc8
            · have hj7 := cond_f hc8 hj7
              refine q_xg (v := (.pointer (some ⟨b2, 0, none⟩))) hF hS (ex_fieldAddr Try.underlying25 rfl sz23 rfl rfl) (wanted_t hF rfl rfl rfl hc8) rfl fun a hF => ?_
              refine q_xg (v := s1.v) hF hS (ex_load1 0 0 Try.underlying23 rfl rfl rfl rfl) (wanted_t hF rfl rfl rfl hc8) rfl fun a hF => ?_
              refine q_xg (v := (.int .i64 i_6)) hF hS (ex_move rfl) (wanted_t hF rfl rfl rfl hc8) rfl fun a hF => ?_
              obtain ⟨e_9, he_9, hj7⟩ := bindS hj7
              obtain ⟨vs10, at10, d10⟩ := h1.at he_9 1 rfl
              obtain rfl : vs10 = [(.int .i64 e_9)] := d10
              refine q_xg (v := (elP s1 (i_6.toNat * 1))) hF hS (ex_indexAddr Try.underlying23 sz3 rfl rfl (h1.idx he_9)) (wanted_t hF rfl rfl rfl hc8) rfl fun a hF => ?_
              refine q_xg (v := (.int .i64 e_9)) hF hS (ex_loadE1 0 Try.underlying3 rfl rfl ((at10).at) rfl rfl) (wanted_t hF rfl rfl rfl hc8) rfl fun a hF => ?_
              refine q_xg (v := (.int .i64 i_6)) hF hS (ex_move rfl) (wanted_t hF rfl rfl rfl hc8) rfl fun a hF => ?_
              refine q_xg (v := (.bool (decide (i_6 ≤ e_9)))) hF hS (ex_ibin rfl rfl rfl) (wanted_t hF rfl rfl rfl hc8) rfl fun a hF => ?_
              refine q_x (v := (.bool (decide (i_6 ≤ e_9)))) hF hS (ex_pick_f rfl rfl hc8) rfl rfl fun a hF => ?_
              refine q_end (n_jn ?_)
              obtain rfl := someI hj7
              exact ⟨hF.sub ⟨rfl, rfl, rfl, trivial⟩, hS⟩
            · have hj7 := cond_t hc8 hj7
              refine q_skip hF (wanted_f hF rfl rfl rfl hc8 rfl) rfl fun a hF => ?_
              refine q_skip hF (wanted_f hF rfl rfl rfl hc8 rfl) rfl fun a hF => ?_
              refine q_skip hF (wanted_f hF rfl rfl rfl hc8 rfl) rfl fun a hF => ?_
              refine q_skip hF (wanted_f hF rfl rfl rfl hc8 rfl) rfl fun a hF => ?_
              refine q_skip hF (wanted_f hF rfl rfl rfl hc8 rfl) rfl fun a hF => ?_
              refine q_skip hF (wanted_f hF rfl rfl rfl hc8 rfl) rfl fun a hF => ?_
              refine q_skip hF (wanted_f hF rfl rfl rfl hc8 rfl) rfl fun a hF => ?_
              refine q_x (v := (.bool true)) hF hS (ex_pick_t rfl rfl hc8) rfl rfl fun a hF => ?_
              refine q_end (n_jn ?_)
              obtain rfl := someI hj7
              exact ⟨hF.sub ⟨rfl, rfl, rfl, trivial⟩, hS⟩
          · rintro a w ⟨hF, hS⟩
            refine n_sq ?_
            rcases bcase (t_11) with hc9 | hc9
            · have hb5 := cond_f hc9 hb5
              refine q_cond_f hF rfl hc9 ?_
              refine q_skipc (n_ib (n_sq ?_))
              refine q_region ?_
              refine q_x (v := (.int .i64 i_6)) hF hS (ex_move rfl) rfl rfl fun a hF => ?_
              refine q_x (v := (.int .i64 (w64 (i_6 + 1)))) hF hS (ex_ibin rfl rfl rfl) rfl rfl fun a hF => ?_
              refine q_x (v := (.int .i64 (w64 (i_6 + 1)))) hF hS (ex_assign rfl) rfl rfl fun a hF => ?_
              refine q_end ?_
              obtain rfl := someI hb5
              exact ⟨rfl, hF.sub ⟨rfl, rfl, trivial⟩, hS⟩
            · have hb5 := cond_t hc9 hb5
              refine q_cond_t hF rfl hc9 ?_
              refine q_seq ?_
              refine q_region ?_
              refine q_x (v := (.bool false)) hF hS (ex_assign rfl) rfl rfl fun a hF => ?_
              refine q_end (n_sq (q_ret (r_ib (r_sq ?_))))
              obtain rfl := someI hb5
              refine ⟨nofun, .inr fun ho => ?_⟩
              subst ho
              refine r_ib (r_sq ?_)
              obtain rfl := someI hr
              exact ret_of hF hS rfl (.tmp rfl .nil) rfl
      · rintro e a w ⟨rfl, rfl, hF, hS⟩
        refine x_ib (n_sq ?_)
        refine q_seq ?_
        refine q_region ?_
        refine q_x (v := (.bool true)) hF hS (ex_assign rfl) rfl rfl fun a hF => ?_
        refine q_end (n_sq (q_ret ?_))
        obtain rfl := someI hr
        exact ret_of hF hS rfl (.tmp rfl .nil) rfl
    · have hr := cond_t hc4 hr
      refine q_cond_t hF rfl hc4 ?_
      refine q_seq ?_
      refine q_region ?_
      refine q_x (v := (.bool false)) hF hS (ex_assign rfl) rfl rfl fun a hF => ?_
      refine q_end (n_sq (q_ret (r_sq ?_)))
      obtain rfl := someI hr
      exact ret_of hF hS rfl (.tmp rfl .nil) rfl

theorem c_impl_isWord (p_s : List UInt8) (r : Bool) (hr : impl_isWord p_s = some r) (w0 : World) (m : Mem) (hv : Vis m w0) :
    Ret Try.prog 90 [(strV p_s)] w0 (fun v _ => v = (.bool r)) := by
  unfold impl_isWord at hr
  refine ret_start Try.func90 rfl 28 rfl rfl m hv fun a hF hS => ?_
  refine q_seq ?_
  refine q_region ?_
  refine q_x (v := (.bool false)) hF hS (ex_assign rfl) rfl rfl fun a hF => ?_
  refine q_end (n_sq ?_)
  refine q_seq ?_
  refine q_seq ?_
  obtain ⟨t_1, hj1, hr⟩ := bindS hr
  refine q_join (fun a w => Fr a 28 [(0, (strV p_s)), (11, (.bool t_1))] ∧ St [] w0 w m []) ?_ ?_
  · refine q_region ?_
    refine q_x (v := (strV p_s)) hF hS (ex_move rfl) rfl rfl fun a hF => ?_
    refine q_x (v := (.int .i64 (goLen p_s))) hF hS (ex_strLen Try.underlying9 rfl) rfl rfl fun a hF => ?_
    refine q_x (v := (.bool (decide ((goLen p_s) < 1)))) hF hS (ex_ibin rfl rfl rfl) rfl rfl fun a hF => ?_
    refine q_x (v := (.bool (decide ((goLen p_s) < 1)))) hF hS (ex_move rfl) rfl rfl fun a hF => ?_
    rcases bcase (decide ((goLen p_s) < 1)) with hc2 | hc2
    · have hj1 := cond_f hc2 hj1
      refine q_xg (v := (strV p_s)) hF hS (ex_move rfl) (wanted_t hF rfl rfl rfl hc2) rfl fun a hF => ?_
      refine q_xg (v := (.int .i64 (goLen p_s))) hF hS (ex_strLen Try.underlying9 rfl) (wanted_t hF rfl rfl rfl hc2) rfl fun a hF => ?_
      refine q_xg (v := (.bool (decide (8 < (goLen p_s))))) hF hS (ex_ibin rfl rfl rfl) (wanted_t hF rfl rfl rfl hc2) rfl fun a hF => ?_
      refine q_x (v := (.bool (decide (8 < (goLen p_s))))) hF hS (ex_pick_f rfl rfl hc2) rfl rfl fun a hF => ?_
      refine q_end (n_jn ?_)
      obtain rfl := someI hj1
      exact ⟨hF.sub ⟨rfl, rfl, trivial⟩, hS⟩
    · have hj1 := cond_t hc2 hj1
      refine q_skip hF (wanted_f hF rfl rfl rfl hc2 rfl) rfl fun a hF => ?_
      refine q_skip hF (wanted_f hF rfl rfl rfl hc2 rfl) rfl fun a hF => ?_
      refine q_skip hF (wanted_f hF rfl rfl rfl hc2 rfl) rfl fun a hF => ?_
      refine q_x (v := (.bool true)) hF hS (ex_pick_t rfl rfl hc2) rfl rfl fun a hF => ?_
      refine q_end (n_jn ?_)
      obtain rfl := someI hj1
      exact ⟨hF.sub ⟨rfl, rfl, trivial⟩, hS⟩
  · rintro a w ⟨hF, hS⟩
    refine n_sq ?_
    rcases bcase (t_1) with hc3 | hc3
    · have hr := cond_f hc3 hr
      refine q_cond_f hF rfl hc3 ?_
      refine q_skipc (n_sq ?_)
      refine q_seq ?_
      refine q_seq ?_
      refine q_region ?_
      refine q_x (v := (strV p_s)) hF hS (ex_move rfl) rfl rfl fun a hF => ?_
      refine q_x (v := (.int .i64 (goLen p_s))) hF hS (ex_strLen Try.underlying9 rfl) rfl rfl fun a hF => ?_
      refine q_x (v := (.int .i64 0)) hF hS (ex_move rfl) rfl rfl fun a hF => ?_
      refine q_end (n_sq ?_)
      refine q_block ?_
      obtain ⟨o4, hl4, hr⟩ := bindS hr
      refine q_loop (fun (t_2 : Int) a w => Fr a 28 [(0, (strV p_s)), (13, (.int .i64 (goLen p_s))), (14, (.int .i64 t_2))] ∧ St [] w0 w m []) (fun (o : (Unit) ⊕ (Bool)) e a w => o = .inl () ∧ e = .exit 0 ∧ Fr a 28 [] ∧ St [] w0 w m []) hl4 ⟨hF.sub ⟨rfl, rfl, rfl, trivial⟩, hS⟩ ?_ ?_
      · clear hF hS
        rintro t_2 a w st ⟨hF, hS⟩ hb4
        unfold impl_isWord_l1 at hb4
        refine q_seq ?_
        refine q_region ?_
        refine q_x (v := (.bool (decide (t_2 < (goLen p_s))))) hF hS (ex_ibin rfl rfl rfl) rfl rfl fun a hF => ?_
        refine q_end (n_sq ?_)
        refine q_seq ?_
        rcases bcase (decide (t_2 < (goLen p_s))) with hc5 | hc5
        · have hb4 := cond_f hc5 hb4
          refine q_cond_f hF rfl hc5 ?_
          refine q_exit (x_sq ?_)
          obtain rfl := someI hb4
          exact ⟨nofun, .inl ⟨rfl, rfl, hF.sub trivial, hS⟩⟩
        · have hb4 := cond_t hc5 hb4
          refine q_cond_t hF rfl hc5 ?_
          refine q_skipc (n_sq ?_)
          refine q_seq ?_
          refine q_block ?_
          refine q_seq ?_
          refine q_region ?_
          refine q_x (v := (.int .i64 t_2)) hF hS (ex_move rfl) rfl rfl fun a hF => ?_
          refine q_x (v := (.int .i64 t_2)) hF hS (ex_assign rfl) rfl rfl fun a hF => ?_
          refine q_end (n_sq ?_)
          refine q_seq ?_
          obtain ⟨t_5, hj6, hb4⟩ := bindS hb4
          refine q_join (fun a w => Fr a 28 [(0, (strV p_s)), (13, (.int .i64 (goLen p_s))), (14, (.int .i64 t_2)), (26, (.bool t_5))] ∧ St [] w0 w m []) ?_ ?_
          · refine q_region ?_
            refine q_x (v := (strV p_s)) hF hS (ex_move rfl) rfl rfl fun a hF => ?_
            refine q_x (v := (.int .i64 t_2)) hF hS (ex_move rfl) rfl rfl fun a hF => ?_
            obtain ⟨t_3, ht_3, hj6⟩ := bindS hj6
            refine q_x (v := (.int .u8 t_3)) hF hS (ex_strIdx Try.underlying9 rfl rfl ht_3) rfl rfl fun a hF => ?_
            refine q_x (v := (.bool (decide (t_3 < 97)))) hF hS (ex_ibin rfl rfl rfl) rfl rfl fun a hF => ?_
            refine q_x (v := (.bool (decide (t_3 < 97)))) hF hS (ex_move rfl) rfl rfl fun a hF => ?_
            rcases bcase (decide (t_3 < 97)) with hc7 | hc7
            · have hj6 := cond_f hc7 hj6
              refine q_xg (v := (strV p_s)) hF hS (ex_move rfl) (wanted_t hF rfl rfl rfl hc7) rfl fun a hF => ?_
              refine q_xg (v := (.int .i64 t_2)) hF hS (ex_move rfl) (wanted_t hF rfl rfl rfl hc7) rfl fun a hF => ?_
              obtain ⟨t_4, ht_4, hj6⟩ := bindS hj6
              refine q_xg (v := (.int .u8 t_4)) hF hS (ex_strIdx Try.underlying9 rfl rfl ht_4) (wanted_t hF rfl rfl rfl hc7) rfl fun a hF => ?_
              refine q_xg (v := (.bool (decide (122 < t_4)))) hF hS (ex_ibin rfl rfl rfl) (wanted_t hF rfl rfl rfl hc7) rfl fun a hF => ?_
              refine q_x (v := (.bool (decide (122 < t_4)))) hF hS (ex_pick_f rfl rfl hc7) rfl rfl fun a hF => ?_
              refine q_end (n_jn ?_)
              obtain rfl := someI hj6
              exact ⟨hF.sub ⟨rfl, rfl, rfl, rfl, trivial⟩, hS⟩
            · have hj6 := cond_t hc7 hj6
              refine q_skip hF (wanted_f hF rfl rfl rfl hc7 rfl) rfl fun a hF => ?_
              refine q_skip hF (wanted_f hF rfl rfl rfl hc7 rfl) rfl fun a hF => ?_
              refine q_skip hF (wanted_f hF rfl rfl rfl hc7 rfl) rfl fun a hF => ?_
              refine q_skip hF (wanted_f hF rfl rfl rfl hc7 rfl) rfl fun a hF => ?_
              refine q_x (v := (.bool true)) hF hS (ex_pick_t rfl rfl hc7) rfl rfl fun a hF => ?_
              refine q_end (n_jn ?_)
              obtain rfl := someI hj6
              exact ⟨hF.sub ⟨rfl, rfl, rfl, rfl, trivial⟩, hS⟩
          · rintro a w ⟨hF, hS⟩
            refine n_sq ?_
            rcases bcase (t_5) with hc8 | hc8
            · have hb4 := cond_f hc8 hb4
              refine q_cond_f hF rfl hc8 ?_
              refine q_skipc (n_ib (n_sq ?_))
              refine q_region ?_
              refine q_x (v := (.int .i64 (w64 (t_2 + 1)))) hF hS (ex_ibin rfl rfl rfl) rfl rfl fun a hF => ?_
              refine q_x (v := (.int .i64 (w64 (t_2 + 1)))) hF hS (ex_move rfl) rfl rfl fun a hF => ?_
              refine q_end ?_
              obtain rfl := someI hb4
              exact ⟨rfl, hF.sub ⟨rfl, rfl, rfl, trivial⟩, hS⟩
            · have hb4 := cond_t hc8 hb4
              refine q_cond_t hF rfl hc8 ?_
              refine q_seq ?_
              refine q_region ?_
              refine q_x (v := (.bool false)) hF hS (ex_assign rfl) rfl rfl fun a hF => ?_
              refine q_end (n_sq (q_ret (r_ib (r_sq ?_))))
              obtain rfl := someI hb4
              refine ⟨nofun, .inr fun ho => ?_⟩
              subst ho
              refine r_ib (r_sq ?_)
              obtain rfl := someI hr
              exact ret_of hF hS rfl (.tmp rfl .nil) rfl
      · rintro e a w ⟨rfl, rfl, hF, hS⟩
        refine x_ib (n_sq ?_)
        refine q_seq ?_
        refine q_region ?_
        refine q_x (v := (.bool true)) hF hS (ex_assign rfl) rfl rfl fun a hF => ?_
        refine q_end (n_sq (q_ret ?_))
        obtain rfl := someI hr
        exact ret_of hF hS rfl (.tmp rfl .nil) rfl
    · have hr := cond_t hc3 hr
      refine q_cond_t hF rfl hc3 ?_
      refine q_seq ?_
      refine q_region ?_
      refine q_x (v := (.bool false)) hF hS (ex_assign rfl) rfl rfl fun a hF => ?_
      refine q_end (n_sq (q_ret (r_sq ?_)))
      obtain rfl := someI hr
      exact ret_of hF hS rfl (.tmp rfl .nil) rfl

theorem c_impl_IsSchema (p_s : List impl_Variable) (r : Bool) (hr : impl_IsSchema p_s = some r) (w0 : World) (m : Mem) (hv : Vis m w0) (s1 : Sl) (h1 : Rd m s1 p_s) :
    Ret Try.prog 56 [s1.v] w0 (fun v _ => v = (.bool r)) := by
  unfold impl_IsSchema at hr
  refine ret_start Try.func56 rfl 51 rfl rfl m hv fun a hF hS => ?_
  refine q_seq ?_
  refine q_region ?_
  refine q_x (v := (.bool false)) hF hS (ex_assign rfl) rfl rfl fun a hF => ?_
  refine q_end (n_sq ?_)
  refine q_seq ?_
  refine q_seq ?_
  obtain ⟨t_2, hj1, hr⟩ := bindS hr
  refine q_join (fun a w => Fr a 51 [(0, s1.v), (14, (.bool t_2))] ∧ St [] w0 w m []) ?_ ?_
  · refine q_region ?_
    refine q_x (v := s1.v) hF hS (ex_move rfl) rfl rfl fun a hF => ?_
    refine q_x (v := (.int .i64 (goLen p_s))) hF hS (ex_len Try.underlying26 rfl h1.len) rfl rfl fun a hF => ?_
    refine q_x (v := (.bool (decide ((goLen p_s) < 1)))) hF hS (ex_ibin rfl rfl rfl) rfl rfl fun a hF => ?_
    refine q_x (v := (.bool (decide ((goLen p_s) < 1)))) hF hS (ex_move rfl) rfl rfl fun a hF => ?_
    rcases bcase (decide ((goLen p_s) < 1)) with hc2 | hc2
    · have hj1 := cond_f hc2 hj1
      refine q_xg (v := s1.v) hF hS (ex_move rfl) (wanted_t hF rfl rfl rfl hc2) rfl fun a hF => ?_
      refine q_xg (v := (.int .i64 (goLen p_s))) hF hS (ex_len Try.underlying26 rfl h1.len) (wanted_t hF rfl rfl rfl hc2) rfl fun a hF => ?_
      refine q_xg (v := (.bool (decide (6 < (goLen p_s))))) hF hS (ex_ibin rfl rfl rfl) (wanted_t hF rfl rfl rfl hc2) rfl fun a hF => ?_
      refine q_x (v := (.bool (decide (6 < (goLen p_s))))) hF hS (ex_pick_f rfl rfl hc2) rfl rfl fun a hF => ?_
      refine q_end (n_jn ?_)
      obtain rfl := someI hj1
      exact ⟨hF.sub ⟨rfl, rfl, trivial⟩, hS⟩
    · have hj1 := cond_t hc2 hj1
      refine q_skip hF (wanted_f hF rfl rfl rfl hc2 rfl) rfl fun a hF => ?_
      refine q_skip hF (wanted_f hF rfl rfl rfl hc2 rfl) rfl fun a hF => ?_
      refine q_skip hF (wanted_f hF rfl rfl rfl hc2 rfl) rfl fun a hF => ?_
      refine q_x (v := (.bool true)) hF hS (ex_pick_t rfl rfl hc2) rfl rfl fun a hF => ?_
      refine q_end (n_jn ?_)
      obtain rfl := someI hj1
      exact ⟨hF.sub ⟨rfl, rfl, trivial⟩, hS⟩
  · rintro a w ⟨hF, hS⟩
    refine n_sq ?_
    rcases bcase (t_2) with hc3 | hc3
    · have hr := cond_f hc3 hr
      refine q_cond_f hF rfl hc3 ?_
      refine q_skipc (n_sq ?_)
      refine q_seq ?_
      refine q_seq ?_
      refine q_region ?_
      refine q_x (v := s1.v) hF hS (ex_move rfl) rfl rfl fun a hF => ?_
      refine q_x (v := (.int .i64 (goLen p_s))) hF hS (ex_len Try.underlying26 rfl h1.len) rfl rfl fun a hF => ?_
      refine q_x (v := (.int .i64 0)) hF hS (ex_move rfl) rfl rfl fun a hF => ?_
      refine q_end (n_sq ?_)
      refine q_block ?_
      obtain ⟨o4, hl4, hr⟩ := bindS hr
      refine q_loop (fun (t_3 : Int) a w => Fr a 51 [(0, s1.v), (15, s1.v), (16, (.int .i64 (goLen p_s))), (17, (.int .i64 t_3))] ∧ St [] w0 w m []) (fun (o : (Unit) ⊕ (Bool)) e a w => o = .inl () ∧ e = .exit 0 ∧ Fr a 51 [] ∧ St [] w0 w m []) hl4 ⟨hF.sub ⟨rfl, rfl, rfl, rfl, trivial⟩, hS⟩ ?_ ?_
      · clear hF hS
        rintro t_3 a w st ⟨hF, hS⟩ hb4
        unfold impl_IsSchema_l1 at hb4
        refine q_seq ?_
        refine q_region ?_
        refine q_x (v := (.bool (decide (t_3 < (goLen p_s))))) hF hS (ex_ibin rfl rfl rfl) rfl rfl fun a hF => ?_
        refine q_end (n_sq ?_)
        refine q_seq ?_
        rcases bcase (decide (t_3 < (goLen p_s))) with hc5 | hc5
        · have hb4 := cond_f hc5 hb4
          refine q_cond_f hF rfl hc5 ?_
          refine q_exit (x_sq ?_)
          obtain rfl := someI hb4
          exact ⟨nofun, .inl ⟨rfl, rfl, hF.sub trivial, hS⟩⟩
        · have hb4 := cond_t hc5 hb4
          refine q_cond_t hF rfl hc5 ?_
          refine q_skipc (n_sq ?_)
          refine q_seq ?_
          refine q_block ?_
          refine q_seq ?_
          refine q_region ?_
          refine q_x (v := (.int .i64 t_3)) hF hS (ex_move rfl) rfl rfl fun a hF => ?_
          obtain ⟨e_4, he_4, hb4⟩ := bindS hb4
          obtain ⟨vs5, at5, d5⟩ := h1.at he_4 2 rfl
          obtain rfl : vs5 = [(strV e_4.Name), (.int .i64 e_4.Levels)] := d5
          refine q_x (v := (elP s1 (t_3.toNat * 2))) hF hS (ex_indexAddr Try.underlying26 sz104 rfl rfl (h1.idx he_4)) rfl rfl fun a hF => ?_
          refine q_x (v := (.agg #[(strV e_4.Name), (.int .i64 e_4.Levels)])) hF hS (ex_loadEA (us := [(strV e_4.Name), (.int .i64 e_4.Levels)]) 0 Try.underlying104 rfl sz104 rfl ((at5).at) rfl rfl rfl) rfl rfl fun a hF => ?_
          refine q_alloc (cs := [(strV ([] : List UInt8)), (.int .i64 0)]) hF hS rfl rfl rfl fun a w b6 hF hS => ?_
          refine q_x (v := (.int .i64 t_3)) hF hS (ex_assign rfl) rfl rfl fun a hF => ?_
          refine q_store (vs := [(strV e_4.Name), (.int .i64 e_4.Levels)]) (cs' := [(strV e_4.Name), (.int .i64 e_4.Levels)]) 0 0 hF hS sz104 rfl rfl rfl rfl rfl rfl rfl rfl fun a w hF hS => ?_
          refine q_end (n_sq ?_)
          refine q_seq ?_
          refine q_seq ?_
          obtain ⟨t_8, hj6, hb4⟩ := bindS hb4
          refine q_join (fun a w => Fr a 51 [(0, s1.v), (3, (.int .i64 t_3)), (4, (.pointer (some ⟨b6, 0, none⟩))), (15, s1.v), (16, (.int .i64 (goLen p_s))), (17, (.int .i64 t_3)), (35, (.bool t_8))] ∧ St [] w0 w m [[⟨b6, [(strV e_4.Name), (.int .i64 e_4.Levels)], 104⟩]]) ?_ ?_
          · refine q_region ?_
            refine q_x (v := (.pointer (some ⟨b6, 0, none⟩))) hF hS (ex_fieldAddr Try.underlying104 rfl sz9 rfl rfl) rfl rfl fun a hF => ?_
            refine q_x (v := (strV e_4.Name)) hF hS (ex_load1 0 0 Try.underlying9 rfl rfl rfl rfl) rfl rfl fun a hF => ?_
            obtain ⟨t_7, ht_7, hj6⟩ := bindS hj6
            refine q_call (vs := [(strV e_4.Name)]) hF hS Try.func90 (by kernel_rfl) rfl rfl rfl (c_impl_isWord e_4.Name t_7 ht_7 _ m hS.vis) ?_
            rintro a w _ rfl hF hS
            refine q_x (v := (.bool (!t_7))) hF hS (ex_not rfl) rfl rfl fun a hF => ?_
            refine q_x (v := (.bool (!t_7))) hF hS (ex_move rfl) rfl rfl fun a hF => ?_
            rcases bcase (!t_7) with hc7 | hc7
            · have hj6 := cond_f hc7 hj6
              refine q_xg (v := (.pointer (some ⟨b6, 1, none⟩))) hF hS (ex_fieldAddr Try.underlying104 rfl sz3 rfl rfl) (wanted_t hF rfl rfl rfl hc7) rfl fun a hF => ?_
              refine q_xg (v := (.int .i64 e_4.Levels)) hF hS (ex_load1 0 0 Try.underlying3 rfl rfl rfl rfl) (wanted_t hF rfl rfl rfl hc7) rfl fun a hF => ?_
              refine q_xg (v := (.bool (decide (e_4.Levels < 2)))) hF hS (ex_ibin rfl rfl rfl) (wanted_t hF rfl rfl rfl hc7) rfl fun a hF => ?_
              refine q_x (v := (.bool (decide (e_4.Levels < 2)))) hF hS (ex_pick_f rfl rfl hc7) rfl rfl fun a hF => ?_
              refine q_x (v := (.bool (decide (e_4.Levels < 2)))) hF hS (ex_move rfl) rfl rfl fun a hF => ?_
              rcases bcase (decide (e_4.Levels < 2)) with hc8 | hc8
              · have hj6 := cond_f hc8 hj6
                refine q_xg (v := (.pointer (some ⟨b6, 1, none⟩))) hF hS (ex_fieldAddr Try.underlying104 rfl sz3 rfl rfl) (wanted_t hF rfl rfl rfl hc8) rfl fun a hF => ?_
                refine q_xg (v := (.int .i64 e_4.Levels)) hF hS (ex_load1 0 0 Try.underlying3 rfl rfl rfl rfl) (wanted_t hF rfl rfl rfl hc8) rfl fun a hF => ?_
                refine q_xg (v := (.bool (decide (8 < e_4.Levels)))) hF hS (ex_ibin rfl rfl rfl) (wanted_t hF rfl rfl rfl hc8) rfl fun a hF => ?_
                refine q_x (v := (.bool (decide (8 < e_4.Levels)))) hF hS (ex_pick_f rfl rfl hc8) rfl rfl fun a hF => ?_
                refine q_end (n_jn ?_)
                obtain rfl := someI hj6
                exact ⟨hF.sub ⟨rfl, rfl, rfl, rfl, rfl, rfl, rfl, trivial⟩, hS⟩
              · have hj6 := cond_t hc8 hj6
                refine q_skip hF (wanted_f hF rfl rfl rfl hc8 rfl) rfl fun a hF => ?_
                refine q_skip hF (wanted_f hF rfl rfl rfl hc8 rfl) rfl fun a hF => ?_
                refine q_skip hF (wanted_f hF rfl rfl rfl hc8 rfl) rfl fun a hF => ?_
                refine q_x (v := (.bool true)) hF hS (ex_pick_t rfl rfl hc8) rfl rfl fun a hF => ?_
                refine q_end (n_jn ?_)
                obtain rfl := someI hj6
                exact ⟨hF.sub ⟨rfl, rfl, rfl, rfl, rfl, rfl, rfl, trivial⟩, hS⟩
            · have hj6 := cond_t hc7 hj6
              refine q_skip hF (wanted_f hF rfl rfl rfl hc7 rfl) rfl fun a hF => ?_
              refine q_skip hF (wanted_f hF rfl rfl rfl hc7 rfl) rfl fun a hF => ?_
              refine q_skip hF (wanted_f hF rfl rfl rfl hc7 rfl) rfl fun a hF => ?_
              refine q_x (v := (.bool true)) hF hS (ex_pick_t rfl rfl hc7) rfl rfl fun a hF => ?_
              refine q_x (v := (.bool true)) hF hS (ex_move rfl) rfl rfl fun a hF => ?_
              refine q_skip hF (wanted_f hF rfl rfl rfl rfl rfl) rfl fun a hF => ?_
              refine q_skip hF (wanted_f hF rfl rfl rfl rfl rfl) rfl fun a hF => ?_
              refine q_skip hF (wanted_f hF rfl rfl rfl rfl rfl) rfl fun a hF => ?_
              refine q_x (v := (.bool true)) hF hS (ex_pick_t rfl rfl rfl) rfl rfl fun a hF => ?_
              refine q_end (n_jn ?_)
              obtain rfl := someI hj6
              exact ⟨hF.sub ⟨rfl, rfl, rfl, rfl, rfl, rfl, rfl, trivial⟩, hS⟩
          · rintro a w ⟨hF, hS⟩
            refine n_sq ?_
            rcases bcase (t_8) with hc9 | hc9
            · have hb4 := cond_f hc9 hb4
              refine q_cond_f hF rfl hc9 ?_
              refine q_skipc (n_sq ?_)
              refine q_seq ?_
              refine q_region ?_
              refine q_x (v := s1.v) hF hS (ex_move rfl) rfl rfl fun a hF => ?_
              refine q_x (v := (.int .i64 t_3)) hF hS (ex_move rfl) rfl rfl fun a hF => ?_
              obtain ⟨l_9, hl_9, hb4⟩ := bindS hb4
              have h10 : Rd m (subS s1 2 (0 : Int).toNat t_3.toNat s1.cap) l_9 := h1.sub' hl_9 2 rfl
              refine q_x (v := (subS s1 2 (0 : Int).toNat t_3.toNat s1.cap).v) hF hS (ex_slice Try.underlying26 sz104 rfl rfl rfl (.inl ⟨rfl, rfl⟩) (.inr ⟨_, rfl⟩) (h1.subok hl_9)) rfl rfl fun a hF => ?_
              refine q_x (v := (.int .i64 (goLen l_9))) hF hS (ex_len Try.underlying26 rfl h10.len) rfl rfl fun a hF => ?_
              refine q_x (v := (.int .i64 0)) hF hS (ex_move rfl) rfl rfl fun a hF => ?_
              refine q_end (n_sq ?_)
              refine q_block ?_
              obtain ⟨o10, hl10, hb4⟩ := bindS hb4
              refine q_loop (fun (t_11 : Int) a w => Fr a 51 [(0, s1.v), (4, (.pointer (some ⟨b6, 0, none⟩))), (15, s1.v), (16, (.int .i64 (goLen p_s))), (17, (.int .i64 t_3)), (38, (subS s1 2 (0 : Int).toNat t_3.toNat s1.cap).v), (39, (.int .i64 (goLen l_9))), (40, (.int .i64 t_11))] ∧ St [] w0 w m [[⟨b6, [(strV e_4.Name), (.int .i64 e_4.Levels)], 104⟩]]) (fun (o : (Unit) ⊕ (Stp (Int) ((Unit) ⊕ (Bool)))) e a w => o = .inl () ∧ e = .exit 2 ∧ Fr a 51 [(0, s1.v), (15, s1.v), (16, (.int .i64 (goLen p_s))), (17, (.int .i64 t_3))] ∧ St [] w0 w m []) hl10 ⟨hF.sub ⟨rfl, rfl, rfl, rfl, rfl, rfl, rfl, rfl, trivial⟩, hS⟩ ?_ ?_
              · clear hF hS
                rintro t_11 a w st ⟨hF, hS⟩ hb10
                unfold impl_IsSchema_l2 at hb10
                refine q_seq ?_
                refine q_region ?_
                refine q_x (v := (.bool (decide (t_11 < (goLen l_9))))) hF hS (ex_ibin rfl rfl rfl) rfl rfl fun a hF => ?_
                refine q_end (n_sq ?_)
                refine q_seq ?_
                rcases bcase (decide (t_11 < (goLen l_9))) with hc11 | hc11
                · have hb10 := cond_f hc11 hb10
                  refine q_cond_f hF rfl hc11 ?_
                  refine q_exit (x_sq ?_)
                  obtain rfl := someI hb10
                  exact ⟨nofun, .inl ⟨rfl, rfl, hF.sub ⟨rfl, rfl, rfl, rfl, trivial⟩, hS.mask [false]⟩⟩
                · have hb10 := cond_t hc11 hb10
                  refine q_cond_t hF rfl hc11 ?_
                  refine q_skipc (n_sq ?_)
                  refine q_seq ?_
                  refine q_block ?_
                  refine q_seq ?_
                  refine q_region ?_
                  obtain ⟨e_12, he_12, hb10⟩ := bindS hb10
                  obtain ⟨vs13, at13, d13⟩ := h10.at he_12 2 rfl
                  obtain rfl : vs13 = [(strV e_12.Name), (.int .i64 e_12.Levels)] := d13
                  refine q_x (v := (elP (subS s1 2 (0 : Int).toNat t_3.toNat s1.cap) (t_11.toNat * 2))) hF hS (ex_indexAddr Try.underlying26 sz104 rfl rfl (h10.idx he_12)) rfl rfl fun a hF => ?_
                  refine q_x (v := (.agg #[(strV e_12.Name), (.int .i64 e_12.Levels)])) hF hS (ex_loadEA (us := [(strV e_12.Name), (.int .i64 e_12.Levels)]) 0 Try.underlying104 rfl sz104 rfl ((at13).at) rfl rfl rfl) rfl rfl fun a hF => ?_
                  refine q_alloc (cs := [(strV ([] : List UInt8)), (.int .i64 0)]) hF hS rfl rfl rfl fun a w b14 hF hS => ?_
                  refine q_store (vs := [(strV e_12.Name), (.int .i64 e_12.Levels)]) (cs' := [(strV e_12.Name), (.int .i64 e_12.Levels)]) 0 0 hF hS sz104 rfl rfl rfl rfl rfl rfl rfl rfl fun a w hF hS => ?_
                  refine q_end (n_sq ?_)
                  refine q_seq ?_
                  refine q_region ?_
                  refine q_x (v := (.pointer (some ⟨b14, 0, none⟩))) hF hS (ex_fieldAddr Try.underlying104 rfl sz9 rfl rfl) rfl rfl fun a hF => ?_
                  refine q_x (v := (strV e_12.Name)) hF hS (ex_load1 0 0 Try.underlying9 rfl rfl rfl rfl) rfl rfl fun a hF => ?_
                  refine q_x (v := (.pointer (some ⟨b6, 0, none⟩))) hF hS (ex_fieldAddr Try.underlying104 rfl sz9 rfl rfl) rfl rfl fun a hF => ?_
                  refine q_x (v := (strV e_4.Name)) hF hS (ex_load1 1 0 Try.underlying9 rfl rfl rfl rfl) rfl rfl fun a hF => ?_
                  refine q_x (v := (.bool (e_12.Name == e_4.Name))) hF hS (ex_strEq rfl rfl) rfl rfl fun a hF => ?_
                  refine q_end (n_sq ?_)
                  rcases bcase (e_12.Name == e_4.Name) with hc12 | hc12
                  · have hb10 := cond_f hc12 hb10
                    refine q_cond_f hF rfl hc12 ?_
                    refine q_skipc (n_ib (n_sq ?_))
                    refine q_region ?_
                    refine q_x (v := (.int .i64 (w64 (t_11 + 1)))) hF hS (ex_ibin rfl rfl rfl) rfl rfl fun a hF => ?_
                    refine q_x (v := (.int .i64 (w64 (t_11 + 1)))) hF hS (ex_move rfl) rfl rfl fun a hF => ?_
                    refine q_end ?_
                    obtain rfl := someI hb10
                    exact ⟨rfl, hF.sub ⟨rfl, rfl, rfl, rfl, rfl, rfl, rfl, rfl, trivial⟩, hS.mask [false, true]⟩
                  · have hb10 := cond_t hc12 hb10
                    refine q_cond_t hF rfl hc12 ?_
                    refine q_seq ?_
                    refine q_region ?_
                    refine q_x (v := (.bool false)) hF hS (ex_assign rfl) rfl rfl fun a hF => ?_
                    refine q_end (n_sq (q_ret (r_ib (r_sq ?_))))
                    obtain rfl := someI hb10
                    refine ⟨nofun, .inr fun ho => ?_⟩
                    subst ho
                    refine r_ib (r_ib (r_sq ?_))
                    obtain rfl := someI hb4
                    refine ⟨nofun, .inr fun ho => ?_⟩
                    subst ho
                    refine r_ib (r_sq ?_)
                    obtain rfl := someI hr
                    exact ret_of hF hS rfl (.tmp rfl .nil) rfl
              · rintro e a w ⟨rfl, rfl, hF, hS⟩
                refine x_ib (n_ib (n_sq ?_))
                refine q_region ?_
                refine q_x (v := (.int .i64 (w64 (t_3 + 1)))) hF hS (ex_ibin rfl rfl rfl) rfl rfl fun a hF => ?_
                refine q_x (v := (.int .i64 (w64 (t_3 + 1)))) hF hS (ex_move rfl) rfl rfl fun a hF => ?_
                refine q_end ?_
                obtain rfl := someI hb4
                exact ⟨rfl, hF.sub ⟨rfl, rfl, rfl, rfl, trivial⟩, hS⟩
            · have hb4 := cond_t hc9 hb4
              refine q_cond_t hF rfl hc9 ?_
              refine q_seq ?_
              refine q_region ?_
              refine q_x (v := (.bool false)) hF hS (ex_assign rfl) rfl rfl fun a hF => ?_
              refine q_end (n_sq (q_ret (r_sq (r_ib (r_sq ?_)))))
              obtain rfl := someI hb4
              refine ⟨nofun, .inr fun ho => ?_⟩
              subst ho
              refine r_ib (r_sq ?_)
              obtain rfl := someI hr
              exact ret_of hF hS rfl (.tmp rfl .nil) rfl
      · rintro e a w ⟨rfl, rfl, hF, hS⟩
        refine x_ib (n_sq ?_)
        refine q_seq ?_
        refine q_region ?_
        refine q_x (v := (.bool true)) hF hS (ex_assign rfl) rfl rfl fun a hF => ?_
        refine q_end (n_sq (q_ret ?_))
        obtain rfl := someI hr
        exact ret_of hF hS rfl (.tmp rfl .nil) rfl
    · have hr := cond_t hc3 hr
      refine q_cond_t hF rfl hc3 ?_
      refine q_seq ?_
      refine q_region ?_
      refine q_x (v := (.bool false)) hF hS (ex_assign rfl) rfl rfl fun a hF => ?_
      refine q_end (n_sq (q_ret (r_sq ?_)))
      obtain rfl := someI hr
      exact ret_of hF hS rfl (.tmp rfl .nil) rfl

theorem c_impl_areVars (p_s : List impl_Variable) (p_vars : List Int) (r : Bool) (hr : impl_areVars p_s p_vars = some r) (w0 : World) (m : Mem) (hv : Vis m w0) (s1 : Sl) (h1 : Rd m s1 p_s) (s2 : Sl) (h2 : Rd m s2 p_vars) :
    Ret Try.prog 96 [s1.v, s2.v] w0 (fun v _ => v = (.bool r)) := by
  unfold impl_areVars at hr
  refine ret_start Try.func96 rfl 25 rfl rfl m hv fun a hF hS => ?_
  refine q_seq ?_
  refine q_region ?_
  refine q_x (v := (.bool false)) hF hS (ex_assign rfl) rfl rfl fun a hF => ?_
  refine q_end (n_sq ?_)
  refine q_seq ?_
  refine q_region ?_
  refine q_x (v := (.int .i64 (-1))) hF hS (ex_assign rfl) rfl rfl fun a hF => ?_
  refine q_end (n_sq ?_)
  refine q_seq ?_
  refine q_seq ?_
  refine q_region ?_
  refine q_x (v := s2.v) hF hS (ex_move rfl) rfl rfl fun a hF => ?_
  refine q_x (v := (.int .i64 (goLen p_vars))) hF hS (ex_len Try.underlying23 rfl h2.len) rfl rfl fun a hF => ?_
  refine q_x (v := (.int .i64 0)) hF hS (ex_move rfl) rfl rfl fun a hF => ?_
  refine q_end (n_sq ?_)
  refine q_block ?_
  obtain ⟨o1, hl1, hr⟩ := bindS hr
  refine q_loop (fun (s : Int × Int) a w => ∃ last_3, ∃ t_4, s = (last_3, t_4) ∧ Fr a 25 [(0, s1.v), (5, (.int .i64 last_3)), (8, s2.v), (9, (.int .i64 (goLen p_vars))), (10, (.int .i64 t_4))] ∧ St [] w0 w m []) (fun (o : (Unit) ⊕ (Bool)) e a w => o = .inl () ∧ e = .exit 0 ∧ Fr a 25 [] ∧ St [] w0 w m []) hl1 ⟨_, _, rfl, hF.sub ⟨rfl, rfl, rfl, rfl, rfl, trivial⟩, hS⟩ ?_ ?_
  · clear hF hS
    rintro s a w st ⟨last_3, t_4, rfl, hF, hS⟩ hb1
    unfold impl_areVars_l1 at hb1
    refine q_seq ?_
    refine q_region ?_
    refine q_x (v := (.bool (decide (t_4 < (goLen p_vars))))) hF hS (ex_ibin rfl rfl rfl) rfl rfl fun a hF => ?_
    refine q_end (n_sq ?_)
    refine q_seq ?_
    rcases bcase (decide (t_4 < (goLen p_vars))) with hc2 | hc2
    · have hb1 := cond_f hc2 hb1
      refine q_cond_f hF rfl hc2 ?_
      refine q_exit (x_sq ?_)
      obtain rfl := someI hb1
      exact ⟨nofun, .inl ⟨rfl, rfl, hF.sub trivial, hS⟩⟩
    · have hb1 := cond_t hc2 hb1
      refine q_cond_t hF rfl hc2 ?_
      refine q_skipc (n_sq ?_)
      refine q_seq ?_
      refine q_block ?_
      refine q_seq ?_
      refine q_region ?_
      obtain ⟨e_5, he_5, hb1⟩ := bindS hb1
      obtain ⟨vs6, at6, d6⟩ := h2.at he_5 1 rfl
      obtain rfl : vs6 = [(.int .i64 e_5)] := d6
      refine q_x (v := (elP s2 (t_4.toNat * 1))) hF hS (ex_indexAddr Try.underlying23 sz3 rfl rfl (h2.idx he_5)) rfl rfl fun a hF => ?_
      refine q_x (v := (.int .i64 e_5)) hF hS (ex_loadE1 0 Try.underlying3 rfl rfl ((at6).at) rfl rfl) rfl rfl fun a hF => ?_
      refine q_x (v := (.int .i64 e_5)) hF hS (ex_assign rfl) rfl rfl fun a hF => ?_
      refine q_end (n_sq ?_)
      refine q_seq ?_
      refine q_seq ?_
      obtain ⟨t_7, hj3, hb1⟩ := bindS hb1
      refine q_join (fun a w => Fr a 25 [(0, s1.v), (7, (.int .i64 e_5)), (8, s2.v), (9, (.int .i64 (goLen p_vars))), (10, (.int .i64 t_4)), (22, (.bool t_7))] ∧ St [] w0 w m []) ?_ ?_
      · refine q_region ?_
        refine q_x (v := (.int .i64 e_5)) hF hS (ex_move rfl) rfl rfl fun a hF => ?_
        refine q_x (v := (.int .i64 last_3)) hF hS (ex_move rfl) rfl rfl fun a hF => ?_
        refine q_x (v := (.bool (decide (e_5 ≤ last_3)))) hF hS (ex_ibin rfl rfl rfl) rfl rfl fun a hF => ?_
        refine q_x (v := (.bool (decide (e_5 ≤ last_3)))) hF hS (ex_move rfl) rfl rfl fun a hF => ?_
        rcases bcase (decide (e_5 ≤ last_3)) with hc4 | hc4
        · have hj3 := cond_f hc4 hj3
          refine q_xg (v := (.int .i64 e_5)) hF hS (ex_move rfl) (wanted_t hF rfl rfl rfl hc4) rfl fun a hF => ?_
          refine q_xg (v := s1.v) hF hS (ex_move rfl) (wanted_t hF rfl rfl rfl hc4) rfl fun a hF => ?_
          refine q_xg (v := (.int .i64 (goLen p_s))) hF hS (ex_len Try.underlying26 rfl h1.len) (wanted_t hF rfl rfl rfl hc4) rfl fun a hF => ?_
          refine q_xg (v := (.bool (decide ((goLen p_s) ≤ e_5)))) hF hS (ex_ibin rfl rfl rfl) (wanted_t hF rfl rfl rfl hc4) rfl fun a hF => ?_
          refine q_x (v := (.bool (decide ((goLen p_s) ≤ e_5)))) hF hS (ex_pick_f rfl rfl hc4) rfl rfl fun a hF => ?_
          refine q_end (n_jn ?_)
          obtain rfl := someI hj3
          exact ⟨hF.sub ⟨rfl, rfl, rfl, rfl, rfl, rfl, trivial⟩, hS⟩
        · have hj3 := cond_t hc4 hj3
          refine q_skip hF (wanted_f hF rfl rfl rfl hc4 rfl) rfl fun a hF => ?_
          refine q_skip hF (wanted_f hF rfl rfl rfl hc4 rfl) rfl fun a hF => ?_
          refine q_skip hF (wanted_f hF rfl rfl rfl hc4 rfl) rfl fun a hF => ?_
          refine q_skip hF (wanted_f hF rfl rfl rfl hc4 rfl) rfl fun a hF => ?_
          refine q_x (v := (.bool true)) hF hS (ex_pick_t rfl rfl hc4) rfl rfl fun a hF => ?_
          refine q_end (n_jn ?_)
          obtain rfl := someI hj3
          exact ⟨hF.sub ⟨rfl, rfl, rfl, rfl, rfl, rfl, trivial⟩, hS⟩
      · rintro a w ⟨hF, hS⟩
        refine n_sq ?_
        rcases bcase (t_7) with hc5 | hc5
        · have hb1 := cond_f hc5 hb1
          refine q_cond_f hF rfl hc5 ?_
          refine q_skipc (n_sq ?_)
          refine q_region ?_
          refine q_x (v := (.int .i64 e_5)) hF hS (ex_move rfl) rfl rfl fun a hF => ?_
          refine q_x (v := (.int .i64 e_5)) hF hS (ex_assign rfl) rfl rfl fun a hF => ?_
          refine q_end (n_ib (n_sq ?_))
          refine q_region ?_
          refine q_x (v := (.int .i64 (w64 (t_4 + 1)))) hF hS (ex_ibin rfl rfl rfl) rfl rfl fun a hF => ?_
          refine q_x (v := (.int .i64 (w64 (t_4 + 1)))) hF hS (ex_move rfl) rfl rfl fun a hF => ?_
          refine q_end ?_
          obtain rfl := someI hb1
          exact ⟨rfl, _, _, rfl, hF.sub ⟨rfl, rfl, rfl, rfl, rfl, trivial⟩, hS⟩
        · have hb1 := cond_t hc5 hb1
          refine q_cond_t hF rfl hc5 ?_
          refine q_seq ?_
          refine q_region ?_
          refine q_x (v := (.bool false)) hF hS (ex_assign rfl) rfl rfl fun a hF => ?_
          refine q_end (n_sq (q_ret (r_sq (r_ib (r_sq ?_)))))
          obtain rfl := someI hb1
          refine ⟨nofun, .inr fun ho => ?_⟩
          subst ho
          refine r_ib (r_sq ?_)
          obtain rfl := someI hr
          exact ret_of hF hS rfl (.tmp rfl .nil) rfl
  · rintro e a w ⟨rfl, rfl, hF, hS⟩
    refine x_ib (n_sq ?_)
    refine q_seq ?_
    refine q_region ?_
    refine q_x (v := (.bool true)) hF hS (ex_assign rfl) rfl rfl fun a hF => ?_
    refine q_end (n_sq (q_ret ?_))
    obtain rfl := someI hr
    exact ret_of hF hS rfl (.tmp rfl .nil) rfl

theorem c_impl_fullSet (p_v : impl_Variable) (r : Int) (hr : impl_fullSet p_v = some r) (w0 : World) (m : Mem) (hv : Vis m w0) :
    Ret Try.prog 91 [(.agg #[(strV p_v.Name), (.int .i64 p_v.Levels)])] w0 (fun v _ => v = (.int .i64 r)) := by
  unfold impl_fullSet at hr
  refine ret_start Try.func91 rfl 7 rfl rfl m hv fun a hF hS => ?_
  refine q_seq ?_
  refine q_region ?_
  refine q_box (cs := [(strV p_v.Name), (.int .i64 p_v.Levels)]) hF hS rfl rfl rfl fun a w b1 hF hS => ?_
  refine q_x (v := (.int .i64 0)) hF hS (ex_assign rfl) rfl rfl fun a hF => ?_
  refine q_end (n_sq ?_)
  refine q_seq ?_
  refine q_region ?_
  refine q_x (v := (.pointer (some ⟨b1, 1, none⟩))) hF hS (ex_fieldAddr Try.underlying104 rfl sz3 rfl rfl) rfl rfl fun a hF => ?_
  refine q_x (v := (.int .i64 p_v.Levels)) hF hS (ex_load1 0 0 Try.underlying3 rfl rfl rfl rfl) rfl rfl fun a hF => ?_
  obtain ⟨t_2, ht_2, hr⟩ := bindS hr
  refine q_x (v := (.int .i64 t_2)) hF hS (ex_shl rfl rfl ht_2) rfl rfl fun a hF => ?_
  refine q_x (v := (.int .i64 (w64 (t_2 - 1)))) hF hS (ex_ibin rfl rfl rfl) rfl rfl fun a hF => ?_
  refine q_x (v := (.int .i64 (w64 (t_2 - 1)))) hF hS (ex_assign rfl) rfl rfl fun a hF => ?_
  refine q_end (n_sq (q_ret ?_))
  obtain rfl := someI hr
  exact ret_of hF hS rfl (.tmp rfl .nil) rfl

theorem c_impl_isWhere (p_s : List impl_Variable) (p_where : List Int) (r : Bool) (hr : impl_isWhere p_s p_where = some r) (w0 : World) (m : Mem) (hv : Vis m w0) (s1 : Sl) (h1 : Rd m s1 p_s) (s2 : Sl) (h2 : Rd m s2 p_where) :
    Ret Try.prog 57 [s1.v, s2.v] w0 (fun v _ => v = (.bool r)) := by
  unfold impl_isWhere at hr
  refine ret_start Try.func57 rfl 31 rfl rfl m hv fun a hF hS => ?_
  refine q_seq ?_
  refine q_region ?_
  refine q_x (v := (.bool false)) hF hS (ex_assign rfl) rfl rfl fun a hF => ?_
  refine q_end (n_sq ?_)
  refine q_seq ?_
  refine q_seq ?_
  refine q_region ?_
  refine q_x (v := s2.v) hF hS (ex_move rfl) rfl rfl fun a hF => ?_
  refine q_x (v := (.int .i64 (goLen p_where))) hF hS (ex_len Try.underlying23 rfl h2.len) rfl rfl fun a hF => ?_
  refine q_x (v := s1.v) hF hS (ex_move rfl) rfl rfl fun a hF => ?_
  refine q_x (v := (.int .i64 (goLen p_s))) hF hS (ex_len Try.underlying26 rfl h1.len) rfl rfl fun a hF => ?_
  refine q_x (v := (.bool ((goLen p_where) != (goLen p_s)))) hF hS (ex_ibin rfl rfl rfl) rfl rfl fun a hF => ?_
  refine q_end (n_sq ?_)
  rcases bcase ((goLen p_where) != (goLen p_s)) with hc1 | hc1
  · have hr := cond_f hc1 hr
    refine q_cond_f hF rfl hc1 ?_
    refine q_skipc (n_sq ?_)
    refine q_seq ?_
    refine q_seq ?_
    refine q_region ?_
    refine q_x (v := s2.v) hF hS (ex_move rfl) rfl rfl fun a hF => ?_
    refine q_x (v := (.int .i64 (goLen p_where))) hF hS (ex_len Try.underlying23 rfl h2.len) rfl rfl fun a hF => ?_
    refine q_x (v := (.int .i64 0)) hF hS (ex_move rfl) rfl rfl fun a hF => ?_
    refine q_end (n_sq ?_)
    refine q_block ?_
    obtain ⟨o2, hl2, hr⟩ := bindS hr
    refine q_loop (fun (t_3 : Int) a w => Fr a 31 [(0, s1.v), (12, s2.v), (13, (.int .i64 (goLen p_where))), (14, (.int .i64 t_3))] ∧ St [] w0 w m []) (fun (o : (Unit) ⊕ (Bool)) e a w => o = .inl () ∧ e = .exit 0 ∧ Fr a 31 [] ∧ St [] w0 w m []) hl2 ⟨hF.sub ⟨rfl, rfl, rfl, rfl, trivial⟩, hS⟩ ?_ ?_
    · clear hF hS
      rintro t_3 a w st ⟨hF, hS⟩ hb2
      unfold impl_isWhere_l1 at hb2
      refine q_seq ?_
      refine q_region ?_
      refine q_x (v := (.bool (decide (t_3 < (goLen p_where))))) hF hS (ex_ibin rfl rfl rfl) rfl rfl fun a hF => ?_
      refine q_end (n_sq ?_)
      refine q_seq ?_
      rcases bcase (decide (t_3 < (goLen p_where))) with hc3 | hc3
      · have hb2 := cond_f hc3 hb2
        refine q_cond_f hF rfl hc3 ?_
        refine q_exit (x_sq ?_)
        obtain rfl := someI hb2
        exact ⟨nofun, .inl ⟨rfl, rfl, hF.sub trivial, hS⟩⟩
      · have hb2 := cond_t hc3 hb2
        refine q_cond_t hF rfl hc3 ?_
        refine q_skipc (n_sq ?_)
        refine q_seq ?_
        refine q_block ?_
        refine q_seq ?_
        refine q_region ?_
        refine q_x (v := (.int .i64 t_3)) hF hS (ex_move rfl) rfl rfl fun a hF => ?_
        obtain ⟨e_4, he_4, hb2⟩ := bindS hb2
        obtain ⟨vs5, at5, d5⟩ := h2.at he_4 1 rfl
        obtain rfl : vs5 = [(.int .i64 e_4)] := d5
        refine q_x (v := (elP s2 (t_3.toNat * 1))) hF hS (ex_indexAddr Try.underlying23 sz3 rfl rfl (h2.idx he_4)) rfl rfl fun a hF => ?_
        refine q_x (v := (.int .i64 e_4)) hF hS (ex_loadE1 0 Try.underlying3 rfl rfl ((at5).at) rfl rfl) rfl rfl fun a hF => ?_
        refine q_x (v := (.int .i64 t_3)) hF hS (ex_assign rfl) rfl rfl fun a hF => ?_
        refine q_x (v := (.int .i64 e_4)) hF hS (ex_assign rfl) rfl rfl fun a hF => ?_
        refine q_end (n_sq ?_)
        refine q_seq ?_
        obtain ⟨t_9, hj4, hb2⟩ := bindS hb2
        refine q_join (fun a w => Fr a 31 [(0, s1.v), (12, s2.v), (13, (.int .i64 (goLen p_where))), (14, (.int .i64 t_3)), (29, (.bool t_9))] ∧ St [] w0 w m []) ?_ ?_
        · refine q_region ?_
          refine q_x (v := (.int .i64 e_4)) hF hS (ex_move rfl) rfl rfl fun a hF => ?_
          refine q_x (v := (.bool (decide (e_4 < 0)))) hF hS (ex_ibin rfl rfl rfl) rfl rfl fun a hF => ?_
          refine q_x (v := (.bool (decide (e_4 < 0)))) hF hS (ex_move rfl) rfl rfl fun a hF => ?_
          rcases bcase (decide (e_4 < 0)) with hc5 | hc5
          · have hj4 := cond_f hc5 hj4
            refine q_xg (v := (.int .i64 e_4)) hF hS (ex_move rfl) (wanted_t hF rfl rfl rfl hc5) rfl fun a hF => ?_
            refine q_xg (v := s1.v) hF hS (ex_move rfl) (wanted_t hF rfl rfl rfl hc5) rfl fun a hF => ?_
            refine q_xg (v := (.int .i64 t_3)) hF hS (ex_move rfl) (wanted_t hF rfl rfl rfl hc5) rfl fun a hF => ?_
            obtain ⟨e_6, he_6, hj4⟩ := bindS hj4
            obtain ⟨vs7, at7, d7⟩ := h1.at he_6 2 rfl
            obtain rfl : vs7 = [(strV e_6.Name), (.int .i64 e_6.Levels)] := d7
            refine q_xg (v := (elP s1 (t_3.toNat * 2))) hF hS (ex_indexAddr Try.underlying26 sz104 rfl rfl (h1.idx he_6)) (wanted_t hF rfl rfl rfl hc5) rfl fun a hF => ?_
            refine q_xg (v := (.agg #[(strV e_6.Name), (.int .i64 e_6.Levels)])) hF hS (ex_loadEA (us := [(strV e_6.Name), (.int .i64 e_6.Levels)]) 0 Try.underlying104 rfl sz104 rfl ((at7).at) rfl rfl rfl) (wanted_t hF rfl rfl rfl hc5) rfl fun a hF => ?_
            obtain ⟨t_8, ht_8, hj4⟩ := bindS hj4
            refine q_callg (vs := [(.agg #[(strV e_6.Name), (.int .i64 e_6.Levels)])]) hF hS (wanted_t hF rfl rfl rfl hc5) Try.func91 (by kernel_rfl) rfl rfl rfl (c_impl_fullSet e_6 t_8 ht_8 _ m hS.vis) ?_
            rintro a w _ rfl hF hS
            refine q_xg (v := (.bool (decide (t_8 < e_4)))) hF hS (ex_ibin rfl rfl rfl) (wanted_t hF rfl rfl rfl hc5) rfl fun a hF => ?_
            refine q_x (v := (.bool (decide (t_8 < e_4)))) hF hS (ex_pick_f rfl rfl hc5) rfl rfl fun a hF => ?_
            refine q_end (n_jn ?_)
            obtain rfl := someI hj4
            exact ⟨hF.sub ⟨rfl, rfl, rfl, rfl, rfl, trivial⟩, hS⟩
          · have hj4 := cond_t hc5 hj4
            refine q_skip hF (wanted_f hF rfl rfl rfl hc5 rfl) rfl fun a hF => ?_
            refine q_skip hF (wanted_f hF rfl rfl rfl hc5 rfl) rfl fun a hF => ?_
            refine q_skip hF (wanted_f hF rfl rfl rfl hc5 rfl) rfl fun a hF => ?_
            refine q_skip hF (wanted_f hF rfl rfl rfl hc5 rfl) rfl fun a hF => ?_
            refine q_skip hF (wanted_f hF rfl rfl rfl hc5 rfl) rfl fun a hF => ?_
            refine q_skip hF (wanted_f hF rfl rfl rfl hc5 rfl) rfl fun a hF => ?_
            refine q_skip hF (wanted_f hF rfl rfl rfl hc5 rfl) rfl fun a hF => ?_
            refine q_x (v := (.bool true)) hF hS (ex_pick_t rfl rfl hc5) rfl rfl fun a hF => ?_
            refine q_end (n_jn ?_)
            obtain rfl := someI hj4
            exact ⟨hF.sub ⟨rfl, rfl, rfl, rfl, rfl, trivial⟩, hS⟩
        · rintro a w ⟨hF, hS⟩
          refine n_sq ?_
          rcases bcase (t_9) with hc6 | hc6
          · have hb2 := cond_f hc6 hb2
            refine q_cond_f hF rfl hc6 ?_
            refine q_skipc (n_ib (n_sq ?_))
            refine q_region ?_
            refine q_x (v := (.int .i64 (w64 (t_3 + 1)))) hF hS (ex_ibin rfl rfl rfl) rfl rfl fun a hF => ?_
            refine q_x (v := (.int .i64 (w64 (t_3 + 1)))) hF hS (ex_move rfl) rfl rfl fun a hF => ?_
            refine q_end ?_
            obtain rfl := someI hb2
            exact ⟨rfl, hF.sub ⟨rfl, rfl, rfl, rfl, trivial⟩, hS⟩
          · have hb2 := cond_t hc6 hb2
            refine q_cond_t hF rfl hc6 ?_
            refine q_seq ?_
            refine q_region ?_
            refine q_x (v := (.bool false)) hF hS (ex_assign rfl) rfl rfl fun a hF => ?_
            refine q_end (n_sq (q_ret (r_ib (r_sq ?_))))
            obtain rfl := someI hb2
            refine ⟨nofun, .inr fun ho => ?_⟩
            subst ho
            refine r_ib (r_sq ?_)
            obtain rfl := someI hr
            exact ret_of hF hS rfl (.tmp rfl .nil) rfl
    · rintro e a w ⟨rfl, rfl, hF, hS⟩
      refine x_ib (n_sq ?_)
      refine q_seq ?_
      refine q_region ?_
      refine q_x (v := (.bool true)) hF hS (ex_assign rfl) rfl rfl fun a hF => ?_
      refine q_end (n_sq (q_ret ?_))
      obtain rfl := someI hr
      exact ret_of hF hS rfl (.tmp rfl .nil) rfl
  · have hr := cond_t hc1 hr
    refine q_cond_t hF rfl hc1 ?_
    refine q_seq ?_
    refine q_region ?_
    refine q_x (v := (.bool false)) hF hS (ex_assign rfl) rfl rfl fun a hF => ?_
    refine q_end (n_sq (q_ret (r_sq ?_)))
    obtain rfl := someI hr
    exact ret_of hF hS rfl (.tmp rfl .nil) rfl

theorem c_impl_depthOf (p_g : impl_Geo) (p_i : Int) (r : Int) (hr : impl_depthOf p_g p_i = some r) (w0 : World) (m : Mem) (hv : Vis m w0) (s1 : Sl) (h1 : Rd m s1 p_g.Parents) :
    Ret Try.prog 97 [(.agg #[s1.v]), (.int .i64 p_i)] w0 (fun v _ => v = (.int .i64 r)) := by
  unfold impl_depthOf at hr
  refine ret_start Try.func97 rfl 16 rfl rfl m hv fun a hF hS => ?_
  refine q_seq ?_
  refine q_region ?_
  refine q_box (cs := [s1.v]) hF hS rfl rfl rfl fun a w b2 hF hS => ?_
  refine q_x (v := (.int .i64 0)) hF hS (ex_assign rfl) rfl rfl fun a hF => ?_
  refine q_end (n_sq ?_)
  refine q_seq ?_
  refine q_region ?_
  refine q_x (v := (.int .i64 0)) hF hS (ex_assign rfl) rfl rfl fun a hF => ?_
  refine q_end (n_sq ?_)
  refine q_seq ?_
  refine q_block ?_
  obtain ⟨d_7, hl1, hr⟩ := bindS hr
  refine q_loop (fun (s : Int × Int) a w => ∃ i_3, ∃ d_4, s = (i_3, d_4) ∧ Fr a 16 [(1, (.int .i64 i_3)), (2, (.pointer (some ⟨b2, 0, none⟩))), (5, (.int .i64 d_4))] ∧ St [] w0 w m [[⟨b2, [s1.v], 25⟩]]) (fun (d_7 : Int) e a w => e = .exit 0 ∧ Fr a 16 [(5, (.int .i64 d_7))] ∧ St [] w0 w m []) hl1 ⟨_, _, rfl, hF.sub ⟨rfl, rfl, rfl, trivial⟩, hS⟩ ?_ ?_
  · clear hF hS
    rintro s a w st ⟨i_3, d_4, rfl, hF, hS⟩ hb1
    unfold impl_depthOf_l1 at hb1
    refine q_seq ?_
    refine q_seq ?_
    refine q_region ?_
    refine q_x (v := (.int .i64 i_3)) hF hS (ex_move rfl) rfl rfl fun a hF => ?_
    refine q_x (v := (.bool (decide (0 < i_3)))) hF hS (ex_ibin rfl rfl rfl) rfl rfl fun a hF => ?_
    refine q_end (n_sq ?_)
    rcases bcase (decide (0 < i_3)) with hc2 | hc2
    · have hb1 := cond_f hc2 hb1
      refine q_cond_f hF rfl hc2 ?_
      refine q_exit (x_sq ?_)
      obtain rfl := someI hb1
      exact ⟨nofun, .inl ⟨rfl, hF.sub ⟨rfl, trivial⟩, hS.mask [false]⟩⟩
    · have hb1 := cond_t hc2 hb1
      refine q_cond_t hF rfl hc2 ?_
      refine q_skipc (n_sq ?_)
      refine q_block ?_
      refine q_seq ?_
      refine q_region ?_
      refine q_x (v := (.pointer (some ⟨b2, 0, none⟩))) hF hS (ex_fieldAddr Try.underlying25 rfl sz23 rfl rfl) rfl rfl fun a hF => ?_
      refine q_x (v := s1.v) hF hS (ex_load1 0 0 Try.underlying23 rfl rfl rfl rfl) rfl rfl fun a hF => ?_
      refine q_x (v := (.int .i64 i_3)) hF hS (ex_move rfl) rfl rfl fun a hF => ?_
      obtain ⟨e_5, he_5, hb1⟩ := bindS hb1
      obtain ⟨vs6, at6, d6⟩ := h1.at he_5 1 rfl
      obtain rfl : vs6 = [(.int .i64 e_5)] := d6
      refine q_x (v := (elP s1 (i_3.toNat * 1))) hF hS (ex_indexAddr Try.underlying23 sz3 rfl rfl (h1.idx he_5)) rfl rfl fun a hF => ?_
      refine q_x (v := (.int .i64 e_5)) hF hS (ex_loadE1 0 Try.underlying3 rfl rfl ((at6).at) rfl rfl) rfl rfl fun a hF => ?_
      refine q_x (v := (.int .i64 e_5)) hF hS (ex_assign rfl) rfl rfl fun a hF => ?_
      refine q_end (n_sq ?_)
      refine q_region ?_
      refine q_x (v := (.int .i64 d_4)) hF hS (ex_move rfl) rfl rfl fun a hF => ?_
      refine q_x (v := (.int .i64 (w64 (d_4 + 1)))) hF hS (ex_ibin rfl rfl rfl) rfl rfl fun a hF => ?_
      refine q_x (v := (.int .i64 (w64 (d_4 + 1)))) hF hS (ex_assign rfl) rfl rfl fun a hF => ?_
      refine q_end (n_ib ?_)
      obtain rfl := someI hb1
      exact ⟨rfl, _, _, rfl, hF.sub ⟨rfl, rfl, rfl, trivial⟩, hS⟩
  · rintro e a w ⟨rfl, hF, hS⟩
    refine x_ib (n_sq ?_)
    refine q_seq ?_
    refine q_region ?_
    refine q_x (v := (.int .i64 d_7)) hF hS (ex_move rfl) rfl rfl fun a hF => ?_
    refine q_x (v := (.int .i64 d_7)) hF hS (ex_assign rfl) rfl rfl fun a hF => ?_
    refine q_end (n_sq (q_ret ?_))
    obtain rfl := someI hr
    exact ret_of hF hS rfl (.tmp rfl .nil) rfl

theorem c_impl_areasAt (p_g : impl_Geo) (p_level : Int) (r : (List Int)) (hr : impl_areasAt p_g p_level = some r) (w0 : World) (m : Mem) (hv : Vis m w0) (s1 : Sl) (h1 : Rd m s1 p_g.Parents) :
    Ret Try.prog 75 [(.agg #[s1.v]), (.int .i64 p_level)] w0 (fun v w => ∃ (q0' : Piece) (s0' : Sl), v = s0'.v ∧ St [] w0 w m [q0'] ∧ OwnL m 3 q0' s0' r) := by
  unfold impl_areasAt at hr
  refine ret_start Try.func75 rfl 24 rfl rfl m hv fun a hF hS => ?_
  refine q_seq ?_
  refine q_region ?_
  refine q_box (cs := [s1.v]) hF hS rfl rfl rfl fun a w b2 hF hS => ?_
  refine q_x (v := nilS.v) hF hS (ex_assign rfl) rfl rfl fun a hF => ?_
  refine q_end (n_sq ?_)
  refine q_seq ?_
  refine q_region ?_
  refine q_x (v := nilS.v) hF hS (ex_assign rfl) rfl rfl fun a hF => ?_
  refine q_end (n_sq ?_)
  refine q_seq ?_
  refine q_seq ?_
  refine q_region ?_
  refine q_x (v := (.pointer (some ⟨b2, 0, none⟩))) hF hS (ex_fieldAddr Try.underlying25 rfl sz23 rfl rfl) rfl rfl fun a hF => ?_
  refine q_x (v := s1.v) hF hS (ex_load1 0 0 Try.underlying23 rfl rfl rfl rfl) rfl rfl fun a hF => ?_
  refine q_x (v := (.int .i64 (goLen p_g.Parents))) hF hS (ex_len Try.underlying23 rfl h1.len) rfl rfl fun a hF => ?_
  refine q_x (v := (.int .i64 0)) hF hS (ex_move rfl) rfl rfl fun a hF => ?_
  refine q_end (n_sq ?_)
  refine q_block ?_
  obtain ⟨list_12, hl1, hr⟩ := bindS hr
  refine q_loop (fun (s : (List Int) × Int) a w => ∃ (q4 : Piece), ∃ (s4 : Sl), ∃ list_3, ∃ t_5, s = (list_3, t_5) ∧ Fr a 24 [(1, (.int .i64 p_level)), (2, (.pointer (some ⟨b2, 0, none⟩))), (5, s4.v), (9, (.int .i64 (goLen p_g.Parents))), (10, (.int .i64 t_5))] ∧ St [] w0 w m [q4, [⟨b2, [s1.v], 25⟩]] ∧ OwnL m 3 q4 s4 list_3) (fun (list_12 : (List Int)) e a w => ∃ (q13 : Piece), ∃ (s13 : Sl), e = .exit 0 ∧ Fr a 24 [(5, s13.v)] ∧ St [] w0 w m [q13] ∧ OwnL m 3 q13 s13 list_12) hl1 ⟨[], nilS, _, _, rfl, hF.sub ⟨rfl, rfl, rfl, rfl, rfl, trivial⟩, hS.sel [1, 0] (by decide), (OwnL.nil (α := Int) m 3)⟩ ?_ ?_
  · clear hF hS
    rintro s a w st ⟨q4, s4, list_3, t_5, rfl, hF, hS, h4⟩ hb1
    unfold impl_areasAt_l1 at hb1
    refine q_seq ?_
    refine q_region ?_
    refine q_x (v := (.bool (decide (t_5 < (goLen p_g.Parents))))) hF hS (ex_ibin rfl rfl rfl) rfl rfl fun a hF => ?_
    refine q_end (n_sq ?_)
    refine q_seq ?_
    rcases bcase (decide (t_5 < (goLen p_g.Parents))) with hc2 | hc2
    · have hb1 := cond_f hc2 hb1
      refine q_cond_f hF rfl hc2 ?_
      refine q_exit (x_sq ?_)
      obtain rfl := someI hb1
      exact ⟨nofun, .inl ⟨q4, s4, rfl, hF.sub ⟨rfl, trivial⟩, hS.mask [true, false], h4⟩⟩
    · have hb1 := cond_t hc2 hb1
      refine q_cond_t hF rfl hc2 ?_
      refine q_skipc (n_sq ?_)
      refine q_seq ?_
      refine q_block ?_
      refine q_seq ?_
      refine q_region ?_
      refine q_x (v := (.int .i64 t_5)) hF hS (ex_move rfl) rfl rfl fun a hF => ?_
      refine q_x (v := (.int .i64 t_5)) hF hS (ex_assign rfl) rfl rfl fun a hF => ?_
      refine q_end (n_sq ?_)
      refine q_seq ?_
      refine q_region ?_
      refine q_x (v := (.agg #[s1.v])) hF hS (ex_loadA (vs := [s1.v]) 1 0 Try.underlying25 rfl sz25 rfl rfl rfl rfl) rfl rfl fun a hF => ?_
      refine q_x (v := (.int .i64 t_5)) hF hS (ex_move rfl) rfl rfl fun a hF => ?_
      obtain ⟨t_6, ht_6, hb1⟩ := bindS hb1
      refine q_call (vs := [(.agg #[s1.v]), (.int .i64 t_5)]) hF hS Try.func97 (by kernel_rfl) rfl rfl rfl (c_impl_depthOf p_g t_5 t_6 ht_6 _ m hS.vis s1 h1) ?_
      rintro a w _ rfl hF hS
      refine q_x (v := (.int .i64 p_level)) hF hS (ex_move rfl) rfl rfl fun a hF => ?_
      refine q_x (v := (.bool (t_6 == p_level))) hF hS (ex_ibin rfl rfl rfl) rfl rfl fun a hF => ?_
      refine q_end (n_sq ?_)
      obtain ⟨list_10, hj3, hb1⟩ := bindS hb1
      refine q_join (fun a w => ∃ (q11 : Piece), ∃ (s11 : Sl), Fr a 24 [(1, (.int .i64 p_level)), (2, (.pointer (some ⟨b2, 0, none⟩))), (5, s11.v), (9, (.int .i64 (goLen p_g.Parents))), (10, (.int .i64 t_5))] ∧ St [] w0 w m [q11, [⟨b2, [s1.v], 25⟩]] ∧ OwnL m 3 q11 s11 list_10) ?_ ?_
      · rcases bcase (t_6 == p_level) with hc4 | hc4
        · have hj3 := cond_f hc4 hj3
          refine q_cond_f hF rfl hc4 ?_
          refine q_skipc (n_jn ?_)
          obtain rfl := someI hj3
          exact ⟨q4, s4, hF.sub ⟨rfl, rfl, rfl, rfl, rfl, trivial⟩, hS, h4⟩
        · have hj3 := cond_t hc4 hj3
          refine q_cond_t hF rfl hc4 ?_
          refine q_region ?_
          refine q_x (v := s4.v) hF hS (ex_move rfl) rfl rfl fun a hF => ?_
          refine q_x (v := (.int .i64 t_5)) hF hS (ex_move rfl) rfl rfl fun a hF => ?_
          refine q_do rfl fun _ hK => wp_buildSlice' (l := ([t_5] : List Int)) (cells := [(.int .i64 t_5)]) hF hS Try.underlying23 inf3 rfl rfl (by kernel_rfl) rfl rfl rfl ⟨rfl, rfl⟩ rfl rfl fun a w q7 s7 hF hS h7 _ => hK _ _ ?_
          have hS : St _ _ _ _ [q4, q7, [⟨b2, [s1.v], 25⟩]] := hS.sel [1, 0, 2] (by decide)
          obtain ⟨l_8, hl_8, hj3⟩ := bindS hj3
          refine q_do rfl fun _ hK => wp_append hF hS h4 Try.underlying23 inf3 rfl rfl rfl rfl (h7.vw hS (j := 1) rfl) rfl (by decide) hl_8 rfl fun a w q9 s9 hF hS h9 => hK _ _ ?_
          refine q_x (v := s9.v) hF hS (ex_assign rfl) rfl rfl fun a hF => ?_
          refine q_end (n_jn ?_)
          obtain rfl := someI hj3
          exact ⟨q9, s9, hF.sub ⟨rfl, rfl, rfl, rfl, rfl, trivial⟩, hS.mask [true, false, true], h9⟩
      · rintro a w ⟨q11, s11, hF, hS, h11⟩
        refine n_ib (n_sq ?_)
        refine q_region ?_
        refine q_x (v := (.int .i64 (w64 (t_5 + 1)))) hF hS (ex_ibin rfl rfl rfl) rfl rfl fun a hF => ?_
        refine q_x (v := (.int .i64 (w64 (t_5 + 1)))) hF hS (ex_move rfl) rfl rfl fun a hF => ?_
        refine q_end ?_
        obtain rfl := someI hb1
        exact ⟨rfl, q11, s11, _, _, rfl, hF.sub ⟨rfl, rfl, rfl, rfl, rfl, trivial⟩, hS, h11⟩
  · rintro e a w ⟨q13, s13, rfl, hF, hS, h13⟩
    refine x_ib (n_sq ?_)
    refine q_seq ?_
    refine q_region ?_
    refine q_x (v := s13.v) hF hS (ex_move rfl) rfl rfl fun a hF => ?_
    refine q_x (v := s13.v) hF hS (ex_assign rfl) rfl rfl fun a hF => ?_
    refine q_end (n_sq (q_ret ?_))
    obtain rfl := someI hr
    exact ret_of hF hS rfl (.tmp rfl .nil) ⟨q13, s13, rfl, hS.sel [0] (by decide), h13⟩

theorem c_impl_crossed (p_s : List impl_Variable) (p_t : impl_Table) (r : (List impl_Variable)) (hr : impl_crossed p_s p_t = some r) (w0 : World) (m : Mem) (hv : Vis m w0) (s1 : Sl) (h1 : Rd m s1 p_s) (s2 : Sl) (h2 : Rd m s2 p_t.Vars) (s3 : Sl) (h3 : Rd m s3 p_t.Where) :
    Ret Try.prog 53 [s1.v, (.agg #[(.int .i64 p_t.Level), s2.v, s3.v, (.int .i64 p_t.Sum)])] w0 (fun v w => ∃ (q0' : Piece) (s0' : Sl), v = s0'.v ∧ St [] w0 w m [q0'] ∧ OwnL m 104 q0' s0' r) := by
  unfold impl_crossed at hr
  refine ret_start Try.func53 rfl 29 rfl rfl m hv fun a hF hS => ?_
  refine q_seq ?_
  refine q_region ?_
  refine q_box (cs := [(.int .i64 p_t.Level), s2.v, s3.v, (.int .i64 p_t.Sum)]) hF hS rfl rfl rfl fun a w b4 hF hS => ?_
  refine q_x (v := nilS.v) hF hS (ex_assign rfl) rfl rfl fun a hF => ?_
  refine q_end (n_sq ?_)
  refine q_seq ?_
  refine q_region ?_
  refine q_x (v := (.pointer (some ⟨b4, 1, none⟩))) hF hS (ex_fieldAddr Try.underlying28 rfl sz23 rfl rfl) rfl rfl fun a hF => ?_
  refine q_x (v := s2.v) hF hS (ex_load1 0 0 Try.underlying23 rfl rfl rfl rfl) rfl rfl fun a hF => ?_
  refine q_x (v := (.int .i64 (goLen p_t.Vars))) hF hS (ex_len Try.underlying23 rfl h2.len) rfl rfl fun a hF => ?_
  obtain ⟨l_5, hl_5, hr⟩ := bindS hr
  refine q_do rfl fun _ hK => wp_make (z := ((impl_Variable.mk ([] : List UInt8) 0) : impl_Variable)) hF hS Try.underlying26 inf104 rfl rfl rfl rfl rfl (by decide) hl_5 rfl fun a w q6 s6 hF hS h6 _ => hK _ _ ?_
  refine q_x (v := s6.v) hF hS (ex_assign rfl) rfl rfl fun a hF => ?_
  refine q_end (n_sq ?_)
  refine q_seq ?_
  refine q_seq ?_
  refine q_region ?_
  refine q_x (v := (.pointer (some ⟨b4, 1, none⟩))) hF hS (ex_fieldAddr Try.underlying28 rfl sz23 rfl rfl) rfl rfl fun a hF => ?_
  refine q_x (v := s2.v) hF hS (ex_load1 1 0 Try.underlying23 rfl rfl rfl rfl) rfl rfl fun a hF => ?_
  refine q_x (v := (.int .i64 (goLen p_t.Vars))) hF hS (ex_len Try.underlying23 rfl h2.len) rfl rfl fun a hF => ?_
  refine q_x (v := (.int .i64 0)) hF hS (ex_move rfl) rfl rfl fun a hF => ?_
  refine q_end (n_sq ?_)
  refine q_block ?_
  obtain ⟨out_17, hl1, hr⟩ := bindS hr
  refine q_loop (fun (s : (List impl_Variable) × Int) a w => ∃ (q8 : Piece), ∃ out_7, ∃ t_9, s = (out_7, t_9) ∧ Fr a 29 [(0, s1.v), (5, s6.v), (13, s2.v), (14, (.int .i64 (goLen p_t.Vars))), (15, (.int .i64 t_9))] ∧ St [] w0 w m [q8] ∧ OwnL m 104 q8 s6 out_7) (fun (out_17 : (List impl_Variable)) e a w => ∃ (q18 : Piece), e = .exit 0 ∧ Fr a 29 [(5, s6.v)] ∧ St [] w0 w m [q18] ∧ OwnL m 104 q18 s6 out_17) hl1 ⟨q6, _, _, rfl, hF.sub ⟨rfl, rfl, rfl, rfl, rfl, trivial⟩, hS.mask [true, false], h6⟩ ?_ ?_
  · clear hF hS
    rintro s a w st ⟨q8, out_7, t_9, rfl, hF, hS, h8⟩ hb1
    unfold impl_crossed_l1 at hb1
    refine q_seq ?_
    refine q_region ?_
    refine q_x (v := (.bool (decide (t_9 < (goLen p_t.Vars))))) hF hS (ex_ibin rfl rfl rfl) rfl rfl fun a hF => ?_
    refine q_end (n_sq ?_)
    refine q_seq ?_
    rcases bcase (decide (t_9 < (goLen p_t.Vars))) with hc2 | hc2
    · have hb1 := cond_f hc2 hb1
      refine q_cond_f hF rfl hc2 ?_
      refine q_exit (x_sq ?_)
      obtain rfl := someI hb1
      exact ⟨nofun, .inl ⟨q8, rfl, hF.sub ⟨rfl, trivial⟩, hS, h8⟩⟩
    · have hb1 := cond_t hc2 hb1
      refine q_cond_t hF rfl hc2 ?_
      refine q_skipc (n_sq ?_)
      refine q_seq ?_
      refine q_block ?_
      refine q_seq ?_
      refine q_region ?_
      refine q_x (v := (.int .i64 t_9)) hF hS (ex_move rfl) rfl rfl fun a hF => ?_
      obtain ⟨e_10, he_10, hb1⟩ := bindS hb1
      obtain ⟨vs11, at11, d11⟩ := h2.at he_10 1 rfl
      obtain rfl : vs11 = [(.int .i64 e_10)] := d11
      refine q_x (v := (elP s2 (t_9.toNat * 1))) hF hS (ex_indexAddr Try.underlying23 sz3 rfl rfl (h2.idx he_10)) rfl rfl fun a hF => ?_
      refine q_x (v := (.int .i64 e_10)) hF hS (ex_loadE1 0 Try.underlying3 rfl rfl ((at11).at) rfl rfl) rfl rfl fun a hF => ?_
      refine q_x (v := (.int .i64 t_9)) hF hS (ex_assign rfl) rfl rfl fun a hF => ?_
      refine q_x (v := (.int .i64 e_10)) hF hS (ex_assign rfl) rfl rfl fun a hF => ?_
      refine q_end (n_sq ?_)
      refine q_region ?_
      refine q_x (v := s6.v) hF hS (ex_move rfl) rfl rfl fun a hF => ?_
      refine q_x (v := (.int .i64 t_9)) hF hS (ex_move rfl) rfl rfl fun a hF => ?_
      refine q_x (v := s1.v) hF hS (ex_move rfl) rfl rfl fun a hF => ?_
      refine q_x (v := (.int .i64 e_10)) hF hS (ex_move rfl) rfl rfl fun a hF => ?_
      obtain ⟨e_12, he_12, hb1⟩ := bindS hb1
      obtain ⟨vs13, at13, d13⟩ := h1.at he_12 2 rfl
      obtain rfl : vs13 = [(strV e_12.Name), (.int .i64 e_12.Levels)] := d13
      refine q_x (v := (elP s1 (e_10.toNat * 2))) hF hS (ex_indexAddr Try.underlying26 sz104 rfl rfl (h1.idx he_12)) rfl rfl fun a hF => ?_
      refine q_x (v := (.agg #[(strV e_12.Name), (.int .i64 e_12.Levels)])) hF hS (ex_loadEA (us := [(strV e_12.Name), (.int .i64 e_12.Levels)]) 0 Try.underlying104 rfl sz104 rfl ((at13).at) rfl rfl rfl) rfl rfl fun a hF => ?_
      obtain ⟨e_14, he_14, hb1⟩ := bindS hb1
      obtain ⟨vs15, at15, d15⟩ := h8.at he_14 2 rfl
      obtain rfl : vs15 = [(strV e_14.Name), (.int .i64 e_14.Levels)] := d15
      refine q_x (v := (elP s6 (t_9.toNat * 2))) hF hS (ex_indexAddr Try.underlying26 sz104 rfl rfl (h8.idx he_14)) rfl rfl fun a hF => ?_
      refine q_do rfl fun _ hK => wp_storeE (e' := e_12) (us := [(strV e_12.Name), (.int .i64 e_12.Levels)]) (vs := [(strV e_14.Name), (.int .i64 e_14.Levels)]) 0 hF hS h8 sz104 rfl rfl rfl rfl rfl rfl rfl he_14 at15 rfl rfl rfl fun w q16 hS h16 => hK _ _ ?_
      refine q_end (n_ib (n_sq ?_))
      refine q_region ?_
      refine q_x (v := (.int .i64 (w64 (t_9 + 1)))) hF hS (ex_ibin rfl rfl rfl) rfl rfl fun a hF => ?_
      refine q_x (v := (.int .i64 (w64 (t_9 + 1)))) hF hS (ex_move rfl) rfl rfl fun a hF => ?_
      refine q_end ?_
      obtain rfl := someI hb1
      exact ⟨rfl, q16, _, _, rfl, hF.sub ⟨rfl, rfl, rfl, rfl, rfl, trivial⟩, hS, h16⟩
  · rintro e a w ⟨q18, rfl, hF, hS, h18⟩
    refine x_ib (n_sq ?_)
    refine q_seq ?_
    refine q_region ?_
    refine q_x (v := s6.v) hF hS (ex_move rfl) rfl rfl fun a hF => ?_
    refine q_x (v := s6.v) hF hS (ex_assign rfl) rfl rfl fun a hF => ?_
    refine q_end (n_sq (q_ret ?_))
    obtain rfl := someI hr
    exact ret_of hF hS rfl (.tmp rfl .nil) ⟨q18, s6, rfl, hS.sel [0] (by decide), h18⟩

theorem c_impl_combinations (p_s : List impl_Variable) (r : Int) (hr : impl_combinations p_s = some r) (w0 : World) (m : Mem) (hv : Vis m w0) (s1 : Sl) (h1 : Rd m s1 p_s) :
    Ret Try.prog 76 [s1.v] w0 (fun v _ => v = (.int .i64 r)) := by
  unfold impl_combinations at hr
  refine ret_start Try.func76 rfl 18 rfl rfl m hv fun a hF hS => ?_
  refine q_seq ?_
  refine q_region ?_
  refine q_x (v := (.int .i64 0)) hF hS (ex_assign rfl) rfl rfl fun a hF => ?_
  refine q_end (n_sq ?_)
  refine q_seq ?_
  refine q_region ?_
  refine q_x (v := (.int .i64 1)) hF hS (ex_assign rfl) rfl rfl fun a hF => ?_
  refine q_end (n_sq ?_)
  refine q_seq ?_
  refine q_seq ?_
  refine q_region ?_
  refine q_x (v := s1.v) hF hS (ex_move rfl) rfl rfl fun a hF => ?_
  refine q_x (v := (.int .i64 (goLen p_s))) hF hS (ex_len Try.underlying26 rfl h1.len) rfl rfl fun a hF => ?_
  refine q_x (v := (.int .i64 0)) hF hS (ex_move rfl) rfl rfl fun a hF => ?_
  refine q_end (n_sq ?_)
  refine q_block ?_
  obtain ⟨n_7, hl1, hr⟩ := bindS hr
  refine q_loop (fun (s : Int × Int) a w => ∃ n_2, ∃ t_3, s = (n_2, t_3) ∧ Fr a 18 [(3, (.int .i64 n_2)), (6, s1.v), (7, (.int .i64 (goLen p_s))), (8, (.int .i64 t_3))] ∧ St [] w0 w m []) (fun (n_7 : Int) e a w => e = .exit 0 ∧ Fr a 18 [(3, (.int .i64 n_7))] ∧ St [] w0 w m []) hl1 ⟨_, _, rfl, hF.sub ⟨rfl, rfl, rfl, rfl, trivial⟩, hS⟩ ?_ ?_
  · clear hF hS
    rintro s a w st ⟨n_2, t_3, rfl, hF, hS⟩ hb1
    unfold impl_combinations_l1 at hb1
    refine q_seq ?_
    refine q_region ?_
    refine q_x (v := (.bool (decide (t_3 < (goLen p_s))))) hF hS (ex_ibin rfl rfl rfl) rfl rfl fun a hF => ?_
    refine q_end (n_sq ?_)
    refine q_seq ?_
    rcases bcase (decide (t_3 < (goLen p_s))) with hc2 | hc2
    · have hb1 := cond_f hc2 hb1
      refine q_cond_f hF rfl hc2 ?_
      refine q_exit (x_sq ?_)
      obtain rfl := someI hb1
      exact ⟨nofun, .inl ⟨rfl, hF.sub ⟨rfl, trivial⟩, hS⟩⟩
    · have hb1 := cond_t hc2 hb1
      refine q_cond_t hF rfl hc2 ?_
      refine q_skipc (n_sq ?_)
      refine q_seq ?_
      refine q_block ?_
      refine q_seq ?_
      refine q_region ?_
      obtain ⟨e_4, he_4, hb1⟩ := bindS hb1
      obtain ⟨vs5, at5, d5⟩ := h1.at he_4 2 rfl
      obtain rfl : vs5 = [(strV e_4.Name), (.int .i64 e_4.Levels)] := d5
      refine q_x (v := (elP s1 (t_3.toNat * 2))) hF hS (ex_indexAddr Try.underlying26 sz104 rfl rfl (h1.idx he_4)) rfl rfl fun a hF => ?_
      refine q_x (v := (.agg #[(strV e_4.Name), (.int .i64 e_4.Levels)])) hF hS (ex_loadEA (us := [(strV e_4.Name), (.int .i64 e_4.Levels)]) 0 Try.underlying104 rfl sz104 rfl ((at5).at) rfl rfl rfl) rfl rfl fun a hF => ?_
      refine q_alloc (cs := [(strV ([] : List UInt8)), (.int .i64 0)]) hF hS rfl rfl rfl fun a w b6 hF hS => ?_
      refine q_store (vs := [(strV e_4.Name), (.int .i64 e_4.Levels)]) (cs' := [(strV e_4.Name), (.int .i64 e_4.Levels)]) 0 0 hF hS sz104 rfl rfl rfl rfl rfl rfl rfl rfl fun a w hF hS => ?_
      refine q_end (n_sq ?_)
      refine q_region ?_
      refine q_x (v := (.int .i64 n_2)) hF hS (ex_move rfl) rfl rfl fun a hF => ?_
      refine q_x (v := (.pointer (some ⟨b6, 1, none⟩))) hF hS (ex_fieldAddr Try.underlying104 rfl sz3 rfl rfl) rfl rfl fun a hF => ?_
      refine q_x (v := (.int .i64 e_4.Levels)) hF hS (ex_load1 0 0 Try.underlying3 rfl rfl rfl rfl) rfl rfl fun a hF => ?_
      refine q_x (v := (.int .i64 (w64 (n_2 * e_4.Levels)))) hF hS (ex_ibin rfl rfl rfl) rfl rfl fun a hF => ?_
      refine q_x (v := (.int .i64 (w64 (n_2 * e_4.Levels)))) hF hS (ex_assign rfl) rfl rfl fun a hF => ?_
      refine q_end (n_ib (n_sq ?_))
      refine q_region ?_
      refine q_x (v := (.int .i64 (w64 (t_3 + 1)))) hF hS (ex_ibin rfl rfl rfl) rfl rfl fun a hF => ?_
      refine q_x (v := (.int .i64 (w64 (t_3 + 1)))) hF hS (ex_move rfl) rfl rfl fun a hF => ?_
      refine q_end ?_
      obtain rfl := someI hb1
      exact ⟨rfl, _, _, rfl, hF.sub ⟨rfl, rfl, rfl, rfl, trivial⟩, hS.mask [false]⟩
  · rintro e a w ⟨rfl, hF, hS⟩
    refine x_ib (n_sq ?_)
    refine q_seq ?_
    refine q_region ?_
    refine q_x (v := (.int .i64 n_7)) hF hS (ex_move rfl) rfl rfl fun a hF => ?_
    refine q_x (v := (.int .i64 n_7)) hF hS (ex_assign rfl) rfl rfl fun a hF => ?_
    refine q_end (n_sq (q_ret ?_))
    obtain rfl := someI hr
    exact ret_of hF hS rfl (.tmp rfl .nil) rfl

theorem c_impl_cellCount (p_g : impl_Geo) (p_s : List impl_Variable) (p_t : impl_Table) (r : Int) (hr : impl_cellCount p_g p_s p_t = some r) (w0 : World) (m : Mem) (hv : Vis m w0) (s1 : Sl) (h1 : Rd m s1 p_g.Parents) (s2 : Sl) (h2 : Rd m s2 p_s) (s3 : Sl) (h3 : Rd m s3 p_t.Vars) (s4 : Sl) (h4 : Rd m s4 p_t.Where) :
    Ret Try.prog 31 [(.agg #[s1.v]), s2.v, (.agg #[(.int .i64 p_t.Level), s3.v, s4.v, (.int .i64 p_t.Sum)])] w0 (fun v _ => v = (.int .i64 r)) := by
  unfold impl_cellCount at hr
  refine ret_start Try.func31 rfl 17 rfl rfl m hv fun a hF hS => ?_
  refine q_seq ?_
  refine q_region ?_
  refine q_box (cs := [s1.v]) hF hS rfl rfl rfl fun a w b5 hF hS => ?_
  refine q_box (cs := [(.int .i64 p_t.Level), s3.v, s4.v, (.int .i64 p_t.Sum)]) hF hS rfl rfl rfl fun a w b6 hF hS => ?_
  refine q_x (v := (.int .i64 0)) hF hS (ex_assign rfl) rfl rfl fun a hF => ?_
  refine q_end (n_sq ?_)
  refine q_seq ?_
  refine e_region ⟨[], []⟩ mixed fun w' hw' => ?_
  have hS := hS.below hw'
  refine e_x (v := (.agg #[s1.v])) 0 hF hS rfl (ex_loadA (vs := [s1.v]) 1 0 Try.underlying25 rfl sz25 rfl rfl rfl rfl) rfl rfl (by kernel_rfl) (by kernel_rfl) (by kernel_rfl) (by kernel_rfl) fun a hF => ?_
  refine e_p (v := (.pointer (some ⟨b6, 0, none⟩))) 1 hF rfl (ex_fieldAddr Try.underlying28 rfl sz3 rfl rfl) rfl rfl (by kernel_rfl) (by kernel_rfl) (by kernel_rfl) fun a hF => ?_
  refine e_x (v := (.int .i64 p_t.Level)) 2 hF hS rfl (ex_load1 0 0 Try.underlying3 rfl rfl rfl rfl) rfl rfl (by kernel_rfl) (by kernel_rfl) (by kernel_rfl) (by kernel_rfl) fun a hF => ?_
  refine e_p (v := s2.v) 5 hF rfl (ex_move rfl) rfl rfl (by kernel_rfl) (by kernel_rfl) (by kernel_rfl) fun a hF => ?_
  refine e_x (v := (.agg #[(.int .i64 p_t.Level), s3.v, s4.v, (.int .i64 p_t.Sum)])) 6 hF hS rfl (ex_loadA (vs := [(.int .i64 p_t.Level), s3.v, s4.v, (.int .i64 p_t.Sum)]) 0 0 Try.underlying28 rfl sz28 rfl rfl rfl rfl) rfl rfl (by kernel_rfl) (by kernel_rfl) (by kernel_rfl) (by kernel_rfl) fun a hF => ?_
  refine e_one 3 (by kernel_rfl) ?_
  obtain ⟨t_13, ht_13, hr⟩ := bindS hr
  refine e_call (vs := [(.agg #[s1.v]), (.int .i64 p_t.Level)]) hF hS rfl Try.func75 (by kernel_rfl) rfl rfl rfl (c_impl_areasAt p_g p_t.Level t_13 ht_13 _ m hS.vis s1 h1) ?_
  rintro a w _ ⟨q15, s15, rfl, hR14, h15⟩ hF hS2
  have hS : St _ _ _ _ [q15, [⟨b6, [(.int .i64 p_t.Level), s3.v, s4.v, (.int .i64 p_t.Sum)], 28⟩], [⟨b5, [s1.v], 25⟩]] := hS.joinF hR14
  refine e_p (v := (.int .i64 (goLen t_13))) 4 hF rfl (ex_len Try.underlying23 rfl h15.len) rfl rfl (by kernel_rfl) (by kernel_rfl) (by kernel_rfl) fun a hF => ?_
  refine e_one 7 (by kernel_rfl) ?_
  obtain ⟨t_16, ht_16, hr⟩ := bindS hr
  refine e_call (vs := [s2.v, (.agg #[(.int .i64 p_t.Level), s3.v, s4.v, (.int .i64 p_t.Sum)])]) hF hS rfl Try.func53 (by kernel_rfl) rfl rfl rfl (c_impl_crossed p_s p_t t_16 ht_16 _ m hS.vis s2 h2 s3 h3 s4 h4) ?_
  rintro a w _ ⟨q18, s18, rfl, hR17, h18⟩ hF hS2
  have hS : St _ _ _ _ [q18, q15, [⟨b6, [(.int .i64 p_t.Level), s3.v, s4.v, (.int .i64 p_t.Sum)], 28⟩], [⟨b5, [s1.v], 25⟩]] := hS.joinF hR17
  refine e_one 8 (by kernel_rfl) ?_
  obtain ⟨m20, hl20, hv20, hz20⟩ := hS.lend
  obtain ⟨t_19, ht_19, hr⟩ := bindS hr
  refine e_call (vs := [s18.v]) hF hS rfl Try.func76 (by kernel_rfl) rfl rfl rfl (c_impl_combinations t_16 t_19 ht_19 _ m20 hv20 s18 (h18.froz hl20 (hz20 0 _ rfl))) ?_
  rintro a w _ rfl hF hS
  refine e_p (v := (.int .i64 (w64 ((goLen t_13) * t_19)))) 9 hF rfl (ex_ibin rfl rfl rfl) rfl rfl (by kernel_rfl) (by kernel_rfl) (by kernel_rfl) fun a hF => ?_
  refine e_p (v := (.int .i64 (w64 ((goLen t_13) * t_19)))) 10 hF rfl (ex_assign rfl) rfl rfl (by kernel_rfl) (by kernel_rfl) (by kernel_rfl) fun a hF => ?_
  refine e_end (by kernel_rfl) (n_sq (q_ret ?_)) _
  obtain rfl := someI hr
  exact ret_of hF hS rfl (.tmp rfl .nil) rfl

theorem c_impl_isTable (p_g : impl_Geo) (p_s : List impl_Variable) (p_t : impl_Table) (r : Bool) (hr : impl_isTable p_g p_s p_t = some r) (w0 : World) (m : Mem) (hv : Vis m w0) (s1 : Sl) (h1 : Rd m s1 p_g.Parents) (s2 : Sl) (h2 : Rd m s2 p_s) (s3 : Sl) (h3 : Rd m s3 p_t.Vars) (s4 : Sl) (h4 : Rd m s4 p_t.Where) :
    Ret Try.prog 73 [(.agg #[s1.v]), s2.v, (.agg #[(.int .i64 p_t.Level), s3.v, s4.v, (.int .i64 p_t.Sum)])] w0 (fun v _ => v = (.bool r)) := by
  unfold impl_isTable at hr
  refine ret_start Try.func73 rfl 42 rfl rfl m hv fun a hF hS => ?_
  refine q_seq ?_
  refine q_region ?_
  refine q_box (cs := [s1.v]) hF hS rfl rfl rfl fun a w b5 hF hS => ?_
  refine q_box (cs := [(.int .i64 p_t.Level), s3.v, s4.v, (.int .i64 p_t.Sum)]) hF hS rfl rfl rfl fun a w b6 hF hS => ?_
  refine q_x (v := (.bool false)) hF hS (ex_assign rfl) rfl rfl fun a hF => ?_
  refine q_end (n_sq ?_)
  refine q_seq ?_
  refine q_seq ?_
  obtain ⟨t_9, hj1, hr⟩ := bindS hr
  refine q_join (fun a w => Fr a 42 [(1, s2.v), (3, (.pointer (some ⟨b5, 0, none⟩))), (5, (.pointer (some ⟨b6, 0, none⟩))), (31, (.bool t_9))] ∧ St [] w0 w m [[⟨b6, [(.int .i64 p_t.Level), s3.v, s4.v, (.int .i64 p_t.Sum)], 28⟩], [⟨b5, [s1.v], 25⟩]]) ?_ ?_
  · refine q_region ?_
    refine q_x (v := s2.v) hF hS (ex_move rfl) rfl rfl fun a hF => ?_
    refine q_x (v := (.pointer (some ⟨b6, 1, none⟩))) hF hS (ex_fieldAddr Try.underlying28 rfl sz23 rfl rfl) rfl rfl fun a hF => ?_
    refine q_x (v := s3.v) hF hS (ex_load1 0 0 Try.underlying23 rfl rfl rfl rfl) rfl rfl fun a hF => ?_
    obtain ⟨t_7, ht_7, hj1⟩ := bindS hj1
    refine q_call (vs := [s2.v, s3.v]) hF hS Try.func96 (by kernel_rfl) rfl rfl rfl (c_impl_areVars p_s p_t.Vars t_7 ht_7 _ m hS.vis s2 h2 s3 h3) ?_
    rintro a w _ rfl hF hS
    refine q_x (v := (.bool (!t_7))) hF hS (ex_not rfl) rfl rfl fun a hF => ?_
    refine q_x (v := (.bool (!t_7))) hF hS (ex_move rfl) rfl rfl fun a hF => ?_
    rcases bcase (!t_7) with hc2 | hc2
    · have hj1 := cond_f hc2 hj1
      refine q_xg (v := s2.v) hF hS (ex_move rfl) (wanted_t hF rfl rfl rfl hc2) rfl fun a hF => ?_
      refine q_xg (v := (.pointer (some ⟨b6, 2, none⟩))) hF hS (ex_fieldAddr Try.underlying28 rfl sz23 rfl rfl) (wanted_t hF rfl rfl rfl hc2) rfl fun a hF => ?_
      refine q_xg (v := s4.v) hF hS (ex_load1 0 0 Try.underlying23 rfl rfl rfl rfl) (wanted_t hF rfl rfl rfl hc2) rfl fun a hF => ?_
      obtain ⟨t_8, ht_8, hj1⟩ := bindS hj1
      refine q_callg (vs := [s2.v, s4.v]) hF hS (wanted_t hF rfl rfl rfl hc2) Try.func57 (by kernel_rfl) rfl rfl rfl (c_impl_isWhere p_s p_t.Where t_8 ht_8 _ m hS.vis s2 h2 s4 h4) ?_
      rintro a w _ rfl hF hS
      refine q_xg (v := (.bool (!t_8))) hF hS (ex_not rfl) (wanted_t hF rfl rfl rfl hc2) rfl fun a hF => ?_
      refine q_x (v := (.bool (!t_8))) hF hS (ex_pick_f rfl rfl hc2) rfl rfl fun a hF => ?_
      refine q_x (v := (.bool (!t_8))) hF hS (ex_move rfl) rfl rfl fun a hF => ?_
      rcases bcase (!t_8) with hc3 | hc3
      · have hj1 := cond_f hc3 hj1
        refine q_xg (v := (.pointer (some ⟨b6, 3, none⟩))) hF hS (ex_fieldAddr Try.underlying28 rfl sz3 rfl rfl) (wanted_t hF rfl rfl rfl hc3) rfl fun a hF => ?_
        refine q_xg (v := (.int .i64 p_t.Sum)) hF hS (ex_load1 0 0 Try.underlying3 rfl rfl rfl rfl) (wanted_t hF rfl rfl rfl hc3) rfl fun a hF => ?_
        refine q_xg (v := (.bool (decide (p_t.Sum < (-1))))) hF hS (ex_ibin rfl rfl rfl) (wanted_t hF rfl rfl rfl hc3) rfl fun a hF => ?_
        refine q_x (v := (.bool (decide (p_t.Sum < (-1))))) hF hS (ex_pick_f rfl rfl hc3) rfl rfl fun a hF => ?_
        refine q_x (v := (.bool (decide (p_t.Sum < (-1))))) hF hS (ex_move rfl) rfl rfl fun a hF => ?_
        rcases bcase (decide (p_t.Sum < (-1))) with hc4 | hc4
        · have hj1 := cond_f hc4 hj1
          refine q_xg (v := (.pointer (some ⟨b6, 3, none⟩))) hF hS (ex_fieldAddr Try.underlying28 rfl sz3 rfl rfl) (wanted_t hF rfl rfl rfl hc4) rfl fun a hF => ?_
          refine q_xg (v := (.int .i64 p_t.Sum)) hF hS (ex_load1 0 0 Try.underlying3 rfl rfl rfl rfl) (wanted_t hF rfl rfl rfl hc4) rfl fun a hF => ?_
          refine q_xg (v := s2.v) hF hS (ex_move rfl) (wanted_t hF rfl rfl rfl hc4) rfl fun a hF => ?_
          refine q_xg (v := (.int .i64 (goLen p_s))) hF hS (ex_len Try.underlying26 rfl h2.len) (wanted_t hF rfl rfl rfl hc4) rfl fun a hF => ?_
          refine q_xg (v := (.bool (decide ((goLen p_s) ≤ p_t.Sum)))) hF hS (ex_ibin rfl rfl rfl) (wanted_t hF rfl rfl rfl hc4) rfl fun a hF => ?_
          refine q_x (v := (.bool (decide ((goLen p_s) ≤ p_t.Sum)))) hF hS (ex_pick_f rfl rfl hc4) rfl rfl fun a hF => ?_
          refine q_end (n_jn ?_)
          obtain rfl := someI hj1
          exact ⟨hF.sub ⟨rfl, rfl, rfl, rfl, trivial⟩, hS⟩
        · have hj1 := cond_t hc4 hj1
          refine q_skip hF (wanted_f hF rfl rfl rfl hc4 rfl) rfl fun a hF => ?_
          refine q_skip hF (wanted_f hF rfl rfl rfl hc4 rfl) rfl fun a hF => ?_
          refine q_skip hF (wanted_f hF rfl rfl rfl hc4 rfl) rfl fun a hF => ?_
          refine q_skip hF (wanted_f hF rfl rfl rfl hc4 rfl) rfl fun a hF => ?_
          refine q_skip hF (wanted_f hF rfl rfl rfl hc4 rfl) rfl fun a hF => ?_
          refine q_x (v := (.bool true)) hF hS (ex_pick_t rfl rfl hc4) rfl rfl fun a hF => ?_
          refine q_end (n_jn ?_)
          obtain rfl := someI hj1
          exact ⟨hF.sub ⟨rfl, rfl, rfl, rfl, trivial⟩, hS⟩
      · have hj1 := cond_t hc3 hj1
        refine q_skip hF (wanted_f hF rfl rfl rfl hc3 rfl) rfl fun a hF => ?_
        refine q_skip hF (wanted_f hF rfl rfl rfl hc3 rfl) rfl fun a hF => ?_
        refine q_skip hF (wanted_f hF rfl rfl rfl hc3 rfl) rfl fun a hF => ?_
        refine q_x (v := (.bool true)) hF hS (ex_pick_t rfl rfl hc3) rfl rfl fun a hF => ?_
        refine q_x (v := (.bool true)) hF hS (ex_move rfl) rfl rfl fun a hF => ?_
        refine q_skip hF (wanted_f hF rfl rfl rfl rfl rfl) rfl fun a hF => ?_
        refine q_skip hF (wanted_f hF rfl rfl rfl rfl rfl) rfl fun a hF => ?_
        refine q_skip hF (wanted_f hF rfl rfl rfl rfl rfl) rfl fun a hF => ?_
        refine q_skip hF (wanted_f hF rfl rfl rfl rfl rfl) rfl fun a hF => ?_
        refine q_skip hF (wanted_f hF rfl rfl rfl rfl rfl) rfl fun a hF => ?_
        refine q_x (v := (.bool true)) hF hS (ex_pick_t rfl rfl rfl) rfl rfl fun a hF => ?_
        refine q_end (n_jn ?_)
        obtain rfl := someI hj1
        exact ⟨hF.sub ⟨rfl, rfl, rfl, rfl, trivial⟩, hS⟩
    · have hj1 := cond_t hc2 hj1
      refine q_skip hF (wanted_f hF rfl rfl rfl hc2 rfl) rfl fun a hF => ?_
      refine q_skip hF (wanted_f hF rfl rfl rfl hc2 rfl) rfl fun a hF => ?_
      refine q_skip hF (wanted_f hF rfl rfl rfl hc2 rfl) rfl fun a hF => ?_
      refine q_skip hF (wanted_f hF rfl rfl rfl hc2 rfl) rfl fun a hF => ?_
      refine q_skip hF (wanted_f hF rfl rfl rfl hc2 rfl) rfl fun a hF => ?_
      refine q_x (v := (.bool true)) hF hS (ex_pick_t rfl rfl hc2) rfl rfl fun a hF => ?_
      refine q_x (v := (.bool true)) hF hS (ex_move rfl) rfl rfl fun a hF => ?_
      refine q_skip hF (wanted_f hF rfl rfl rfl rfl rfl) rfl fun a hF => ?_
      refine q_skip hF (wanted_f hF rfl rfl rfl rfl rfl) rfl fun a hF => ?_
      refine q_skip hF (wanted_f hF rfl rfl rfl rfl rfl) rfl fun a hF => ?_
      refine q_x (v := (.bool true)) hF hS (ex_pick_t rfl rfl rfl) rfl rfl fun a hF => ?_
      refine q_x (v := (.bool true)) hF hS (ex_move rfl) rfl rfl fun a hF => ?_
      refine q_skip hF (wanted_f hF rfl rfl rfl rfl rfl) rfl fun a hF => ?_
      refine q_skip hF (wanted_f hF rfl rfl rfl rfl rfl) rfl fun a hF => ?_
      refine q_skip hF (wanted_f hF rfl rfl rfl rfl rfl) rfl fun a hF => ?_
      refine q_skip hF (wanted_f hF rfl rfl rfl rfl rfl) rfl fun a hF => ?_
      refine q_skip hF (wanted_f hF rfl rfl rfl rfl rfl) rfl fun a hF => ?_
      refine q_x (v := (.bool true)) hF hS (ex_pick_t rfl rfl rfl) rfl rfl fun a hF => ?_
      refine q_end (n_jn ?_)
      obtain rfl := someI hj1
      exact ⟨hF.sub ⟨rfl, rfl, rfl, rfl, trivial⟩, hS⟩
  · rintro a w ⟨hF, hS⟩
    refine n_sq ?_
    rcases bcase (t_9) with hc5 | hc5
    · have hr := cond_f hc5 hr
      refine q_cond_f hF rfl hc5 ?_
      refine q_skipc (n_sq ?_)
      refine q_seq ?_
      refine q_region ?_
      refine q_x (v := (.agg #[s1.v])) hF hS (ex_loadA (vs := [s1.v]) 1 0 Try.underlying25 rfl sz25 rfl rfl rfl rfl) rfl rfl fun a hF => ?_
      refine q_x (v := s2.v) hF hS (ex_move rfl) rfl rfl fun a hF => ?_
      refine q_x (v := (.agg #[(.int .i64 p_t.Level), s3.v, s4.v, (.int .i64 p_t.Sum)])) hF hS (ex_loadA (vs := [(.int .i64 p_t.Level), s3.v, s4.v, (.int .i64 p_t.Sum)]) 0 0 Try.underlying28 rfl sz28 rfl rfl rfl rfl) rfl rfl fun a hF => ?_
      obtain ⟨t_10, ht_10, hr⟩ := bindS hr
      refine q_call (vs := [(.agg #[s1.v]), s2.v, (.agg #[(.int .i64 p_t.Level), s3.v, s4.v, (.int .i64 p_t.Sum)])]) hF hS Try.func31 (by kernel_rfl) rfl rfl rfl (c_impl_cellCount p_g p_s p_t t_10 ht_10 _ m hS.vis s1 h1 s2 h2 s3 h3 s4 h4) ?_
      rintro a w _ rfl hF hS
      refine q_x (v := (.int .i64 t_10)) hF hS (ex_assign rfl) rfl rfl fun a hF => ?_
      refine q_end (n_sq ?_)
      refine q_seq ?_
      obtain ⟨t_11, hj6, hr⟩ := bindS hr
      refine q_join (fun a w => Fr a 42 [(6, (.bool t_11))] ∧ St [] w0 w m []) ?_ ?_
      · refine q_region ?_
        refine q_x (v := (.int .i64 t_10)) hF hS (ex_move rfl) rfl rfl fun a hF => ?_
        refine q_x (v := (.bool (decide (0 < t_10)))) hF hS (ex_ibin rfl rfl rfl) rfl rfl fun a hF => ?_
        refine q_x (v := (.bool (decide (0 < t_10)))) hF hS (ex_move rfl) rfl rfl fun a hF => ?_
        rcases bcase (decide (0 < t_10)) with hc7 | hc7
        · have hj6 := cond_f hc7 hj6
          refine q_skip hF (wanted_f hF rfl rfl rfl hc7 rfl) rfl fun a hF => ?_
          refine q_skip hF (wanted_f hF rfl rfl rfl hc7 rfl) rfl fun a hF => ?_
          refine q_x (v := (.bool false)) hF hS (ex_pick_f rfl rfl hc7) rfl rfl fun a hF => ?_
          refine q_x (v := (.bool false)) hF hS (ex_assign rfl) rfl rfl fun a hF => ?_
          refine q_end (n_jn ?_)
          obtain rfl := someI hj6
          exact ⟨hF.sub ⟨rfl, trivial⟩, hS.mask [false, false]⟩
        · have hj6 := cond_t hc7 hj6
          refine q_xg (v := (.int .i64 t_10)) hF hS (ex_move rfl) (wanted_t hF rfl rfl rfl hc7) rfl fun a hF => ?_
          refine q_xg (v := (.bool (decide (t_10 ≤ 600)))) hF hS (ex_ibin rfl rfl rfl) (wanted_t hF rfl rfl rfl hc7) rfl fun a hF => ?_
          refine q_x (v := (.bool (decide (t_10 ≤ 600)))) hF hS (ex_pick_t rfl rfl hc7) rfl rfl fun a hF => ?_
          refine q_x (v := (.bool (decide (t_10 ≤ 600)))) hF hS (ex_assign rfl) rfl rfl fun a hF => ?_
          refine q_end (n_jn ?_)
          obtain rfl := someI hj6
          exact ⟨hF.sub ⟨rfl, trivial⟩, hS.mask [false, false]⟩
      · rintro a w ⟨hF, hS⟩
        refine n_sq (q_ret ?_)
        obtain rfl := someI hr
        exact ret_of hF hS rfl (.tmp rfl .nil) rfl
    · have hr := cond_t hc5 hr
      refine q_cond_t hF rfl hc5 ?_
      refine q_seq ?_
      refine q_region ?_
      refine q_x (v := (.bool false)) hF hS (ex_assign rfl) rfl rfl fun a hF => ?_
      refine q_end (n_sq (q_ret (r_sq ?_)))
      obtain rfl := someI hr
      exact ret_of hF hS rfl (.tmp rfl .nil) rfl

theorem c_impl_areTabled (p_g : impl_Geo) (p_s : List impl_Variable) (p_t : impl_Table) (r : Bool) (hr : impl_areTabled p_g p_s p_t = some r) (w0 : World) (m : Mem) (hv : Vis m w0) (s1 : Sl) (h1 : Rd m s1 p_g.Parents) (s2 : Sl) (h2 : Rd m s2 p_s) (s3 : Sl) (h3 : Rd m s3 p_t.Vars) (s4 : Sl) (h4 : Rd m s4 p_t.Where) :
    Ret Try.prog 29 [(.agg #[s1.v]), s2.v, (.agg #[(.int .i64 p_t.Level), s3.v, s4.v, (.int .i64 p_t.Sum)])] w0 (fun v _ => v = (.bool r)) := by
  unfold impl_areTabled at hr
  refine ret_start Try.func29 rfl 19 rfl rfl m hv fun a hF hS => ?_
  refine q_seq ?_
  refine q_region ?_
  refine q_box (cs := [s1.v]) hF hS rfl rfl rfl fun a w b5 hF hS => ?_
  refine q_box (cs := [(.int .i64 p_t.Level), s3.v, s4.v, (.int .i64 p_t.Sum)]) hF hS rfl rfl rfl fun a w b6 hF hS => ?_
  refine q_x (v := (.bool false)) hF hS (ex_assign rfl) rfl rfl fun a hF => ?_
  refine q_end (n_sq ?_)
  refine q_seq ?_
  obtain ⟨t_10, hj1, hr⟩ := bindS hr
  refine q_join (fun a w => Fr a 19 [(6, (.bool t_10))] ∧ St [] w0 w m []) ?_ ?_
  · refine q_region ?_
    refine q_x (v := (.agg #[s1.v])) hF hS (ex_loadA (vs := [s1.v]) 1 0 Try.underlying25 rfl sz25 rfl rfl rfl rfl) rfl rfl fun a hF => ?_
    obtain ⟨t_7, ht_7, hj1⟩ := bindS hj1
    refine q_call (vs := [(.agg #[s1.v])]) hF hS Try.func72 (by kernel_rfl) rfl rfl rfl (c_impl_IsGeo p_g t_7 ht_7 _ m hS.vis s1 h1) ?_
    rintro a w _ rfl hF hS
    refine q_x (v := (.bool t_7)) hF hS (ex_move rfl) rfl rfl fun a hF => ?_
    rcases bcase (t_7) with hc2 | hc2
    · have hj1 := cond_f hc2 hj1
      refine q_skip hF (wanted_f hF rfl rfl rfl hc2 rfl) rfl fun a hF => ?_
      refine q_skip hF (wanted_f hF rfl rfl rfl hc2 rfl) rfl fun a hF => ?_
      refine q_x (v := (.bool false)) hF hS (ex_pick_f rfl rfl hc2) rfl rfl fun a hF => ?_
      refine q_x (v := (.bool false)) hF hS (ex_move rfl) rfl rfl fun a hF => ?_
      refine q_skip hF (wanted_f hF rfl rfl rfl rfl rfl) rfl fun a hF => ?_
      refine q_skip hF (wanted_f hF rfl rfl rfl rfl rfl) rfl fun a hF => ?_
      refine q_skip hF (wanted_f hF rfl rfl rfl rfl rfl) rfl fun a hF => ?_
      refine q_skip hF (wanted_f hF rfl rfl rfl rfl rfl) rfl fun a hF => ?_
      refine q_x (v := (.bool false)) hF hS (ex_pick_f rfl rfl rfl) rfl rfl fun a hF => ?_
      refine q_x (v := (.bool false)) hF hS (ex_assign rfl) rfl rfl fun a hF => ?_
      refine q_end (n_jn ?_)
      obtain rfl := someI hj1
      exact ⟨hF.sub ⟨rfl, trivial⟩, hS.mask [false, false]⟩
    · have hj1 := cond_t hc2 hj1
      refine q_xg (v := s2.v) hF hS (ex_move rfl) (wanted_t hF rfl rfl rfl hc2) rfl fun a hF => ?_
      obtain ⟨t_8, ht_8, hj1⟩ := bindS hj1
      refine q_callg (vs := [s2.v]) hF hS (wanted_t hF rfl rfl rfl hc2) Try.func56 (by kernel_rfl) rfl rfl rfl (c_impl_IsSchema p_s t_8 ht_8 _ m hS.vis s2 h2) ?_
      rintro a w _ rfl hF hS
      refine q_x (v := (.bool t_8)) hF hS (ex_pick_t rfl rfl hc2) rfl rfl fun a hF => ?_
      refine q_x (v := (.bool t_8)) hF hS (ex_move rfl) rfl rfl fun a hF => ?_
      rcases bcase (t_8) with hc3 | hc3
      · have hj1 := cond_f hc3 hj1
        refine q_skip hF (wanted_f hF rfl rfl rfl hc3 rfl) rfl fun a hF => ?_
        refine q_skip hF (wanted_f hF rfl rfl rfl hc3 rfl) rfl fun a hF => ?_
        refine q_skip hF (wanted_f hF rfl rfl rfl hc3 rfl) rfl fun a hF => ?_
        refine q_skip hF (wanted_f hF rfl rfl rfl hc3 rfl) rfl fun a hF => ?_
        refine q_x (v := (.bool false)) hF hS (ex_pick_f rfl rfl hc3) rfl rfl fun a hF => ?_
        refine q_x (v := (.bool false)) hF hS (ex_assign rfl) rfl rfl fun a hF => ?_
        refine q_end (n_jn ?_)
        obtain rfl := someI hj1
        exact ⟨hF.sub ⟨rfl, trivial⟩, hS.mask [false, false]⟩
      · have hj1 := cond_t hc3 hj1
        refine q_xg (v := (.agg #[s1.v])) hF hS (ex_loadA (vs := [s1.v]) 1 0 Try.underlying25 rfl sz25 rfl rfl rfl rfl) (wanted_t hF rfl rfl rfl hc3) rfl fun a hF => ?_
        refine q_xg (v := s2.v) hF hS (ex_move rfl) (wanted_t hF rfl rfl rfl hc3) rfl fun a hF => ?_
        refine q_xg (v := (.agg #[(.int .i64 p_t.Level), s3.v, s4.v, (.int .i64 p_t.Sum)])) hF hS (ex_loadA (vs := [(.int .i64 p_t.Level), s3.v, s4.v, (.int .i64 p_t.Sum)]) 0 0 Try.underlying28 rfl sz28 rfl rfl rfl rfl) (wanted_t hF rfl rfl rfl hc3) rfl fun a hF => ?_
        obtain ⟨t_9, ht_9, hj1⟩ := bindS hj1
        refine q_callg (vs := [(.agg #[s1.v]), s2.v, (.agg #[(.int .i64 p_t.Level), s3.v, s4.v, (.int .i64 p_t.Sum)])]) hF hS (wanted_t hF rfl rfl rfl hc3) Try.func73 (by kernel_rfl) rfl rfl rfl (c_impl_isTable p_g p_s p_t t_9 ht_9 _ m hS.vis s1 h1 s2 h2 s3 h3 s4 h4) ?_
        rintro a w _ rfl hF hS
        refine q_x (v := (.bool t_9)) hF hS (ex_pick_t rfl rfl hc3) rfl rfl fun a hF => ?_
        refine q_x (v := (.bool t_9)) hF hS (ex_assign rfl) rfl rfl fun a hF => ?_
        refine q_end (n_jn ?_)
        obtain rfl := someI hj1
        exact ⟨hF.sub ⟨rfl, trivial⟩, hS.mask [false, false]⟩
  · rintro a w ⟨hF, hS⟩
    refine n_sq (q_ret ?_)
    obtain rfl := someI hr
    exact ret_of hF hS rfl (.tmp rfl .nil) rfl

theorem c_impl_areValues (p_s : List impl_Variable) (p_values : List Int) (r : Bool) (hr : impl_areValues p_s p_values = some r) (w0 : World) (m : Mem) (hv : Vis m w0) (s1 : Sl) (h1 : Rd m s1 p_s) (s2 : Sl) (h2 : Rd m s2 p_values) :
    Ret Try.prog 52 [s1.v, s2.v] w0 (fun v _ => v = (.bool r)) := by
  unfold impl_areValues at hr
  refine ret_start Try.func52 rfl 31 rfl rfl m hv fun a hF hS => ?_
  refine q_seq ?_
  refine q_region ?_
  refine q_x (v := (.bool false)) hF hS (ex_assign rfl) rfl rfl fun a hF => ?_
  refine q_end (n_sq ?_)
  refine q_seq ?_
  refine q_seq ?_
  refine q_region ?_
  refine q_x (v := s2.v) hF hS (ex_move rfl) rfl rfl fun a hF => ?_
  refine q_x (v := (.int .i64 (goLen p_values))) hF hS (ex_len Try.underlying23 rfl h2.len) rfl rfl fun a hF => ?_
  refine q_x (v := s1.v) hF hS (ex_move rfl) rfl rfl fun a hF => ?_
  refine q_x (v := (.int .i64 (goLen p_s))) hF hS (ex_len Try.underlying26 rfl h1.len) rfl rfl fun a hF => ?_
  refine q_x (v := (.bool ((goLen p_values) != (goLen p_s)))) hF hS (ex_ibin rfl rfl rfl) rfl rfl fun a hF => ?_
  refine q_end (n_sq ?_)
  rcases bcase ((goLen p_values) != (goLen p_s)) with hc1 | hc1
  · have hr := cond_f hc1 hr
    refine q_cond_f hF rfl hc1 ?_
    refine q_skipc (n_sq ?_)
    refine q_seq ?_
    refine q_seq ?_
    refine q_region ?_
    refine q_x (v := s2.v) hF hS (ex_move rfl) rfl rfl fun a hF => ?_
    refine q_x (v := (.int .i64 (goLen p_values))) hF hS (ex_len Try.underlying23 rfl h2.len) rfl rfl fun a hF => ?_
    refine q_x (v := (.int .i64 0)) hF hS (ex_move rfl) rfl rfl fun a hF => ?_
    refine q_end (n_sq ?_)
    refine q_block ?_
    obtain ⟨o2, hl2, hr⟩ := bindS hr
    refine q_loop (fun (t_3 : Int) a w => Fr a 31 [(0, s1.v), (12, s2.v), (13, (.int .i64 (goLen p_values))), (14, (.int .i64 t_3))] ∧ St [] w0 w m []) (fun (o : (Unit) ⊕ (Bool)) e a w => o = .inl () ∧ e = .exit 0 ∧ Fr a 31 [] ∧ St [] w0 w m []) hl2 ⟨hF.sub ⟨rfl, rfl, rfl, rfl, trivial⟩, hS⟩ ?_ ?_
    · clear hF hS
      rintro t_3 a w st ⟨hF, hS⟩ hb2
      unfold impl_areValues_l1 at hb2
      refine q_seq ?_
      refine q_region ?_
      refine q_x (v := (.bool (decide (t_3 < (goLen p_values))))) hF hS (ex_ibin rfl rfl rfl) rfl rfl fun a hF => ?_
      refine q_end (n_sq ?_)
      refine q_seq ?_
      rcases bcase (decide (t_3 < (goLen p_values))) with hc3 | hc3
      · have hb2 := cond_f hc3 hb2
        refine q_cond_f hF rfl hc3 ?_
        refine q_exit (x_sq ?_)
        obtain rfl := someI hb2
        exact ⟨nofun, .inl ⟨rfl, rfl, hF.sub trivial, hS⟩⟩
      · have hb2 := cond_t hc3 hb2
        refine q_cond_t hF rfl hc3 ?_
        refine q_skipc (n_sq ?_)
        refine q_seq ?_
        refine q_block ?_
        refine q_seq ?_
        refine q_region ?_
        refine q_x (v := (.int .i64 t_3)) hF hS (ex_move rfl) rfl rfl fun a hF => ?_
        obtain ⟨e_4, he_4, hb2⟩ := bindS hb2
        obtain ⟨vs5, at5, d5⟩ := h2.at he_4 1 rfl
        obtain rfl : vs5 = [(.int .i64 e_4)] := d5
        refine q_x (v := (elP s2 (t_3.toNat * 1))) hF hS (ex_indexAddr Try.underlying23 sz3 rfl rfl (h2.idx he_4)) rfl rfl fun a hF => ?_
        refine q_x (v := (.int .i64 e_4)) hF hS (ex_loadE1 0 Try.underlying3 rfl rfl ((at5).at) rfl rfl) rfl rfl fun a hF => ?_
        refine q_x (v := (.int .i64 t_3)) hF hS (ex_assign rfl) rfl rfl fun a hF => ?_
        refine q_x (v := (.int .i64 e_4)) hF hS (ex_assign rfl) rfl rfl fun a hF => ?_
        refine q_end (n_sq ?_)
        refine q_seq ?_
        obtain ⟨t_8, hj4, hb2⟩ := bindS hb2
        refine q_join (fun a w => Fr a 31 [(0, s1.v), (12, s2.v), (13, (.int .i64 (goLen p_values))), (14, (.int .i64 t_3)), (29, (.bool t_8))] ∧ St [] w0 w m []) ?_ ?_
        · refine q_region ?_
          refine q_x (v := (.int .i64 e_4)) hF hS (ex_move rfl) rfl rfl fun a hF => ?_
          refine q_x (v := (.bool (decide (e_4 < 0)))) hF hS (ex_ibin rfl rfl rfl) rfl rfl fun a hF => ?_
          refine q_x (v := (.bool (decide (e_4 < 0)))) hF hS (ex_move rfl) rfl rfl fun a hF => ?_
          rcases bcase (decide (e_4 < 0)) with hc5 | hc5
          · have hj4 := cond_f hc5 hj4
            refine q_xg (v := (.int .i64 e_4)) hF hS (ex_move rfl) (wanted_t hF rfl rfl rfl hc5) rfl fun a hF => ?_
            refine q_xg (v := s1.v) hF hS (ex_move rfl) (wanted_t hF rfl rfl rfl hc5) rfl fun a hF => ?_
            refine q_xg (v := (.int .i64 t_3)) hF hS (ex_move rfl) (wanted_t hF rfl rfl rfl hc5) rfl fun a hF => ?_
            obtain ⟨e_6, he_6, hj4⟩ := bindS hj4
            obtain ⟨vs7, at7, d7⟩ := h1.at he_6 2 rfl
            obtain rfl : vs7 = [(strV e_6.Name), (.int .i64 e_6.Levels)] := d7
            refine q_xg (v := (elP s1 (t_3.toNat * 2))) hF hS (ex_indexAddr Try.underlying26 sz104 rfl rfl (h1.idx he_6)) (wanted_t hF rfl rfl rfl hc5) rfl fun a hF => ?_
            refine q_xg (v := (elP s1 (t_3.toNat * 2 + 1))) hF hS (ex_fieldAddrE Try.underlying104 rfl sz3 rfl (h1.idx he_6) rfl) (wanted_t hF rfl rfl rfl hc5) rfl fun a hF => ?_
            refine q_xg (v := (.int .i64 e_6.Levels)) hF hS (ex_loadE1 1 Try.underlying3 rfl rfl ((at7).at) rfl rfl) (wanted_t hF rfl rfl rfl hc5) rfl fun a hF => ?_
            refine q_xg (v := (.bool (decide (e_6.Levels ≤ e_4)))) hF hS (ex_ibin rfl rfl rfl) (wanted_t hF rfl rfl rfl hc5) rfl fun a hF => ?_
            refine q_x (v := (.bool (decide (e_6.Levels ≤ e_4)))) hF hS (ex_pick_f rfl rfl hc5) rfl rfl fun a hF => ?_
            refine q_end (n_jn ?_)
            obtain rfl := someI hj4
            exact ⟨hF.sub ⟨rfl, rfl, rfl, rfl, rfl, trivial⟩, hS⟩
          · have hj4 := cond_t hc5 hj4
            refine q_skip hF (wanted_f hF rfl rfl rfl hc5 rfl) rfl fun a hF => ?_
            refine q_skip hF (wanted_f hF rfl rfl rfl hc5 rfl) rfl fun a hF => ?_
            refine q_skip hF (wanted_f hF rfl rfl rfl hc5 rfl) rfl fun a hF => ?_
            refine q_skip hF (wanted_f hF rfl rfl rfl hc5 rfl) rfl fun a hF => ?_
            refine q_skip hF (wanted_f hF rfl rfl rfl hc5 rfl) rfl fun a hF => ?_
            refine q_skip hF (wanted_f hF rfl rfl rfl hc5 rfl) rfl fun a hF => ?_
            refine q_skip hF (wanted_f hF rfl rfl rfl hc5 rfl) rfl fun a hF => ?_
            refine q_x (v := (.bool true)) hF hS (ex_pick_t rfl rfl hc5) rfl rfl fun a hF => ?_
            refine q_end (n_jn ?_)
            obtain rfl := someI hj4
            exact ⟨hF.sub ⟨rfl, rfl, rfl, rfl, rfl, trivial⟩, hS⟩
        · rintro a w ⟨hF, hS⟩
          refine n_sq ?_
          rcases bcase (t_8) with hc6 | hc6
          · have hb2 := cond_f hc6 hb2
            refine q_cond_f hF rfl hc6 ?_
            refine q_skipc (n_ib (n_sq ?_))
            refine q_region ?_
            refine q_x (v := (.int .i64 (w64 (t_3 + 1)))) hF hS (ex_ibin rfl rfl rfl) rfl rfl fun a hF => ?_
            refine q_x (v := (.int .i64 (w64 (t_3 + 1)))) hF hS (ex_move rfl) rfl rfl fun a hF => ?_
            refine q_end ?_
            obtain rfl := someI hb2
            exact ⟨rfl, hF.sub ⟨rfl, rfl, rfl, rfl, trivial⟩, hS⟩
          · have hb2 := cond_t hc6 hb2
            refine q_cond_t hF rfl hc6 ?_
            refine q_seq ?_
            refine q_region ?_
            refine q_x (v := (.bool false)) hF hS (ex_assign rfl) rfl rfl fun a hF => ?_
            refine q_end (n_sq (q_ret (r_ib (r_sq ?_))))
            obtain rfl := someI hb2
            refine ⟨nofun, .inr fun ho => ?_⟩
            subst ho
            refine r_ib (r_sq ?_)
            obtain rfl := someI hr
            exact ret_of hF hS rfl (.tmp rfl .nil) rfl
    · rintro e a w ⟨rfl, rfl, hF, hS⟩
      refine x_ib (n_sq ?_)
      refine q_seq ?_
      refine q_region ?_
      refine q_x (v := (.bool true)) hF hS (ex_assign rfl) rfl rfl fun a hF => ?_
      refine q_end (n_sq (q_ret ?_))
      obtain rfl := someI hr
      exact ret_of hF hS rfl (.tmp rfl .nil) rfl
  · have hr := cond_t hc1 hr
    refine q_cond_t hF rfl hc1 ?_
    refine q_seq ?_
    refine q_region ?_
    refine q_x (v := (.bool false)) hF hS (ex_assign rfl) rfl rfl fun a hF => ?_
    refine q_end (n_sq (q_ret (r_sq ?_)))
    obtain rfl := someI hr
    exact ret_of hF hS rfl (.tmp rfl .nil) rfl

theorem c_impl_isRecord (p_s : List impl_Variable) (p_r : impl_Record) (r : Bool) (hr : impl_isRecord p_s p_r = some r) (w0 : World) (m : Mem) (hv : Vis m w0) (s1 : Sl) (h1 : Rd m s1 p_s) (s2 : Sl) (h2 : Rd m s2 p_r.Values) :
    Ret Try.prog 39 [s1.v, (.agg #[(.int .i64 p_r.Area), (.int .i64 p_r.House), s2.v])] w0 (fun v _ => v = (.bool r)) := by
  unfold impl_isRecord at hr
  refine ret_start Try.func39 rfl 29 rfl rfl m hv fun a hF hS => ?_
  refine q_seq ?_
  refine q_region ?_
  refine q_box (cs := [(.int .i64 p_r.Area), (.int .i64 p_r.House), s2.v]) hF hS rfl rfl rfl fun a w b3 hF hS => ?_
  refine q_x (v := (.bool false)) hF hS (ex_assign rfl) rfl rfl fun a hF => ?_
  refine q_end (n_sq ?_)
  refine q_seq ?_
  obtain ⟨t_5, hj1, hr⟩ := bindS hr
  refine q_join (fun a w => Fr a 29 [(4, (.bool t_5))] ∧ St [] w0 w m []) ?_ ?_
  · refine q_region ?_
    refine q_x (v := (.pointer (some ⟨b3, 0, none⟩))) hF hS (ex_fieldAddr Try.underlying41 rfl sz3 rfl rfl) rfl rfl fun a hF => ?_
    refine q_x (v := (.int .i64 p_r.Area)) hF hS (ex_load1 0 0 Try.underlying3 rfl rfl rfl rfl) rfl rfl fun a hF => ?_
    refine q_x (v := (.bool (decide (0 ≤ p_r.Area)))) hF hS (ex_ibin rfl rfl rfl) rfl rfl fun a hF => ?_
    refine q_x (v := (.bool (decide (0 ≤ p_r.Area)))) hF hS (ex_move rfl) rfl rfl fun a hF => ?_
    rcases bcase (decide (0 ≤ p_r.Area)) with hc2 | hc2
    · have hj1 := cond_f hc2 hj1
      refine q_skip hF (wanted_f hF rfl rfl rfl hc2 rfl) rfl fun a hF => ?_
      refine q_skip hF (wanted_f hF rfl rfl rfl hc2 rfl) rfl fun a hF => ?_
      refine q_skip hF (wanted_f hF rfl rfl rfl hc2 rfl) rfl fun a hF => ?_
      refine q_x (v := (.bool false)) hF hS (ex_pick_f rfl rfl hc2) rfl rfl fun a hF => ?_
      refine q_x (v := (.bool false)) hF hS (ex_move rfl) rfl rfl fun a hF => ?_
      refine q_skip hF (wanted_f hF rfl rfl rfl rfl rfl) rfl fun a hF => ?_
      refine q_skip hF (wanted_f hF rfl rfl rfl rfl rfl) rfl fun a hF => ?_
      refine q_skip hF (wanted_f hF rfl rfl rfl rfl rfl) rfl fun a hF => ?_
      refine q_x (v := (.bool false)) hF hS (ex_pick_f rfl rfl rfl) rfl rfl fun a hF => ?_
      refine q_x (v := (.bool false)) hF hS (ex_move rfl) rfl rfl fun a hF => ?_
      refine q_skip hF (wanted_f hF rfl rfl rfl rfl rfl) rfl fun a hF => ?_
      refine q_skip hF (wanted_f hF rfl rfl rfl rfl rfl) rfl fun a hF => ?_
      refine q_skip hF (wanted_f hF rfl rfl rfl rfl rfl) rfl fun a hF => ?_
      refine q_x (v := (.bool false)) hF hS (ex_pick_f rfl rfl rfl) rfl rfl fun a hF => ?_
      refine q_x (v := (.bool false)) hF hS (ex_move rfl) rfl rfl fun a hF => ?_
      refine q_skip hF (wanted_f hF rfl rfl rfl rfl rfl) rfl fun a hF => ?_
      refine q_skip hF (wanted_f hF rfl rfl rfl rfl rfl) rfl fun a hF => ?_
      refine q_skip hF (wanted_f hF rfl rfl rfl rfl rfl) rfl fun a hF => ?_
      refine q_skip hF (wanted_f hF rfl rfl rfl rfl rfl) rfl fun a hF => ?_
      refine q_x (v := (.bool false)) hF hS (ex_pick_f rfl rfl rfl) rfl rfl fun a hF => ?_
      refine q_x (v := (.bool false)) hF hS (ex_assign rfl) rfl rfl fun a hF => ?_
      refine q_end (n_jn ?_)
      obtain rfl := someI hj1
      exact ⟨hF.sub ⟨rfl, trivial⟩, hS.mask [false]⟩
    · have hj1 := cond_t hc2 hj1
      refine q_xg (v := (.pointer (some ⟨b3, 0, none⟩))) hF hS (ex_fieldAddr Try.underlying41 rfl sz3 rfl rfl) (wanted_t hF rfl rfl rfl hc2) rfl fun a hF => ?_
      refine q_xg (v := (.int .i64 p_r.Area)) hF hS (ex_load1 0 0 Try.underlying3 rfl rfl rfl rfl) (wanted_t hF rfl rfl rfl hc2) rfl fun a hF => ?_
      refine q_xg (v := (.bool (decide (p_r.Area ≤ 29)))) hF hS (ex_ibin rfl rfl rfl) (wanted_t hF rfl rfl rfl hc2) rfl fun a hF => ?_
      refine q_x (v := (.bool (decide (p_r.Area ≤ 29)))) hF hS (ex_pick_t rfl rfl hc2) rfl rfl fun a hF => ?_
      refine q_x (v := (.bool (decide (p_r.Area ≤ 29)))) hF hS (ex_move rfl) rfl rfl fun a hF => ?_
      rcases bcase (decide (p_r.Area ≤ 29)) with hc3 | hc3
      · have hj1 := cond_f hc3 hj1
        refine q_skip hF (wanted_f hF rfl rfl rfl hc3 rfl) rfl fun a hF => ?_
        refine q_skip hF (wanted_f hF rfl rfl rfl hc3 rfl) rfl fun a hF => ?_
        refine q_skip hF (wanted_f hF rfl rfl rfl hc3 rfl) rfl fun a hF => ?_
        refine q_x (v := (.bool false)) hF hS (ex_pick_f rfl rfl hc3) rfl rfl fun a hF => ?_
        refine q_x (v := (.bool false)) hF hS (ex_move rfl) rfl rfl fun a hF => ?_
        refine q_skip hF (wanted_f hF rfl rfl rfl rfl rfl) rfl fun a hF => ?_
        refine q_skip hF (wanted_f hF rfl rfl rfl rfl rfl) rfl fun a hF => ?_
        refine q_skip hF (wanted_f hF rfl rfl rfl rfl rfl) rfl fun a hF => ?_
        refine q_x (v := (.bool false)) hF hS (ex_pick_f rfl rfl rfl) rfl rfl fun a hF => ?_
        refine q_x (v := (.bool false)) hF hS (ex_move rfl) rfl rfl fun a hF => ?_
        refine q_skip hF (wanted_f hF rfl rfl rfl rfl rfl) rfl fun a hF => ?_
        refine q_skip hF (wanted_f hF rfl rfl rfl rfl rfl) rfl fun a hF => ?_
        refine q_skip hF (wanted_f hF rfl rfl rfl rfl rfl) rfl fun a hF => ?_
        refine q_skip hF (wanted_f hF rfl rfl rfl rfl rfl) rfl fun a hF => ?_
        refine q_x (v := (.bool false)) hF hS (ex_pick_f rfl rfl rfl) rfl rfl fun a hF => ?_
        refine q_x (v := (.bool false)) hF hS (ex_assign rfl) rfl rfl fun a hF => ?_
        refine q_end (n_jn ?_)
        obtain rfl := someI hj1
        exact ⟨hF.sub ⟨rfl, trivial⟩, hS.mask [false]⟩
      · have hj1 := cond_t hc3 hj1
        refine q_xg (v := (.pointer (some ⟨b3, 1, none⟩))) hF hS (ex_fieldAddr Try.underlying41 rfl sz3 rfl rfl) (wanted_t hF rfl rfl rfl hc3) rfl fun a hF => ?_
        refine q_xg (v := (.int .i64 p_r.House)) hF hS (ex_load1 0 0 Try.underlying3 rfl rfl rfl rfl) (wanted_t hF rfl rfl rfl hc3) rfl fun a hF => ?_
        refine q_xg (v := (.bool (decide (0 ≤ p_r.House)))) hF hS (ex_ibin rfl rfl rfl) (wanted_t hF rfl rfl rfl hc3) rfl fun a hF => ?_
        refine q_x (v := (.bool (decide (0 ≤ p_r.House)))) hF hS (ex_pick_t rfl rfl hc3) rfl rfl fun a hF => ?_
        refine q_x (v := (.bool (decide (0 ≤ p_r.House)))) hF hS (ex_move rfl) rfl rfl fun a hF => ?_
        rcases bcase (decide (0 ≤ p_r.House)) with hc4 | hc4
        · have hj1 := cond_f hc4 hj1
          refine q_skip hF (wanted_f hF rfl rfl rfl hc4 rfl) rfl fun a hF => ?_
          refine q_skip hF (wanted_f hF rfl rfl rfl hc4 rfl) rfl fun a hF => ?_
          refine q_skip hF (wanted_f hF rfl rfl rfl hc4 rfl) rfl fun a hF => ?_
          refine q_x (v := (.bool false)) hF hS (ex_pick_f rfl rfl hc4) rfl rfl fun a hF => ?_
          refine q_x (v := (.bool false)) hF hS (ex_move rfl) rfl rfl fun a hF => ?_
          refine q_skip hF (wanted_f hF rfl rfl rfl rfl rfl) rfl fun a hF => ?_
          refine q_skip hF (wanted_f hF rfl rfl rfl rfl rfl) rfl fun a hF => ?_
          refine q_skip hF (wanted_f hF rfl rfl rfl rfl rfl) rfl fun a hF => ?_
          refine q_skip hF (wanted_f hF rfl rfl rfl rfl rfl) rfl fun a hF => ?_
          refine q_x (v := (.bool false)) hF hS (ex_pick_f rfl rfl rfl) rfl rfl fun a hF => ?_
          refine q_x (v := (.bool false)) hF hS (ex_assign rfl) rfl rfl fun a hF => ?_
          refine q_end (n_jn ?_)
          obtain rfl := someI hj1
          exact ⟨hF.sub ⟨rfl, trivial⟩, hS.mask [false]⟩
        · have hj1 := cond_t hc4 hj1
          refine q_xg (v := (.pointer (some ⟨b3, 1, none⟩))) hF hS (ex_fieldAddr Try.underlying41 rfl sz3 rfl rfl) (wanted_t hF rfl rfl rfl hc4) rfl fun a hF => ?_
          refine q_xg (v := (.int .i64 p_r.House)) hF hS (ex_load1 0 0 Try.underlying3 rfl rfl rfl rfl) (wanted_t hF rfl rfl rfl hc4) rfl fun a hF => ?_
          refine q_xg (v := (.bool (decide (p_r.House ≤ 999)))) hF hS (ex_ibin rfl rfl rfl) (wanted_t hF rfl rfl rfl hc4) rfl fun a hF => ?_
          refine q_x (v := (.bool (decide (p_r.House ≤ 999)))) hF hS (ex_pick_t rfl rfl hc4) rfl rfl fun a hF => ?_
          refine q_x (v := (.bool (decide (p_r.House ≤ 999)))) hF hS (ex_move rfl) rfl rfl fun a hF => ?_
          rcases bcase (decide (p_r.House ≤ 999)) with hc5 | hc5
          · have hj1 := cond_f hc5 hj1
            refine q_skip hF (wanted_f hF rfl rfl rfl hc5 rfl) rfl fun a hF => ?_
            refine q_skip hF (wanted_f hF rfl rfl rfl hc5 rfl) rfl fun a hF => ?_
            refine q_skip hF (wanted_f hF rfl rfl rfl hc5 rfl) rfl fun a hF => ?_
            refine q_skip hF (wanted_f hF rfl rfl rfl hc5 rfl) rfl fun a hF => ?_
            refine q_x (v := (.bool false)) hF hS (ex_pick_f rfl rfl hc5) rfl rfl fun a hF => ?_
            refine q_x (v := (.bool false)) hF hS (ex_assign rfl) rfl rfl fun a hF => ?_
            refine q_end (n_jn ?_)
            obtain rfl := someI hj1
            exact ⟨hF.sub ⟨rfl, trivial⟩, hS.mask [false]⟩
          · have hj1 := cond_t hc5 hj1
            refine q_xg (v := s1.v) hF hS (ex_move rfl) (wanted_t hF rfl rfl rfl hc5) rfl fun a hF => ?_
            refine q_xg (v := (.pointer (some ⟨b3, 2, none⟩))) hF hS (ex_fieldAddr Try.underlying41 rfl sz23 rfl rfl) (wanted_t hF rfl rfl rfl hc5) rfl fun a hF => ?_
            refine q_xg (v := s2.v) hF hS (ex_load1 0 0 Try.underlying23 rfl rfl rfl rfl) (wanted_t hF rfl rfl rfl hc5) rfl fun a hF => ?_
            obtain ⟨t_4, ht_4, hj1⟩ := bindS hj1
            refine q_callg (vs := [s1.v, s2.v]) hF hS (wanted_t hF rfl rfl rfl hc5) Try.func52 (by kernel_rfl) rfl rfl rfl (c_impl_areValues p_s p_r.Values t_4 ht_4 _ m hS.vis s1 h1 s2 h2) ?_
            rintro a w _ rfl hF hS
            refine q_x (v := (.bool t_4)) hF hS (ex_pick_t rfl rfl hc5) rfl rfl fun a hF => ?_
            refine q_x (v := (.bool t_4)) hF hS (ex_assign rfl) rfl rfl fun a hF => ?_
            refine q_end (n_jn ?_)
            obtain rfl := someI hj1
            exact ⟨hF.sub ⟨rfl, trivial⟩, hS.mask [false]⟩
  · rintro a w ⟨hF, hS⟩
    refine n_sq (q_ret ?_)
    obtain rfl := someI hr
    exact ret_of hF hS rfl (.tmp rfl .nil) rfl

theorem c_impl_isData (p_s : List impl_Variable) (p_l : List impl_Record) (r : Bool) (hr : impl_isData p_s p_l = some r) (w0 : World) (m : Mem) (hv : Vis m w0) (s1 : Sl) (h1 : Rd m s1 p_s) (s2 : Sl) (h2 : Rd m s2 p_l) :
    Ret Try.prog 74 [s1.v, s2.v] w0 (fun v _ => v = (.bool r)) := by
  unfold impl_isData at hr
  refine ret_start Try.func74 rfl 21 rfl rfl m hv fun a hF hS => ?_
  refine q_seq ?_
  refine q_region ?_
  refine q_x (v := (.bool false)) hF hS (ex_assign rfl) rfl rfl fun a hF => ?_
  refine q_end (n_sq ?_)
  refine q_seq ?_
  refine q_seq ?_
  refine q_region ?_
  refine q_x (v := s2.v) hF hS (ex_move rfl) rfl rfl fun a hF => ?_
  refine q_x (v := (.int .i64 (goLen p_l))) hF hS (ex_len Try.underlying29 rfl h2.len) rfl rfl fun a hF => ?_
  refine q_x (v := (.bool (decide (40 < (goLen p_l))))) hF hS (ex_ibin rfl rfl rfl) rfl rfl fun a hF => ?_
  refine q_end (n_sq ?_)
  rcases bcase (decide (40 < (goLen p_l))) with hc1 | hc1
  · have hr := cond_f hc1 hr
    refine q_cond_f hF rfl hc1 ?_
    refine q_skipc (n_sq ?_)
    refine q_seq ?_
    refine q_seq ?_
    refine q_region ?_
    refine q_x (v := s2.v) hF hS (ex_move rfl) rfl rfl fun a hF => ?_
    refine q_x (v := (.int .i64 (goLen p_l))) hF hS (ex_len Try.underlying29 rfl h2.len) rfl rfl fun a hF => ?_
    refine q_x (v := (.int .i64 0)) hF hS (ex_move rfl) rfl rfl fun a hF => ?_
    refine q_end (n_sq ?_)
    refine q_block ?_
    obtain ⟨o2, hl2, hr⟩ := bindS hr
    refine q_loop (fun (t_3 : Int) a w => Fr a 21 [(0, s1.v), (10, s2.v), (11, (.int .i64 (goLen p_l))), (12, (.int .i64 t_3))] ∧ St [] w0 w m []) (fun (o : (Unit) ⊕ (Bool)) e a w => o = .inl () ∧ e = .exit 0 ∧ Fr a 21 [] ∧ St [] w0 w m []) hl2 ⟨hF.sub ⟨rfl, rfl, rfl, rfl, trivial⟩, hS⟩ ?_ ?_
    · clear hF hS
      rintro t_3 a w st ⟨hF, hS⟩ hb2
      unfold impl_isData_l1 at hb2
      refine q_seq ?_
      refine q_region ?_
      refine q_x (v := (.bool (decide (t_3 < (goLen p_l))))) hF hS (ex_ibin rfl rfl rfl) rfl rfl fun a hF => ?_
      refine q_end (n_sq ?_)
      refine q_seq ?_
      rcases bcase (decide (t_3 < (goLen p_l))) with hc3 | hc3
      · have hb2 := cond_f hc3 hb2
        refine q_cond_f hF rfl hc3 ?_
        refine q_exit (x_sq ?_)
        obtain rfl := someI hb2
        exact ⟨nofun, .inl ⟨rfl, rfl, hF.sub trivial, hS⟩⟩
      · have hb2 := cond_t hc3 hb2
        refine q_cond_t hF rfl hc3 ?_
        refine q_skipc (n_sq ?_)
        refine q_seq ?_
        refine q_block ?_
        refine q_seq ?_
        refine q_region ?_
        obtain ⟨e_4, he_4, hb2⟩ := bindS hb2
        obtain ⟨vs5, at5, d5⟩ := h2.at he_4 3 rfl
        obtain ⟨s6, rfl, h6⟩ : ∃ s6 : Sl, vs5 = [(.int .i64 e_4.Area), (.int .i64 e_4.House), s6.v] ∧ Rd m s6 e_4.Values := d5
        refine q_x (v := (elP s2 (t_3.toNat * 3))) hF hS (ex_indexAddr Try.underlying29 sz41 rfl rfl (h2.idx he_4)) rfl rfl fun a hF => ?_
        refine q_x (v := (.agg #[(.int .i64 e_4.Area), (.int .i64 e_4.House), s6.v])) hF hS (ex_loadEA (us := [(.int .i64 e_4.Area), (.int .i64 e_4.House), s6.v]) 0 Try.underlying41 rfl sz41 rfl ((at5).at) rfl rfl rfl) rfl rfl fun a hF => ?_
        refine q_alloc (cs := [(.int .i64 0), (.int .i64 0), nilS.v]) hF hS rfl rfl rfl fun a w b7 hF hS => ?_
        refine q_store (vs := [(.int .i64 e_4.Area), (.int .i64 e_4.House), s6.v]) (cs' := [(.int .i64 e_4.Area), (.int .i64 e_4.House), s6.v]) 0 0 hF hS sz41 rfl rfl rfl rfl rfl rfl rfl rfl fun a w hF hS => ?_
        refine q_end (n_sq ?_)
        refine q_seq ?_
        refine q_region ?_
        refine q_x (v := s1.v) hF hS (ex_move rfl) rfl rfl fun a hF => ?_
        refine q_x (v := (.agg #[(.int .i64 e_4.Area), (.int .i64 e_4.House), s6.v])) hF hS (ex_loadA (vs := [(.int .i64 e_4.Area), (.int .i64 e_4.House), s6.v]) 0 0 Try.underlying41 rfl sz41 rfl rfl rfl rfl) rfl rfl fun a hF => ?_
        obtain ⟨t_8, ht_8, hb2⟩ := bindS hb2
        refine q_call (vs := [s1.v, (.agg #[(.int .i64 e_4.Area), (.int .i64 e_4.House), s6.v])]) hF hS Try.func39 (by kernel_rfl) rfl rfl rfl (c_impl_isRecord p_s e_4 t_8 ht_8 _ m hS.vis s1 h1 s6 h6) ?_
        rintro a w _ rfl hF hS
        refine q_x (v := (.bool (!t_8))) hF hS (ex_not rfl) rfl rfl fun a hF => ?_
        refine q_end (n_sq ?_)
        rcases bcase (!t_8) with hc4 | hc4
        · have hb2 := cond_f hc4 hb2
          refine q_cond_f hF rfl hc4 ?_
          refine q_skipc (n_ib (n_sq ?_))
          refine q_region ?_
          refine q_x (v := (.int .i64 (w64 (t_3 + 1)))) hF hS (ex_ibin rfl rfl rfl) rfl rfl fun a hF => ?_
          refine q_x (v := (.int .i64 (w64 (t_3 + 1)))) hF hS (ex_move rfl) rfl rfl fun a hF => ?_
          refine q_end ?_
          obtain rfl := someI hb2
          exact ⟨rfl, hF.sub ⟨rfl, rfl, rfl, rfl, trivial⟩, hS.mask [false]⟩
        · have hb2 := cond_t hc4 hb2
          refine q_cond_t hF rfl hc4 ?_
          refine q_seq ?_
          refine q_region ?_
          refine q_x (v := (.bool false)) hF hS (ex_assign rfl) rfl rfl fun a hF => ?_
          refine q_end (n_sq (q_ret (r_ib (r_sq ?_))))
          obtain rfl := someI hb2
          refine ⟨nofun, .inr fun ho => ?_⟩
          subst ho
          refine r_ib (r_sq ?_)
          obtain rfl := someI hr
          exact ret_of hF hS rfl (.tmp rfl .nil) rfl
    · rintro e a w ⟨rfl, rfl, hF, hS⟩
      refine x_ib (n_sq ?_)
      refine q_seq ?_
      refine q_region ?_
      refine q_x (v := (.bool true)) hF hS (ex_assign rfl) rfl rfl fun a hF => ?_
      refine q_end (n_sq (q_ret ?_))
      obtain rfl := someI hr
      exact ret_of hF hS rfl (.tmp rfl .nil) rfl
  · have hr := cond_t hc1 hr
    refine q_cond_t hF rfl hc1 ?_
    refine q_seq ?_
    refine q_region ?_
    refine q_x (v := (.bool false)) hF hS (ex_assign rfl) rfl rfl fun a hF => ?_
    refine q_end (n_sq (q_ret (r_sq ?_)))
    obtain rfl := someI hr
    exact ret_of hF hS rfl (.tmp rfl .nil) rfl

theorem c_impl_isArea (p_g : impl_Geo) (p_i : Int) (r : Bool) (hr : impl_isArea p_g p_i = some r) (w0 : World) (m : Mem) (hv : Vis m w0) (s1 : Sl) (h1 : Rd m s1 p_g.Parents) :
    Ret Try.prog 40 [(.agg #[s1.v]), (.int .i64 p_i)] w0 (fun v _ => v = (.bool r)) := by
  unfold impl_isArea at hr
  refine ret_start Try.func40 rfl 14 rfl rfl m hv fun a hF hS => ?_
  refine q_seq ?_
  refine q_region ?_
  refine q_box (cs := [s1.v]) hF hS rfl rfl rfl fun a w b2 hF hS => ?_
  refine q_x (v := (.bool false)) hF hS (ex_assign rfl) rfl rfl fun a hF => ?_
  refine q_end (n_sq ?_)
  refine q_seq ?_
  obtain ⟨t_3, hj1, hr⟩ := bindS hr
  refine q_join (fun a w => Fr a 14 [(4, (.bool t_3))] ∧ St [] w0 w m []) ?_ ?_
  · refine q_region ?_
    refine q_x (v := (.int .i64 p_i)) hF hS (ex_move rfl) rfl rfl fun a hF => ?_
    refine q_x (v := (.bool (decide (0 ≤ p_i)))) hF hS (ex_ibin rfl rfl rfl) rfl rfl fun a hF => ?_
    refine q_x (v := (.bool (decide (0 ≤ p_i)))) hF hS (ex_move rfl) rfl rfl fun a hF => ?_
    rcases bcase (decide (0 ≤ p_i)) with hc2 | hc2
    · have hj1 := cond_f hc2 hj1
      refine q_skip hF (wanted_f hF rfl rfl rfl hc2 rfl) rfl fun a hF => ?_
      refine q_skip hF (wanted_f hF rfl rfl rfl hc2 rfl) rfl fun a hF => ?_
      refine q_skip hF (wanted_f hF rfl rfl rfl hc2 rfl) rfl fun a hF => ?_
      refine q_skip hF (wanted_f hF rfl rfl rfl hc2 rfl) rfl fun a hF => ?_
      refine q_skip hF (wanted_f hF rfl rfl rfl hc2 rfl) rfl fun a hF => ?_
      refine q_x (v := (.bool false)) hF hS (ex_pick_f rfl rfl hc2) rfl rfl fun a hF => ?_
      refine q_x (v := (.bool false)) hF hS (ex_assign rfl) rfl rfl fun a hF => ?_
      refine q_end (n_jn ?_)
      obtain rfl := someI hj1
      exact ⟨hF.sub ⟨rfl, trivial⟩, hS.mask [false]⟩
    · have hj1 := cond_t hc2 hj1
      refine q_xg (v := (.int .i64 p_i)) hF hS (ex_move rfl) (wanted_t hF rfl rfl rfl hc2) rfl fun a hF => ?_
      refine q_xg (v := (.pointer (some ⟨b2, 0, none⟩))) hF hS (ex_fieldAddr Try.underlying25 rfl sz23 rfl rfl) (wanted_t hF rfl rfl rfl hc2) rfl fun a hF => ?_
      refine q_xg (v := s1.v) hF hS (ex_load1 0 0 Try.underlying23 rfl rfl rfl rfl) (wanted_t hF rfl rfl rfl hc2) rfl fun a hF => ?_
      refine q_xg (v := (.int .i64 (goLen p_g.Parents))) hF hS (ex_len Try.underlying23 rfl h1.len) (wanted_t hF rfl rfl rfl hc2) rfl fun a hF => ?_
      refine q_xg (v := (.bool (decide (p_i < (goLen p_g.Parents))))) hF hS (ex_ibin rfl rfl rfl) (wanted_t hF rfl rfl rfl hc2) rfl fun a hF => ?_
      refine q_x (v := (.bool (decide (p_i < (goLen p_g.Parents))))) hF hS (ex_pick_t rfl rfl hc2) rfl rfl fun a hF => ?_
      refine q_x (v := (.bool (decide (p_i < (goLen p_g.Parents))))) hF hS (ex_assign rfl) rfl rfl fun a hF => ?_
      refine q_end (n_jn ?_)
      obtain rfl := someI hj1
      exact ⟨hF.sub ⟨rfl, trivial⟩, hS.mask [false]⟩
  · rintro a w ⟨hF, hS⟩
    refine n_sq (q_ret ?_)
    obtain rfl := someI hr
    exact ret_of hF hS rfl (.tmp rfl .nil) rfl

theorem c_slices_Index_int_int (p_s : List Int) (p_v : Int) (r : Int) (hr : slices_Index_int_int p_s p_v = some r) (w0 : World) (m : Mem) (hv : Vis m w0) (s1 : Sl) (h1 : Rd m s1 p_s) :
    Ret Try.prog 98 [s1.v, (.int .i64 p_v)] w0 (fun v _ => v = (.int .i64 r)) := by
  unfold slices_Index_int_int at hr
  refine ret_start Try.func98 rfl 19 rfl rfl m hv fun a hF hS => ?_
  refine q_seq ?_
  refine q_region ?_
  refine q_x (v := (.int .i64 0)) hF hS (ex_assign rfl) rfl rfl fun a hF => ?_
  refine q_end (n_sq ?_)
  refine q_seq ?_
  refine q_seq ?_
  refine q_region ?_
  refine q_x (v := s1.v) hF hS (ex_move rfl) rfl rfl fun a hF => ?_
  refine q_x (v := (.int .i64 (goLen p_s))) hF hS (ex_len Try.underlying23 rfl h1.len) rfl rfl fun a hF => ?_
  refine q_x (v := (.int .i64 0)) hF hS (ex_move rfl) rfl rfl fun a hF => ?_
  refine q_end (n_sq ?_)
  refine q_block ?_
  obtain ⟨o1, hl1, hr⟩ := bindS hr
  refine q_loop (fun (t_2 : Int) a w => Fr a 19 [(0, s1.v), (1, (.int .i64 p_v)), (7, (.int .i64 (goLen p_s))), (8, (.int .i64 t_2))] ∧ St [] w0 w m []) (fun (o : (Unit) ⊕ (Int)) e a w => o = .inl () ∧ e = .exit 0 ∧ Fr a 19 [] ∧ St [] w0 w m []) hl1 ⟨hF.sub ⟨rfl, rfl, rfl, rfl, trivial⟩, hS⟩ ?_ ?_
  · clear hF hS
    rintro t_2 a w st ⟨hF, hS⟩ hb1
    unfold slices_Index_int_int_l1 at hb1
    refine q_seq ?_
    refine q_region ?_
    refine q_x (v := (.bool (decide (t_2 < (goLen p_s))))) hF hS (ex_ibin rfl rfl rfl) rfl rfl fun a hF => ?_
    refine q_end (n_sq ?_)
    refine q_seq ?_
    rcases bcase (decide (t_2 < (goLen p_s))) with hc2 | hc2
    · have hb1 := cond_f hc2 hb1
      refine q_cond_f hF rfl hc2 ?_
      refine q_exit (x_sq ?_)
      obtain rfl := someI hb1
      exact ⟨nofun, .inl ⟨rfl, rfl, hF.sub trivial, hS⟩⟩
    · have hb1 := cond_t hc2 hb1
      refine q_cond_t hF rfl hc2 ?_
      refine q_skipc (n_sq ?_)
      refine q_seq ?_
      refine q_block ?_
      refine q_seq ?_
      refine q_region ?_
      refine q_x (v := (.int .i64 t_2)) hF hS (ex_move rfl) rfl rfl fun a hF => ?_
      refine q_x (v := (.int .i64 t_2)) hF hS (ex_assign rfl) rfl rfl fun a hF => ?_
      refine q_end (n_sq ?_)
      refine q_seq ?_
      refine q_region ?_
      refine q_x (v := (.int .i64 p_v)) hF hS (ex_move rfl) rfl rfl fun a hF => ?_
      refine q_x (v := s1.v) hF hS (ex_move rfl) rfl rfl fun a hF => ?_
      refine q_x (v := (.int .i64 t_2)) hF hS (ex_move rfl) rfl rfl fun a hF => ?_
      obtain ⟨e_3, he_3, hb1⟩ := bindS hb1
      obtain ⟨vs4, at4, d4⟩ := h1.at he_3 1 rfl
      obtain rfl : vs4 = [(.int .i64 e_3)] := d4
      refine q_x (v := (elP s1 (t_2.toNat * 1))) hF hS (ex_indexAddr Try.underlying23 sz3 rfl rfl (h1.idx he_3)) rfl rfl fun a hF => ?_
      refine q_x (v := (.int .i64 e_3)) hF hS (ex_loadE1 0 Try.underlying3 rfl rfl ((at4).at) rfl rfl) rfl rfl fun a hF => ?_
      refine q_x (v := (.bool (p_v == e_3))) hF hS (ex_ibin rfl rfl rfl) rfl rfl fun a hF => ?_
      refine q_end (n_sq ?_)
      rcases bcase (p_v == e_3) with hc3 | hc3
      · have hb1 := cond_f hc3 hb1
        refine q_cond_f hF rfl hc3 ?_
        refine q_skipc (n_ib (n_sq ?_))
        refine q_region ?_
        refine q_x (v := (.int .i64 (w64 (t_2 + 1)))) hF hS (ex_ibin rfl rfl rfl) rfl rfl fun a hF => ?_
        refine q_x (v := (.int .i64 (w64 (t_2 + 1)))) hF hS (ex_move rfl) rfl rfl fun a hF => ?_
        refine q_end ?_
        obtain rfl := someI hb1
        exact ⟨rfl, hF.sub ⟨rfl, rfl, rfl, rfl, trivial⟩, hS⟩
      · have hb1 := cond_t hc3 hb1
        refine q_cond_t hF rfl hc3 ?_
        refine q_seq ?_
        refine q_region ?_
        refine q_x (v := (.int .i64 t_2)) hF hS (ex_move rfl) rfl rfl fun a hF => ?_
        refine q_x (v := (.int .i64 t_2)) hF hS (ex_assign rfl) rfl rfl fun a hF => ?_
        refine q_end (n_sq (q_ret (r_ib (r_sq ?_))))
        obtain rfl := someI hb1
        refine ⟨nofun, .inr fun ho => ?_⟩
        subst ho
        refine r_ib (r_sq ?_)
        obtain rfl := someI hr
        exact ret_of hF hS rfl (.tmp rfl .nil) rfl
  · rintro e a w ⟨rfl, rfl, hF, hS⟩
    refine x_ib (n_sq ?_)
    refine q_seq ?_
    refine q_region ?_
    refine q_x (v := (.int .i64 (-1))) hF hS (ex_assign rfl) rfl rfl fun a hF => ?_
    refine q_end (n_sq (q_ret ?_))
    obtain rfl := someI hr
    exact ret_of hF hS rfl (.tmp rfl .nil) rfl

theorem c_slices_Contains_int_int (p_s : List Int) (p_v : Int) (r : Bool) (hr : slices_Contains_int_int p_s p_v = some r) (w0 : World) (m : Mem) (hv : Vis m w0) (s1 : Sl) (h1 : Rd m s1 p_s) :
    Ret Try.prog 78 [s1.v, (.int .i64 p_v)] w0 (fun v _ => v = (.bool r)) := by
  unfold slices_Contains_int_int at hr
  refine ret_start Try.func78 rfl 9 rfl rfl m hv fun a hF hS => ?_
  refine q_seq ?_
  refine q_region ?_
  refine q_x (v := (.bool false)) hF hS (ex_assign rfl) rfl rfl fun a hF => ?_
  refine q_end (n_sq ?_)
  refine q_seq ?_
  refine q_region ?_
  refine q_x (v := s1.v) hF hS (ex_move rfl) rfl rfl fun a hF => ?_
  refine q_x (v := (.int .i64 p_v)) hF hS (ex_move rfl) rfl rfl fun a hF => ?_
  obtain ⟨t_2, ht_2, hr⟩ := bindS hr
  refine q_call (vs := [s1.v, (.int .i64 p_v)]) hF hS Try.func98 (by kernel_rfl) rfl rfl rfl (c_slices_Index_int_int p_s p_v t_2 ht_2 _ m hS.vis s1 h1) ?_
  rintro a w _ rfl hF hS
  refine q_x (v := (.bool (decide (0 ≤ t_2)))) hF hS (ex_ibin rfl rfl rfl) rfl rfl fun a hF => ?_
  refine q_x (v := (.bool (decide (0 ≤ t_2)))) hF hS (ex_assign rfl) rfl rfl fun a hF => ?_
  refine q_end (n_sq (q_ret ?_))
  obtain rfl := someI hr
  exact ret_of hF hS rfl (.tmp rfl .nil) rfl

theorem c_impl_isLeaf (p_g : impl_Geo) (p_i : Int) (r : Bool) (hr : impl_isLeaf p_g p_i = some r) (w0 : World) (m : Mem) (hv : Vis m w0) (s1 : Sl) (h1 : Rd m s1 p_g.Parents) :
    Ret Try.prog 41 [(.agg #[s1.v]), (.int .i64 p_i)] w0 (fun v _ => v = (.bool r)) := by
  unfold impl_isLeaf at hr
  refine ret_start Try.func41 rfl 10 rfl rfl m hv fun a hF hS => ?_
  refine q_seq ?_
  refine q_region ?_
  refine q_box (cs := [s1.v]) hF hS rfl rfl rfl fun a w b2 hF hS => ?_
  refine q_x (v := (.bool false)) hF hS (ex_assign rfl) rfl rfl fun a hF => ?_
  refine q_end (n_sq ?_)
  refine q_seq ?_
  refine q_region ?_
  refine q_x (v := (.pointer (some ⟨b2, 0, none⟩))) hF hS (ex_fieldAddr Try.underlying25 rfl sz23 rfl rfl) rfl rfl fun a hF => ?_
  refine q_x (v := s1.v) hF hS (ex_load1 0 0 Try.underlying23 rfl rfl rfl rfl) rfl rfl fun a hF => ?_
  refine q_x (v := (.int .i64 p_i)) hF hS (ex_move rfl) rfl rfl fun a hF => ?_
  obtain ⟨t_3, ht_3, hr⟩ := bindS hr
  refine q_call (vs := [s1.v, (.int .i64 p_i)]) hF hS Try.func78 (by kernel_rfl) rfl rfl rfl (c_slices_Contains_int_int p_g.Parents p_i t_3 ht_3 _ m hS.vis s1 h1) ?_
  rintro a w _ rfl hF hS
  refine q_x (v := (.bool (!t_3))) hF hS (ex_not rfl) rfl rfl fun a hF => ?_
  refine q_x (v := (.bool (!t_3))) hF hS (ex_assign rfl) rfl rfl fun a hF => ?_
  refine q_end (n_sq (q_ret ?_))
  obtain rfl := someI hr
  exact ret_of hF hS rfl (.tmp rfl .nil) rfl

theorem c_impl_isSurvey (p_g : impl_Geo) (p_s : List impl_Variable) (p_l : List impl_Record) (r : Bool) (hr : impl_isSurvey p_g p_s p_l = some r) (w0 : World) (m : Mem) (hv : Vis m w0) (s1 : Sl) (h1 : Rd m s1 p_g.Parents) (s2 : Sl) (h2 : Rd m s2 p_s) (s3 : Sl) (h3 : Rd m s3 p_l) :
    Ret Try.prog 30 [(.agg #[s1.v]), s2.v, s3.v] w0 (fun v _ => v = (.bool r)) := by
  unfold impl_isSurvey at hr
  refine ret_start Try.func30 rfl 32 rfl rfl m hv fun a hF hS => ?_
  refine q_seq ?_
  refine q_region ?_
  refine q_box (cs := [s1.v]) hF hS rfl rfl rfl fun a w b4 hF hS => ?_
  refine q_x (v := (.bool false)) hF hS (ex_assign rfl) rfl rfl fun a hF => ?_
  refine q_end (n_sq ?_)
  refine q_seq ?_
  refine q_seq ?_
  refine q_region ?_
  refine q_x (v := s2.v) hF hS (ex_move rfl) rfl rfl fun a hF => ?_
  refine q_x (v := s3.v) hF hS (ex_move rfl) rfl rfl fun a hF => ?_
  obtain ⟨t_5, ht_5, hr⟩ := bindS hr
  refine q_call (vs := [s2.v, s3.v]) hF hS Try.func74 (by kernel_rfl) rfl rfl rfl (c_impl_isData p_s p_l t_5 ht_5 _ m hS.vis s2 h2 s3 h3) ?_
  rintro a w _ rfl hF hS
  refine q_x (v := (.bool (!t_5))) hF hS (ex_not rfl) rfl rfl fun a hF => ?_
  refine q_end (n_sq ?_)
  rcases bcase (!t_5) with hc1 | hc1
  · have hr := cond_f hc1 hr
    refine q_cond_f hF rfl hc1 ?_
    refine q_skipc (n_sq ?_)
    refine q_seq ?_
    refine q_seq ?_
    refine q_region ?_
    refine q_x (v := s3.v) hF hS (ex_move rfl) rfl rfl fun a hF => ?_
    refine q_x (v := (.int .i64 (goLen p_l))) hF hS (ex_len Try.underlying29 rfl h3.len) rfl rfl fun a hF => ?_
    refine q_x (v := (.int .i64 0)) hF hS (ex_move rfl) rfl rfl fun a hF => ?_
    refine q_end (n_sq ?_)
    refine q_block ?_
    obtain ⟨o2, hl2, hr⟩ := bindS hr
    refine q_loop (fun (t_6 : Int) a w => Fr a 32 [(3, (.pointer (some ⟨b4, 0, none⟩))), (13, s3.v), (14, (.int .i64 (goLen p_l))), (15, (.int .i64 t_6))] ∧ St [] w0 w m [[⟨b4, [s1.v], 25⟩]]) (fun (o : (Unit) ⊕ (Bool)) e a w => o = .inl () ∧ e = .exit 0 ∧ Fr a 32 [] ∧ St [] w0 w m []) hl2 ⟨hF.sub ⟨rfl, rfl, rfl, rfl, trivial⟩, hS⟩ ?_ ?_
    · clear hF hS
      rintro t_6 a w st ⟨hF, hS⟩ hb2
      unfold impl_isSurvey_l1 at hb2
      refine q_seq ?_
      refine q_region ?_
      refine q_x (v := (.bool (decide (t_6 < (goLen p_l))))) hF hS (ex_ibin rfl rfl rfl) rfl rfl fun a hF => ?_
      refine q_end (n_sq ?_)
      refine q_seq ?_
      rcases bcase (decide (t_6 < (goLen p_l))) with hc3 | hc3
      · have hb2 := cond_f hc3 hb2
        refine q_cond_f hF rfl hc3 ?_
        refine q_exit (x_sq ?_)
        obtain rfl := someI hb2
        exact ⟨nofun, .inl ⟨rfl, rfl, hF.sub trivial, hS.mask [false]⟩⟩
      · have hb2 := cond_t hc3 hb2
        refine q_cond_t hF rfl hc3 ?_
        refine q_skipc (n_sq ?_)
        refine q_seq ?_
        refine q_block ?_
        refine q_seq ?_
        refine q_region ?_
        obtain ⟨e_7, he_7, hb2⟩ := bindS hb2
        obtain ⟨vs8, at8, d8⟩ := h3.at he_7 3 rfl
        obtain ⟨s9, rfl, h9⟩ : ∃ s9 : Sl, vs8 = [(.int .i64 e_7.Area), (.int .i64 e_7.House), s9.v] ∧ Rd m s9 e_7.Values := d8
        refine q_x (v := (elP s3 (t_6.toNat * 3))) hF hS (ex_indexAddr Try.underlying29 sz41 rfl rfl (h3.idx he_7)) rfl rfl fun a hF => ?_
        refine q_x (v := (.agg #[(.int .i64 e_7.Area), (.int .i64 e_7.House), s9.v])) hF hS (ex_loadEA (us := [(.int .i64 e_7.Area), (.int .i64 e_7.House), s9.v]) 0 Try.underlying41 rfl sz41 rfl ((at8).at) rfl rfl rfl) rfl rfl fun a hF => ?_
        refine q_alloc (cs := [(.int .i64 0), (.int .i64 0), nilS.v]) hF hS rfl rfl rfl fun a w b10 hF hS => ?_
        refine q_store (vs := [(.int .i64 e_7.Area), (.int .i64 e_7.House), s9.v]) (cs' := [(.int .i64 e_7.Area), (.int .i64 e_7.House), s9.v]) 0 0 hF hS sz41 rfl rfl rfl rfl rfl rfl rfl rfl fun a w hF hS => ?_
        refine q_end (n_sq ?_)
        refine q_seq ?_
        obtain ⟨t_13, hj4, hb2⟩ := bindS hb2
        refine q_join (fun a w => Fr a 32 [(3, (.pointer (some ⟨b4, 0, none⟩))), (13, s3.v), (14, (.int .i64 (goLen p_l))), (15, (.int .i64 t_6)), (30, (.bool t_13))] ∧ St [] w0 w m [[⟨b4, [s1.v], 25⟩]]) ?_ ?_
        · refine q_region ?_
          refine q_x (v := (.agg #[s1.v])) hF hS (ex_loadA (vs := [s1.v]) 1 0 Try.underlying25 rfl sz25 rfl rfl rfl rfl) rfl rfl fun a hF => ?_
          refine q_x (v := (.pointer (some ⟨b10, 0, none⟩))) hF hS (ex_fieldAddr Try.underlying41 rfl sz3 rfl rfl) rfl rfl fun a hF => ?_
          refine q_x (v := (.int .i64 e_7.Area)) hF hS (ex_load1 0 0 Try.underlying3 rfl rfl rfl rfl) rfl rfl fun a hF => ?_
          obtain ⟨t_11, ht_11, hj4⟩ := bindS hj4
          refine q_call (vs := [(.agg #[s1.v]), (.int .i64 e_7.Area)]) hF hS Try.func40 (by kernel_rfl) rfl rfl rfl (c_impl_isArea p_g e_7.Area t_11 ht_11 _ m hS.vis s1 h1) ?_
          rintro a w _ rfl hF hS
          refine q_x (v := (.bool (!t_11))) hF hS (ex_not rfl) rfl rfl fun a hF => ?_
          refine q_x (v := (.bool (!t_11))) hF hS (ex_move rfl) rfl rfl fun a hF => ?_
          rcases bcase (!t_11) with hc5 | hc5
          · have hj4 := cond_f hc5 hj4
            refine q_xg (v := (.agg #[s1.v])) hF hS (ex_loadA (vs := [s1.v]) 1 0 Try.underlying25 rfl sz25 rfl rfl rfl rfl) (wanted_t hF rfl rfl rfl hc5) rfl fun a hF => ?_
            refine q_xg (v := (.pointer (some ⟨b10, 0, none⟩))) hF hS (ex_fieldAddr Try.underlying41 rfl sz3 rfl rfl) (wanted_t hF rfl rfl rfl hc5) rfl fun a hF => ?_
            refine q_xg (v := (.int .i64 e_7.Area)) hF hS (ex_load1 0 0 Try.underlying3 rfl rfl rfl rfl) (wanted_t hF rfl rfl rfl hc5) rfl fun a hF => ?_
            obtain ⟨t_12, ht_12, hj4⟩ := bindS hj4
            refine q_callg (vs := [(.agg #[s1.v]), (.int .i64 e_7.Area)]) hF hS (wanted_t hF rfl rfl rfl hc5) Try.func41 (by kernel_rfl) rfl rfl rfl (c_impl_isLeaf p_g e_7.Area t_12 ht_12 _ m hS.vis s1 h1) ?_
            rintro a w _ rfl hF hS
            refine q_xg (v := (.bool (!t_12))) hF hS (ex_not rfl) (wanted_t hF rfl rfl rfl hc5) rfl fun a hF => ?_
            refine q_x (v := (.bool (!t_12))) hF hS (ex_pick_f rfl rfl hc5) rfl rfl fun a hF => ?_
            refine q_end (n_jn ?_)
            obtain rfl := someI hj4
            exact ⟨hF.sub ⟨rfl, rfl, rfl, rfl, rfl, trivial⟩, hS.mask [false, true]⟩
          · have hj4 := cond_t hc5 hj4
            refine q_skip hF (wanted_f hF rfl rfl rfl hc5 rfl) rfl fun a hF => ?_
            refine q_skip hF (wanted_f hF rfl rfl rfl hc5 rfl) rfl fun a hF => ?_
            refine q_skip hF (wanted_f hF rfl rfl rfl hc5 rfl) rfl fun a hF => ?_
            refine q_skip hF (wanted_f hF rfl rfl rfl hc5 rfl) rfl fun a hF => ?_
            refine q_skip hF (wanted_f hF rfl rfl rfl hc5 rfl) rfl fun a hF => ?_
            refine q_x (v := (.bool true)) hF hS (ex_pick_t rfl rfl hc5) rfl rfl fun a hF => ?_
            refine q_end (n_jn ?_)
            obtain rfl := someI hj4
            exact ⟨hF.sub ⟨rfl, rfl, rfl, rfl, rfl, trivial⟩, hS.mask [false, true]⟩
        · rintro a w ⟨hF, hS⟩
          refine n_sq ?_
          rcases bcase (t_13) with hc6 | hc6
          · have hb2 := cond_f hc6 hb2
            refine q_cond_f hF rfl hc6 ?_
            refine q_skipc (n_ib (n_sq ?_))
            refine q_region ?_
            refine q_x (v := (.int .i64 (w64 (t_6 + 1)))) hF hS (ex_ibin rfl rfl rfl) rfl rfl fun a hF => ?_
            refine q_x (v := (.int .i64 (w64 (t_6 + 1)))) hF hS (ex_move rfl) rfl rfl fun a hF => ?_
            refine q_end ?_
            obtain rfl := someI hb2
            exact ⟨rfl, hF.sub ⟨rfl, rfl, rfl, rfl, trivial⟩, hS⟩
          · have hb2 := cond_t hc6 hb2
            refine q_cond_t hF rfl hc6 ?_
            refine q_seq ?_
            refine q_region ?_
            refine q_x (v := (.bool false)) hF hS (ex_assign rfl) rfl rfl fun a hF => ?_
            refine q_end (n_sq (q_ret (r_ib (r_sq ?_))))
            obtain rfl := someI hb2
            refine ⟨nofun, .inr fun ho => ?_⟩
            subst ho
            refine r_ib (r_sq ?_)
            obtain rfl := someI hr
            exact ret_of hF hS rfl (.tmp rfl .nil) rfl
    · rintro e a w ⟨rfl, rfl, hF, hS⟩
      refine x_ib (n_sq ?_)
      refine q_seq ?_
      refine q_region ?_
      refine q_x (v := (.bool true)) hF hS (ex_assign rfl) rfl rfl fun a hF => ?_
      refine q_end (n_sq (q_ret ?_))
      obtain rfl := someI hr
      exact ret_of hF hS rfl (.tmp rfl .nil) rfl
  · have hr := cond_t hc1 hr
    refine q_cond_t hF rfl hc1 ?_
    refine q_seq ?_
    refine q_region ?_
    refine q_x (v := (.bool false)) hF hS (ex_assign rfl) rfl rfl fun a hF => ?_
    refine q_end (n_sq (q_ret (r_sq ?_)))
    obtain rfl := someI hr
    exact ret_of hF hS rfl (.tmp rfl .nil) rfl

theorem c_impl_ancestorAt (p_g : impl_Geo) (p_i : Int) (p_level : Int) (r : Int) (hr : impl_ancestorAt p_g p_i p_level = some r) (w0 : World) (m : Mem) (hv : Vis m w0) (s1 : Sl) (h1 : Rd m s1 p_g.Parents) :
    Ret Try.prog 77 [(.agg #[s1.v]), (.int .i64 p_i), (.int .i64 p_level)] w0 (fun v _ => v = (.int .i64 r)) := by
  unfold impl_ancestorAt at hr
  refine ret_start Try.func77 rfl 29 rfl rfl m hv fun a hF hS => ?_
  refine q_seq ?_
  refine q_region ?_
  refine q_box (cs := [s1.v]) hF hS rfl rfl rfl fun a w b2 hF hS => ?_
  refine q_x (v := (.int .i64 0)) hF hS (ex_assign rfl) rfl rfl fun a hF => ?_
  refine q_end (n_sq ?_)
  refine q_seq ?_
  refine q_region ?_
  refine q_x (v := (.agg #[s1.v])) hF hS (ex_loadA (vs := [s1.v]) 0 0 Try.underlying25 rfl sz25 rfl rfl rfl rfl) rfl rfl fun a hF => ?_
  refine q_x (v := (.int .i64 p_i)) hF hS (ex_move rfl) rfl rfl fun a hF => ?_
  obtain ⟨t_3, ht_3, hr⟩ := bindS hr
  refine q_call (vs := [(.agg #[s1.v]), (.int .i64 p_i)]) hF hS Try.func97 (by kernel_rfl) rfl rfl rfl (c_impl_depthOf p_g p_i t_3 ht_3 _ m hS.vis s1 h1) ?_
  rintro a w _ rfl hF hS
  refine q_x (v := (.int .i64 t_3)) hF hS (ex_assign rfl) rfl rfl fun a hF => ?_
  refine q_end (n_sq ?_)
  refine q_seq ?_
  refine q_seq ?_
  obtain ⟨t_4, hj1, hr⟩ := bindS hr
  refine q_join (fun a w => Fr a 29 [(1, (.int .i64 p_i)), (2, (.int .i64 p_level)), (3, (.pointer (some ⟨b2, 0, none⟩))), (7, (.int .i64 t_3)), (17, (.bool t_4))] ∧ St [] w0 w m [[⟨b2, [s1.v], 25⟩]]) ?_ ?_
  · refine q_region ?_
    refine q_x (v := (.int .i64 p_level)) hF hS (ex_move rfl) rfl rfl fun a hF => ?_
    refine q_x (v := (.bool (decide (p_level < 0)))) hF hS (ex_ibin rfl rfl rfl) rfl rfl fun a hF => ?_
    refine q_x (v := (.bool (decide (p_level < 0)))) hF hS (ex_move rfl) rfl rfl fun a hF => ?_
    rcases bcase (decide (p_level < 0)) with hc2 | hc2
    · have hj1 := cond_f hc2 hj1
      refine q_xg (v := (.int .i64 t_3)) hF hS (ex_move rfl) (wanted_t hF rfl rfl rfl hc2) rfl fun a hF => ?_
      refine q_xg (v := (.int .i64 p_level)) hF hS (ex_move rfl) (wanted_t hF rfl rfl rfl hc2) rfl fun a hF => ?_
      refine q_xg (v := (.bool (decide (t_3 < p_level)))) hF hS (ex_ibin rfl rfl rfl) (wanted_t hF rfl rfl rfl hc2) rfl fun a hF => ?_
      refine q_x (v := (.bool (decide (t_3 < p_level)))) hF hS (ex_pick_f rfl rfl hc2) rfl rfl fun a hF => ?_
      refine q_end (n_jn ?_)
      obtain rfl := someI hj1
      exact ⟨hF.sub ⟨rfl, rfl, rfl, rfl, rfl, trivial⟩, hS⟩
    · have hj1 := cond_t hc2 hj1
      refine q_skip hF (wanted_f hF rfl rfl rfl hc2 rfl) rfl fun a hF => ?_
      refine q_skip hF (wanted_f hF rfl rfl rfl hc2 rfl) rfl fun a hF => ?_
      refine q_skip hF (wanted_f hF rfl rfl rfl hc2 rfl) rfl fun a hF => ?_
      refine q_x (v := (.bool true)) hF hS (ex_pick_t rfl rfl hc2) rfl rfl fun a hF => ?_
      refine q_end (n_jn ?_)
      obtain rfl := someI hj1
      exact ⟨hF.sub ⟨rfl, rfl, rfl, rfl, rfl, trivial⟩, hS⟩
  · rintro a w ⟨hF, hS⟩
    refine n_sq ?_
    rcases bcase (t_4) with hc3 | hc3
    · have hr := cond_f hc3 hr
      refine q_cond_f hF rfl hc3 ?_
      refine q_skipc (n_sq ?_)
      refine q_seq ?_
      refine q_block ?_
      obtain ⟨i_9, hl4, hr⟩ := bindS hr
      refine q_loop (fun (s : Int × Int) a w => ∃ i_5, ∃ d_6, s = (i_5, d_6) ∧ Fr a 29 [(1, (.int .i64 i_5)), (2, (.int .i64 p_level)), (3, (.pointer (some ⟨b2, 0, none⟩))), (7, (.int .i64 d_6))] ∧ St [] w0 w m [[⟨b2, [s1.v], 25⟩]]) (fun (i_9 : Int) e a w => e = .exit 0 ∧ Fr a 29 [(1, (.int .i64 i_9))] ∧ St [] w0 w m []) hl4 ⟨_, _, rfl, hF.sub ⟨rfl, rfl, rfl, rfl, trivial⟩, hS⟩ ?_ ?_
      · clear hF hS
        rintro s a w st ⟨i_5, d_6, rfl, hF, hS⟩ hb4
        unfold impl_ancestorAt_l1 at hb4
        refine q_seq ?_
        refine q_seq ?_
        refine q_region ?_
        refine q_x (v := (.int .i64 d_6)) hF hS (ex_move rfl) rfl rfl fun a hF => ?_
        refine q_x (v := (.int .i64 p_level)) hF hS (ex_move rfl) rfl rfl fun a hF => ?_
        refine q_x (v := (.bool (decide (p_level < d_6)))) hF hS (ex_ibin rfl rfl rfl) rfl rfl fun a hF => ?_
        refine q_end (n_sq ?_)
        rcases bcase (decide (p_level < d_6)) with hc5 | hc5
        · have hb4 := cond_f hc5 hb4
          refine q_cond_f hF rfl hc5 ?_
          refine q_exit (x_sq ?_)
          obtain rfl := someI hb4
          exact ⟨nofun, .inl ⟨rfl, hF.sub ⟨rfl, trivial⟩, hS.mask [false]⟩⟩
        · have hb4 := cond_t hc5 hb4
          refine q_cond_t hF rfl hc5 ?_
          refine q_skipc (n_sq ?_)
          refine q_seq ?_
          refine q_block ?_
          refine q_region ?_
          refine q_x (v := (.pointer (some ⟨b2, 0, none⟩))) hF hS (ex_fieldAddr Try.underlying25 rfl sz23 rfl rfl) rfl rfl fun a hF => ?_
          refine q_x (v := s1.v) hF hS (ex_load1 0 0 Try.underlying23 rfl rfl rfl rfl) rfl rfl fun a hF => ?_
          refine q_x (v := (.int .i64 i_5)) hF hS (ex_move rfl) rfl rfl fun a hF => ?_
          obtain ⟨e_7, he_7, hb4⟩ := bindS hb4
          obtain ⟨vs8, at8, d8⟩ := h1.at he_7 1 rfl
          obtain rfl : vs8 = [(.int .i64 e_7)] := d8
          refine q_x (v := (elP s1 (i_5.toNat * 1))) hF hS (ex_indexAddr Try.underlying23 sz3 rfl rfl (h1.idx he_7)) rfl rfl fun a hF => ?_
          refine q_x (v := (.int .i64 e_7)) hF hS (ex_loadE1 0 Try.underlying3 rfl rfl ((at8).at) rfl rfl) rfl rfl fun a hF => ?_
          refine q_x (v := (.int .i64 e_7)) hF hS (ex_assign rfl) rfl rfl fun a hF => ?_
          refine q_end (n_ib (n_sq ?_))
          refine q_region ?_
          refine q_x (v := (.int .i64 d_6)) hF hS (ex_move rfl) rfl rfl fun a hF => ?_
          refine q_x (v := (.int .i64 (w64 (d_6 - 1)))) hF hS (ex_ibin rfl rfl rfl) rfl rfl fun a hF => ?_
          refine q_x (v := (.int .i64 (w64 (d_6 - 1)))) hF hS (ex_assign rfl) rfl rfl fun a hF => ?_
          refine q_end ?_
          obtain rfl := someI hb4
          exact ⟨rfl, _, _, rfl, hF.sub ⟨rfl, rfl, rfl, rfl, trivial⟩, hS⟩
      · rintro e a w ⟨rfl, hF, hS⟩
        refine x_ib (n_sq ?_)
        refine q_seq ?_
        refine q_region ?_
        refine q_x (v := (.int .i64 i_9)) hF hS (ex_move rfl) rfl rfl fun a hF => ?_
        refine q_x (v := (.int .i64 i_9)) hF hS (ex_assign rfl) rfl rfl fun a hF => ?_
        refine q_end (n_sq (q_ret ?_))
        obtain rfl := someI hr
        exact ret_of hF hS rfl (.tmp rfl .nil) rfl
    · have hr := cond_t hc3 hr
      refine q_cond_t hF rfl hc3 ?_
      refine q_seq ?_
      refine q_region ?_
      refine q_x (v := (.int .i64 (-1))) hF hS (ex_assign rfl) rfl rfl fun a hF => ?_
      refine q_end (n_sq (q_ret (r_sq ?_)))
      obtain rfl := someI hr
      exact ret_of hF hS rfl (.tmp rfl .nil) rfl

theorem c_impl_meetsWhere (p_t : impl_Table) (p_r : impl_Record) (r : Bool) (hr : impl_meetsWhere p_t p_r = some r) (w0 : World) (m : Mem) (hv : Vis m w0) (s1 : Sl) (h1 : Rd m s1 p_t.Vars) (s2 : Sl) (h2 : Rd m s2 p_t.Where) (s3 : Sl) (h3 : Rd m s3 p_r.Values) :
    Ret Try.prog 58 [(.agg #[(.int .i64 p_t.Level), s1.v, s2.v, (.int .i64 p_t.Sum)]), (.agg #[(.int .i64 p_r.Area), (.int .i64 p_r.House), s3.v])] w0 (fun v _ => v = (.bool r)) := by
  unfold impl_meetsWhere at hr
  refine ret_start Try.func58 rfl 29 rfl rfl m hv fun a hF hS => ?_
  refine q_seq ?_
  refine q_region ?_
  refine q_box (cs := [(.int .i64 p_t.Level), s1.v, s2.v, (.int .i64 p_t.Sum)]) hF hS rfl rfl rfl fun a w b4 hF hS => ?_
  refine q_box (cs := [(.int .i64 p_r.Area), (.int .i64 p_r.House), s3.v]) hF hS rfl rfl rfl fun a w b5 hF hS => ?_
  refine q_x (v := (.bool false)) hF hS (ex_assign rfl) rfl rfl fun a hF => ?_
  refine q_end (n_sq ?_)
  refine q_seq ?_
  refine q_seq ?_
  refine q_region ?_
  refine q_x (v := (.pointer (some ⟨b4, 2, none⟩))) hF hS (ex_fieldAddr Try.underlying28 rfl sz23 rfl rfl) rfl rfl fun a hF => ?_
  refine q_x (v := s2.v) hF hS (ex_load1 1 0 Try.underlying23 rfl rfl rfl rfl) rfl rfl fun a hF => ?_
  refine q_x (v := (.int .i64 (goLen p_t.Where))) hF hS (ex_len Try.underlying23 rfl h2.len) rfl rfl fun a hF => ?_
  refine q_x (v := (.int .i64 0)) hF hS (ex_move rfl) rfl rfl fun a hF => ?_
  refine q_end (n_sq ?_)
  refine q_block ?_
  obtain ⟨o1, hl1, hr⟩ := bindS hr
  refine q_loop (fun (t_6 : Int) a w => Fr a 29 [(3, (.pointer (some ⟨b5, 0, none⟩))), (8, s2.v), (9, (.int .i64 (goLen p_t.Where))), (10, (.int .i64 t_6))] ∧ St [] w0 w m [[⟨b5, [(.int .i64 p_r.Area), (.int .i64 p_r.House), s3.v], 41⟩]]) (fun (o : (Unit) ⊕ (Bool)) e a w => o = .inl () ∧ e = .exit 0 ∧ Fr a 29 [] ∧ St [] w0 w m []) hl1 ⟨hF.sub ⟨rfl, rfl, rfl, rfl, trivial⟩, hS.mask [true, false]⟩ ?_ ?_
  · clear hF hS
    rintro t_6 a w st ⟨hF, hS⟩ hb1
    unfold impl_meetsWhere_l1 at hb1
    refine q_seq ?_
    refine q_region ?_
    refine q_x (v := (.bool (decide (t_6 < (goLen p_t.Where))))) hF hS (ex_ibin rfl rfl rfl) rfl rfl fun a hF => ?_
    refine q_end (n_sq ?_)
    refine q_seq ?_
    rcases bcase (decide (t_6 < (goLen p_t.Where))) with hc2 | hc2
    · have hb1 := cond_f hc2 hb1
      refine q_cond_f hF rfl hc2 ?_
      refine q_exit (x_sq ?_)
      obtain rfl := someI hb1
      exact ⟨nofun, .inl ⟨rfl, rfl, hF.sub trivial, hS.mask [false]⟩⟩
    · have hb1 := cond_t hc2 hb1
      refine q_cond_t hF rfl hc2 ?_
      refine q_skipc (n_sq ?_)
      refine q_seq ?_
      refine q_block ?_
      refine q_seq ?_
      refine q_region ?_
      refine q_x (v := (.int .i64 t_6)) hF hS (ex_move rfl) rfl rfl fun a hF => ?_
      obtain ⟨e_7, he_7, hb1⟩ := bindS hb1
      obtain ⟨vs8, at8, d8⟩ := h2.at he_7 1 rfl
      obtain rfl : vs8 = [(.int .i64 e_7)] := d8
      refine q_x (v := (elP s2 (t_6.toNat * 1))) hF hS (ex_indexAddr Try.underlying23 sz3 rfl rfl (h2.idx he_7)) rfl rfl fun a hF => ?_
      refine q_x (v := (.int .i64 e_7)) hF hS (ex_loadE1 0 Try.underlying3 rfl rfl ((at8).at) rfl rfl) rfl rfl fun a hF => ?_
      refine q_x (v := (.int .i64 t_6)) hF hS (ex_assign rfl) rfl rfl fun a hF => ?_
      refine q_x (v := (.int .i64 e_7)) hF hS (ex_assign rfl) rfl rfl fun a hF => ?_
      refine q_end (n_sq ?_)
      refine q_seq ?_
      obtain ⟨t_12, hj3, hb1⟩ := bindS hb1
      refine q_join (fun a w => Fr a 29 [(3, (.pointer (some ⟨b5, 0, none⟩))), (8, s2.v), (9, (.int .i64 (goLen p_t.Where))), (10, (.int .i64 t_6)), (27, (.bool t_12))] ∧ St [] w0 w m [[⟨b5, [(.int .i64 p_r.Area), (.int .i64 p_r.House), s3.v], 41⟩]]) ?_ ?_
      · refine q_region ?_
        refine q_x (v := (.int .i64 e_7)) hF hS (ex_move rfl) rfl rfl fun a hF => ?_
        refine q_x (v := (.bool (e_7 != 0))) hF hS (ex_ibin rfl rfl rfl) rfl rfl fun a hF => ?_
        refine q_x (v := (.bool (e_7 != 0))) hF hS (ex_move rfl) rfl rfl fun a hF => ?_
        rcases bcase (e_7 != 0) with hc4 | hc4
        · have hj3 := cond_f hc4 hj3
          refine q_skip hF (wanted_f hF rfl rfl rfl hc4 rfl) rfl fun a hF => ?_
          refine q_skip hF (wanted_f hF rfl rfl rfl hc4 rfl) rfl fun a hF => ?_
          refine q_skip hF (wanted_f hF rfl rfl rfl hc4 rfl) rfl fun a hF => ?_
          refine q_skip hF (wanted_f hF rfl rfl rfl hc4 rfl) rfl fun a hF => ?_
          refine q_skip hF (wanted_f hF rfl rfl rfl hc4 rfl) rfl fun a hF => ?_
          refine q_skip hF (wanted_f hF rfl rfl rfl hc4 rfl) rfl fun a hF => ?_
          refine q_skip hF (wanted_f hF rfl rfl rfl hc4 rfl) rfl fun a hF => ?_
          refine q_skip hF (wanted_f hF rfl rfl rfl hc4 rfl) rfl fun a hF => ?_
          refine q_skip hF (wanted_f hF rfl rfl rfl hc4 rfl) rfl fun a hF => ?_
          refine q_x (v := (.bool false)) hF hS (ex_pick_f rfl rfl hc4) rfl rfl fun a hF => ?_
          refine q_end (n_jn ?_)
          obtain rfl := someI hj3
          exact ⟨hF.sub ⟨rfl, rfl, rfl, rfl, rfl, trivial⟩, hS⟩
        · have hj3 := cond_t hc4 hj3
          refine q_xg (v := (.int .i64 e_7)) hF hS (ex_move rfl) (wanted_t hF rfl rfl rfl hc4) rfl fun a hF => ?_
          refine q_xg (v := (.pointer (some ⟨b5, 2, none⟩))) hF hS (ex_fieldAddr Try.underlying41 rfl sz23 rfl rfl) (wanted_t hF rfl rfl rfl hc4) rfl fun a hF => ?_
          refine q_xg (v := s3.v) hF hS (ex_load1 0 0 Try.underlying23 rfl rfl rfl rfl) (wanted_t hF rfl rfl rfl hc4) rfl fun a hF => ?_
          refine q_xg (v := (.int .i64 t_6)) hF hS (ex_move rfl) (wanted_t hF rfl rfl rfl hc4) rfl fun a hF => ?_
          obtain ⟨e_9, he_9, hj3⟩ := bindS hj3
          obtain ⟨vs10, at10, d10⟩ := h3.at he_9 1 rfl
          obtain rfl : vs10 = [(.int .i64 e_9)] := d10
          refine q_xg (v := (elP s3 (t_6.toNat * 1))) hF hS (ex_indexAddr Try.underlying23 sz3 rfl rfl (h3.idx he_9)) (wanted_t hF rfl rfl rfl hc4) rfl fun a hF => ?_
          refine q_xg (v := (.int .i64 e_9)) hF hS (ex_loadE1 0 Try.underlying3 rfl rfl ((at10).at) rfl rfl) (wanted_t hF rfl rfl rfl hc4) rfl fun a hF => ?_
          obtain ⟨t_11, ht_11, hj3⟩ := bindS hj3
          refine q_xg (v := (.int .i64 t_11)) hF hS (ex_shr rfl rfl ht_11) (wanted_t hF rfl rfl rfl hc4) rfl fun a hF => ?_
          refine q_xg (v := (.int .i64 (goBits .and .i64 t_11 1))) hF hS (ex_bits rfl rfl rfl) (wanted_t hF rfl rfl rfl hc4) rfl fun a hF => ?_
          refine q_xg (v := (.bool ((goBits .and .i64 t_11 1) == 0))) hF hS (ex_ibin rfl rfl rfl) (wanted_t hF rfl rfl rfl hc4) rfl fun a hF => ?_
          refine q_x (v := (.bool ((goBits .and .i64 t_11 1) == 0))) hF hS (ex_pick_t rfl rfl hc4) rfl rfl fun a hF => ?_
          refine q_end (n_jn ?_)
          obtain rfl := someI hj3
          exact ⟨hF.sub ⟨rfl, rfl, rfl, rfl, rfl, trivial⟩, hS⟩
      · rintro a w ⟨hF, hS⟩
        refine n_sq ?_
        rcases bcase (t_12) with hc5 | hc5
        · have hb1 := cond_f hc5 hb1
          refine q_cond_f hF rfl hc5 ?_
          refine q_skipc (n_ib (n_sq ?_))
          refine q_region ?_
          refine q_x (v := (.int .i64 (w64 (t_6 + 1)))) hF hS (ex_ibin rfl rfl rfl) rfl rfl fun a hF => ?_
          refine q_x (v := (.int .i64 (w64 (t_6 + 1)))) hF hS (ex_move rfl) rfl rfl fun a hF => ?_
          refine q_end ?_
          obtain rfl := someI hb1
          exact ⟨rfl, hF.sub ⟨rfl, rfl, rfl, rfl, trivial⟩, hS⟩
        · have hb1 := cond_t hc5 hb1
          refine q_cond_t hF rfl hc5 ?_
          refine q_seq ?_
          refine q_region ?_
          refine q_x (v := (.bool false)) hF hS (ex_assign rfl) rfl rfl fun a hF => ?_
          refine q_end (n_sq (q_ret (r_ib (r_sq ?_))))
          obtain rfl := someI hb1
          refine ⟨nofun, .inr fun ho => ?_⟩
          subst ho
          refine r_ib (r_sq ?_)
          obtain rfl := someI hr
          exact ret_of hF hS rfl (.tmp rfl .nil) rfl
  · rintro e a w ⟨rfl, rfl, hF, hS⟩
    refine x_ib (n_sq ?_)
    refine q_seq ?_
    refine q_region ?_
    refine q_x (v := (.bool true)) hF hS (ex_assign rfl) rfl rfl fun a hF => ?_
    refine q_end (n_sq (q_ret ?_))
    obtain rfl := someI hr
    exact ret_of hF hS rfl (.tmp rfl .nil) rfl

theorem c_cmp_isNaN_int (p_x : Int) (r : Bool) (hr : cmp_isNaN_int p_x = some r) (w0 : World) (m : Mem) (hv : Vis m w0) :
    Ret Try.prog 111 [(.int .i64 p_x)] w0 (fun v _ => v = (.bool r)) := by
  unfold cmp_isNaN_int at hr
  refine ret_start Try.func111 rfl 6 rfl rfl m hv fun a hF hS => ?_
  refine q_seq ?_
  refine q_region ?_
  refine q_x (v := (.bool false)) hF hS (ex_assign rfl) rfl rfl fun a hF => ?_
  refine q_end (n_sq ?_)
  refine q_seq ?_
  refine q_region ?_
  refine q_x (v := (.int .i64 p_x)) hF hS (ex_move rfl) rfl rfl fun a hF => ?_
  refine q_x (v := (.int .i64 p_x)) hF hS (ex_move rfl) rfl rfl fun a hF => ?_
  refine q_x (v := (.bool (p_x != p_x))) hF hS (ex_ibin rfl rfl rfl) rfl rfl fun a hF => ?_
  refine q_x (v := (.bool (p_x != p_x))) hF hS (ex_assign rfl) rfl rfl fun a hF => ?_
  refine q_end (n_sq (q_ret ?_))
  obtain rfl := someI hr
  exact ret_of hF hS rfl (.tmp rfl .nil) rfl

theorem c_cmp_Less_int (p_x : Int) (p_y : Int) (r : Bool) (hr : cmp_Less_int p_x p_y = some r) (w0 : World) (m : Mem) (hv : Vis m w0) :
    Ret Try.prog 104 [(.int .i64 p_x), (.int .i64 p_y)] w0 (fun v _ => v = (.bool r)) := by
  unfold cmp_Less_int at hr
  refine ret_start Try.func104 rfl 17 rfl rfl m hv fun a hF hS => ?_
  refine q_seq ?_
  refine q_region ?_
  refine q_x (v := (.bool false)) hF hS (ex_assign rfl) rfl rfl fun a hF => ?_
  refine q_end (n_sq ?_)
  refine q_seq ?_
  obtain ⟨t_3, hj1, hr⟩ := bindS hr
  refine q_join (fun a w => Fr a 17 [(4, (.bool t_3))] ∧ St [] w0 w m []) ?_ ?_
  · refine q_region ?_
    refine q_x (v := (.int .i64 p_x)) hF hS (ex_move rfl) rfl rfl fun a hF => ?_
    obtain ⟨t_1, ht_1, hj1⟩ := bindS hj1
    refine q_call (vs := [(.int .i64 p_x)]) hF hS Try.func111 (by kernel_rfl) rfl rfl rfl (c_cmp_isNaN_int p_x t_1 ht_1 _ m hS.vis) ?_
    rintro a w _ rfl hF hS
    refine q_x (v := (.bool t_1)) hF hS (ex_move rfl) rfl rfl fun a hF => ?_
    rcases bcase (t_1) with hc2 | hc2
    · have hj1 := cond_f hc2 hj1
      refine q_skip hF (wanted_f hF rfl rfl rfl hc2 rfl) rfl fun a hF => ?_
      refine q_skip hF (wanted_f hF rfl rfl rfl hc2 rfl) rfl fun a hF => ?_
      refine q_skip hF (wanted_f hF rfl rfl rfl hc2 rfl) rfl fun a hF => ?_
      refine q_x (v := (.bool false)) hF hS (ex_pick_f rfl rfl hc2) rfl rfl fun a hF => ?_
      refine q_x (v := (.bool false)) hF hS (ex_move rfl) rfl rfl fun a hF => ?_
      refine q_xg (v := (.int .i64 p_x)) hF hS (ex_move rfl) (wanted_t hF rfl rfl rfl rfl) rfl fun a hF => ?_
      refine q_xg (v := (.int .i64 p_y)) hF hS (ex_move rfl) (wanted_t hF rfl rfl rfl rfl) rfl fun a hF => ?_
      refine q_xg (v := (.bool (decide (p_x < p_y)))) hF hS (ex_ibin rfl rfl rfl) (wanted_t hF rfl rfl rfl rfl) rfl fun a hF => ?_
      refine q_x (v := (.bool (decide (p_x < p_y)))) hF hS (ex_pick_f rfl rfl rfl) rfl rfl fun a hF => ?_
      refine q_x (v := (.bool (decide (p_x < p_y)))) hF hS (ex_assign rfl) rfl rfl fun a hF => ?_
      refine q_end (n_jn ?_)
      obtain rfl := someI hj1
      exact ⟨hF.sub ⟨rfl, trivial⟩, hS⟩
    · have hj1 := cond_t hc2 hj1
      refine q_xg (v := (.int .i64 p_y)) hF hS (ex_move rfl) (wanted_t hF rfl rfl rfl hc2) rfl fun a hF => ?_
      obtain ⟨t_2, ht_2, hj1⟩ := bindS hj1
      refine q_callg (vs := [(.int .i64 p_y)]) hF hS (wanted_t hF rfl rfl rfl hc2) Try.func111 (by kernel_rfl) rfl rfl rfl (c_cmp_isNaN_int p_y t_2 ht_2 _ m hS.vis) ?_
      rintro a w _ rfl hF hS
      refine q_xg (v := (.bool (!t_2))) hF hS (ex_not rfl) (wanted_t hF rfl rfl rfl hc2) rfl fun a hF => ?_
      refine q_x (v := (.bool (!t_2))) hF hS (ex_pick_t rfl rfl hc2) rfl rfl fun a hF => ?_
      refine q_x (v := (.bool (!t_2))) hF hS (ex_move rfl) rfl rfl fun a hF => ?_
      rcases bcase (!t_2) with hc3 | hc3
      · have hj1 := cond_f hc3 hj1
        refine q_xg (v := (.int .i64 p_x)) hF hS (ex_move rfl) (wanted_t hF rfl rfl rfl hc3) rfl fun a hF => ?_
        refine q_xg (v := (.int .i64 p_y)) hF hS (ex_move rfl) (wanted_t hF rfl rfl rfl hc3) rfl fun a hF => ?_
        refine q_xg (v := (.bool (decide (p_x < p_y)))) hF hS (ex_ibin rfl rfl rfl) (wanted_t hF rfl rfl rfl hc3) rfl fun a hF => ?_
        refine q_x (v := (.bool (decide (p_x < p_y)))) hF hS (ex_pick_f rfl rfl hc3) rfl rfl fun a hF => ?_
        refine q_x (v := (.bool (decide (p_x < p_y)))) hF hS (ex_assign rfl) rfl rfl fun a hF => ?_
        refine q_end (n_jn ?_)
        obtain rfl := someI hj1
        exact ⟨hF.sub ⟨rfl, trivial⟩, hS⟩
      · have hj1 := cond_t hc3 hj1
        refine q_skip hF (wanted_f hF rfl rfl rfl hc3 rfl) rfl fun a hF => ?_
        refine q_skip hF (wanted_f hF rfl rfl rfl hc3 rfl) rfl fun a hF => ?_
        refine q_skip hF (wanted_f hF rfl rfl rfl hc3 rfl) rfl fun a hF => ?_
        refine q_x (v := (.bool true)) hF hS (ex_pick_t rfl rfl hc3) rfl rfl fun a hF => ?_
        refine q_x (v := (.bool true)) hF hS (ex_assign rfl) rfl rfl fun a hF => ?_
        refine q_end (n_jn ?_)
        obtain rfl := someI hj1
        exact ⟨hF.sub ⟨rfl, trivial⟩, hS⟩
  · rintro a w ⟨hF, hS⟩
    refine n_sq (q_ret ?_)
    obtain rfl := someI hr
    exact ret_of hF hS rfl (.tmp rfl .nil) rfl

theorem c_slices_isNaN_int (p_x : Int) (r : Bool) (hr : slices_isNaN_int p_x = some r) (w0 : World) (m : Mem) (hv : Vis m w0) :
    Ret Try.prog 105 [(.int .i64 p_x)] w0 (fun v _ => v = (.bool r)) := by
  unfold slices_isNaN_int at hr
  refine ret_start Try.func105 rfl 6 rfl rfl m hv fun a hF hS => ?_
  refine q_seq ?_
  refine q_region ?_
  refine q_x (v := (.bool false)) hF hS (ex_assign rfl) rfl rfl fun a hF => ?_
  refine q_end (n_sq ?_)
  refine q_seq ?_
  refine q_region ?_
  refine q_x (v := (.int .i64 p_x)) hF hS (ex_move rfl) rfl rfl fun a hF => ?_
  refine q_x (v := (.int .i64 p_x)) hF hS (ex_move rfl) rfl rfl fun a hF => ?_
  refine q_x (v := (.bool (p_x != p_x))) hF hS (ex_ibin rfl rfl rfl) rfl rfl fun a hF => ?_
  refine q_x (v := (.bool (p_x != p_x))) hF hS (ex_assign rfl) rfl rfl fun a hF => ?_
  refine q_end (n_sq (q_ret ?_))
  obtain rfl := someI hr
  exact ret_of hF hS rfl (.tmp rfl .nil) rfl

theorem c_slices_BinarySearch_int_int (p_x : List Int) (p_target : Int) (r : Int × Bool) (hr : slices_BinarySearch_int_int p_x p_target = some r) (w0 : World) (m : Mem) (hv : Vis m w0) (s1 : Sl) (h1 : Rd m s1 p_x) :
    Ret Try.prog 86 [s1.v, (.int .i64 p_target)] w0 (fun v _ => v = (.tuple #[(.int .i64 r.1), (.bool r.2)])) := by
  unfold slices_BinarySearch_int_int at hr
  refine ret_start Try.func86 rfl 54 rfl rfl m hv fun a hF hS => ?_
  refine q_seq ?_
  refine q_region ?_
  refine q_x (v := (.int .i64 0)) hF hS (ex_assign rfl) rfl rfl fun a hF => ?_
  refine q_x (v := (.bool false)) hF hS (ex_assign rfl) rfl rfl fun a hF => ?_
  refine q_end (n_sq ?_)
  refine q_seq ?_
  refine q_region ?_
  refine q_x (v := s1.v) hF hS (ex_move rfl) rfl rfl fun a hF => ?_
  refine q_x (v := (.int .i64 (goLen p_x))) hF hS (ex_len Try.underlying23 rfl h1.len) rfl rfl fun a hF => ?_
  refine q_x (v := (.int .i64 (goLen p_x))) hF hS (ex_assign rfl) rfl rfl fun a hF => ?_
  refine q_end (n_sq ?_)
  refine q_seq ?_
  refine q_region ?_
  refine q_x (v := (.int .i64 (goLen p_x))) hF hS (ex_move rfl) rfl rfl fun a hF => ?_
  refine q_x (v := (.int .i64 0)) hF hS (ex_assign rfl) rfl rfl fun a hF => ?_
  refine q_x (v := (.int .i64 (goLen p_x))) hF hS (ex_assign rfl) rfl rfl fun a hF => ?_
  refine q_end (n_sq ?_)
  refine q_seq ?_
  refine q_block ?_
  obtain ⟨i_10, hl1, hr⟩ := bindS hr
  refine q_loop (fun (s : Int × Int) a w => ∃ i_2, ∃ j_3, s = (i_2, j_3) ∧ Fr a 54 [(0, s1.v), (1, (.int .i64 p_target)), (6, (.int .i64 (goLen p_x))), (7, (.int .i64 i_2)), (8, (.int .i64 j_3))] ∧ St [] w0 w m []) (fun (i_10 : Int) e a w => e = .exit 0 ∧ Fr a 54 [(0, s1.v), (1, (.int .i64 p_target)), (6, (.int .i64 (goLen p_x))), (7, (.int .i64 i_10))] ∧ St [] w0 w m []) hl1 ⟨_, _, rfl, hF.sub ⟨rfl, rfl, rfl, rfl, rfl, trivial⟩, hS⟩ ?_ ?_
  · clear hF hS
    rintro s a w st ⟨i_2, j_3, rfl, hF, hS⟩ hb1
    unfold slices_BinarySearch_int_int_l1 at hb1
    refine q_seq ?_
    refine q_seq ?_
    refine q_region ?_
    refine q_x (v := (.int .i64 i_2)) hF hS (ex_move rfl) rfl rfl fun a hF => ?_
    refine q_x (v := (.int .i64 j_3)) hF hS (ex_move rfl) rfl rfl fun a hF => ?_
    refine q_x (v := (.bool (decide (i_2 < j_3)))) hF hS (ex_ibin rfl rfl rfl) rfl rfl fun a hF => ?_
    refine q_end (n_sq ?_)
    rcases bcase (decide (i_2 < j_3)) with hc2 | hc2
    · have hb1 := cond_f hc2 hb1
      refine q_cond_f hF rfl hc2 ?_
      refine q_exit (x_sq ?_)
      obtain rfl := someI hb1
      exact ⟨nofun, .inl ⟨rfl, hF.sub ⟨rfl, rfl, rfl, rfl, trivial⟩, hS⟩⟩
    · have hb1 := cond_t hc2 hb1
      refine q_cond_t hF rfl hc2 ?_
      refine q_skipc (n_sq ?_)
      refine q_block ?_
      refine q_seq ?_
      refine q_region ?_
      refine q_x (v := (.int .i64 i_2)) hF hS (ex_move rfl) rfl rfl fun a hF => ?_
      refine q_x (v := (.int .i64 j_3)) hF hS (ex_move rfl) rfl rfl fun a hF => ?_
      refine q_x (v := (.int .i64 (w64 (i_2 + j_3)))) hF hS (ex_ibin rfl rfl rfl) rfl rfl fun a hF => ?_
      refine q_x (v := (.int .u64 (IntKind.wrap .u64 (w64 (i_2 + j_3))))) hF hS (ex_conv Try.underlying3 Try.underlying108 rfl) rfl rfl fun a hF => ?_
      obtain ⟨t_4, ht_4, hb1⟩ := bindS hb1
      refine q_x (v := (.int .u64 t_4)) hF hS (ex_shr rfl rfl ht_4) rfl rfl fun a hF => ?_
      refine q_x (v := (.int .i64 (w64 t_4))) hF hS (ex_conv Try.underlying108 Try.underlying3 rfl) rfl rfl fun a hF => ?_
      refine q_x (v := (.int .i64 (w64 t_4))) hF hS (ex_assign rfl) rfl rfl fun a hF => ?_
      refine q_end (n_sq ?_)
      refine q_seq ?_
      refine q_region ?_
      refine q_x (v := s1.v) hF hS (ex_move rfl) rfl rfl fun a hF => ?_
      refine q_x (v := (.int .i64 (w64 t_4))) hF hS (ex_move rfl) rfl rfl fun a hF => ?_
      obtain ⟨e_5, he_5, hb1⟩ := bindS hb1
      obtain ⟨vs6, at6, d6⟩ := h1.at he_5 1 rfl
      obtain rfl : vs6 = [(.int .i64 e_5)] := d6
      refine q_x (v := (elP s1 ((w64 t_4).toNat * 1))) hF hS (ex_indexAddr Try.underlying23 sz3 rfl rfl (h1.idx he_5)) rfl rfl fun a hF => ?_
      refine q_x (v := (.int .i64 e_5)) hF hS (ex_loadE1 0 Try.underlying3 rfl rfl ((at6).at) rfl rfl) rfl rfl fun a hF => ?_
      refine q_x (v := (.int .i64 p_target)) hF hS (ex_move rfl) rfl rfl fun a hF => ?_
      obtain ⟨t_7, ht_7, hb1⟩ := bindS hb1
      refine q_call (vs := [(.int .i64 e_5), (.int .i64 p_target)]) hF hS Try.func104 (by kernel_rfl) rfl rfl rfl (c_cmp_Less_int e_5 p_target t_7 ht_7 _ m hS.vis) ?_
      rintro a w _ rfl hF hS
      refine q_end (n_sq ?_)
      obtain ⟨j3, hj3, hb1⟩ := bindS hb1
      refine q_join (fun a w => ∃ i_8, ∃ j_9, j3 = (i_8, j_9) ∧ Fr a 54 [(0, s1.v), (1, (.int .i64 p_target)), (6, (.int .i64 (goLen p_x))), (7, (.int .i64 i_8)), (8, (.int .i64 j_9))] ∧ St [] w0 w m []) ?_ ?_
      · rcases bcase (t_7) with hc4 | hc4
        · have hj3 := cond_f hc4 hj3
          refine q_cond_f hF rfl hc4 ?_
          refine q_region ?_
          refine q_x (v := (.int .i64 (w64 t_4))) hF hS (ex_move rfl) rfl rfl fun a hF => ?_
          refine q_x (v := (.int .i64 (w64 t_4))) hF hS (ex_assign rfl) rfl rfl fun a hF => ?_
          refine q_end (n_jn ?_)
          obtain rfl := someI hj3
          exact ⟨_, _, rfl, hF.sub ⟨rfl, rfl, rfl, rfl, rfl, trivial⟩, hS⟩
        · have hj3 := cond_t hc4 hj3
          refine q_cond_t hF rfl hc4 ?_
          refine q_region ?_
          refine q_x (v := (.int .i64 (w64 t_4))) hF hS (ex_move rfl) rfl rfl fun a hF => ?_
          refine q_x (v := (.int .i64 (w64 ((w64 t_4) + 1)))) hF hS (ex_ibin rfl rfl rfl) rfl rfl fun a hF => ?_
          refine q_x (v := (.int .i64 (w64 ((w64 t_4) + 1)))) hF hS (ex_assign rfl) rfl rfl fun a hF => ?_
          refine q_end (n_jn ?_)
          obtain rfl := someI hj3
          exact ⟨_, _, rfl, hF.sub ⟨rfl, rfl, rfl, rfl, rfl, trivial⟩, hS⟩
      · rintro a w ⟨i_8, j_9, rfl, hF, hS⟩
        refine n_ib ?_
        obtain rfl := someI hb1
        exact ⟨rfl, _, _, rfl, hF.sub ⟨rfl, rfl, rfl, rfl, rfl, trivial⟩, hS⟩
  · rintro e a w ⟨rfl, hF, hS⟩
    refine x_ib (n_sq ?_)
    refine q_seq ?_
    obtain ⟨t_17, hj5, hr⟩ := bindS hr
    refine q_join (fun a w => Fr a 54 [(4, (.int .i64 i_10)), (5, (.bool t_17))] ∧ St [] w0 w m []) ?_ ?_
    · refine q_region ?_
      refine q_x (v := (.int .i64 i_10)) hF hS (ex_move rfl) rfl rfl fun a hF => ?_
      refine q_x (v := (.int .i64 i_10)) hF hS (ex_move rfl) rfl rfl fun a hF => ?_
      refine q_x (v := (.int .i64 (goLen p_x))) hF hS (ex_move rfl) rfl rfl fun a hF => ?_
      refine q_x (v := (.bool (decide (i_10 < (goLen p_x))))) hF hS (ex_ibin rfl rfl rfl) rfl rfl fun a hF => ?_
      refine q_x (v := (.bool (decide (i_10 < (goLen p_x))))) hF hS (ex_move rfl) rfl rfl fun a hF => ?_
      rcases bcase (decide (i_10 < (goLen p_x))) with hc6 | hc6
      · have hj5 := cond_f hc6 hj5
        refine q_skip hF (wanted_f hF rfl rfl rfl hc6 rfl) rfl fun a hF => ?_
        refine q_skip hF (wanted_f hF rfl rfl rfl hc6 rfl) rfl fun a hF => ?_
        refine q_skip hF (wanted_f hF rfl rfl rfl hc6 rfl) rfl fun a hF => ?_
        refine q_skip hF (wanted_f hF rfl rfl rfl hc6 rfl) rfl fun a hF => ?_
        refine q_skip hF (wanted_f hF rfl rfl rfl hc6 rfl) rfl fun a hF => ?_
        refine q_skip hF (wanted_f hF rfl rfl rfl hc6 rfl) rfl fun a hF => ?_
        refine q_skip hF (wanted_f hF rfl rfl rfl hc6 rfl) rfl fun a hF => ?_
        refine q_skip hF (wanted_u hF rfl rfl rfl) rfl fun a hF => ?_
        refine q_skip hF (wanted_u hF rfl rfl rfl) rfl fun a hF => ?_
        refine q_skip hF (wanted_u hF rfl rfl rfl) rfl fun a hF => ?_
        refine q_skip hF (wanted_u hF rfl rfl rfl) rfl fun a hF => ?_
        refine q_skip hF (wanted_u hF rfl rfl rfl) rfl fun a hF => ?_
        refine q_skip hF (wanted_u hF rfl rfl rfl) rfl fun a hF => ?_
        refine q_skip hF (wanted_u hF rfl rfl rfl) rfl fun a hF => ?_
        refine q_skip hF (wanted_u hF rfl rfl rfl) rfl fun a hF => ?_
        refine q_skip hF (wanted_u hF rfl rfl rfl) rfl fun a hF => ?_
        refine q_skip hF (wanted_f hF rfl rfl rfl hc6 rfl) rfl fun a hF => ?_
        refine q_x (v := (.bool false)) hF hS (ex_pick_f rfl rfl hc6) rfl rfl fun a hF => ?_
        refine q_x (v := (.int .i64 i_10)) hF hS (ex_assign rfl) rfl rfl fun a hF => ?_
        refine q_x (v := (.bool false)) hF hS (ex_assign rfl) rfl rfl fun a hF => ?_
        refine q_end (n_jn ?_)
        obtain rfl := someI hj5
        exact ⟨hF.sub ⟨rfl, rfl, trivial⟩, hS⟩
      · have hj5 := cond_t hc6 hj5
        refine q_xg (v := s1.v) hF hS (ex_move rfl) (wanted_t hF rfl rfl rfl hc6) rfl fun a hF => ?_
        refine q_xg (v := (.int .i64 i_10)) hF hS (ex_move rfl) (wanted_t hF rfl rfl rfl hc6) rfl fun a hF => ?_
        obtain ⟨e_11, he_11, hj5⟩ := bindS hj5
        obtain ⟨vs12, at12, d12⟩ := h1.at he_11 1 rfl
        obtain rfl : vs12 = [(.int .i64 e_11)] := d12
        refine q_xg (v := (elP s1 (i_10.toNat * 1))) hF hS (ex_indexAddr Try.underlying23 sz3 rfl rfl (h1.idx he_11)) (wanted_t hF rfl rfl rfl hc6) rfl fun a hF => ?_
        refine q_xg (v := (.int .i64 e_11)) hF hS (ex_loadE1 0 Try.underlying3 rfl rfl ((at12).at) rfl rfl) (wanted_t hF rfl rfl rfl hc6) rfl fun a hF => ?_
        refine q_xg (v := (.int .i64 p_target)) hF hS (ex_move rfl) (wanted_t hF rfl rfl rfl hc6) rfl fun a hF => ?_
        refine q_xg (v := (.bool (e_11 == p_target))) hF hS (ex_ibin rfl rfl rfl) (wanted_t hF rfl rfl rfl hc6) rfl fun a hF => ?_
        refine q_xg (v := (.bool (e_11 == p_target))) hF hS (ex_move rfl) (wanted_t hF rfl rfl rfl hc6) rfl fun a hF => ?_
        rcases bcase (e_11 == p_target) with hc7 | hc7
        · have hj5 := cond_f hc7 hj5
          refine q_xg (v := s1.v) hF hS (ex_move rfl) (wanted_t hF rfl rfl rfl hc7) rfl fun a hF => ?_
          refine q_xg (v := (.int .i64 i_10)) hF hS (ex_move rfl) (wanted_t hF rfl rfl rfl hc7) rfl fun a hF => ?_
          obtain ⟨e_13, he_13, hj5⟩ := bindS hj5
          obtain ⟨vs14, at14, d14⟩ := h1.at he_13 1 rfl
          obtain rfl : vs14 = [(.int .i64 e_13)] := d14
          refine q_xg (v := (elP s1 (i_10.toNat * 1))) hF hS (ex_indexAddr Try.underlying23 sz3 rfl rfl (h1.idx he_13)) (wanted_t hF rfl rfl rfl hc7) rfl fun a hF => ?_
          refine q_xg (v := (.int .i64 e_13)) hF hS (ex_loadE1 0 Try.underlying3 rfl rfl ((at14).at) rfl rfl) (wanted_t hF rfl rfl rfl hc7) rfl fun a hF => ?_
          obtain ⟨t_15, ht_15, hj5⟩ := bindS hj5
          refine q_callg (vs := [(.int .i64 e_13)]) hF hS (wanted_t hF rfl rfl rfl hc7) Try.func105 (by kernel_rfl) rfl rfl rfl (c_slices_isNaN_int e_13 t_15 ht_15 _ m hS.vis) ?_
          rintro a w _ rfl hF hS
          refine q_xg (v := (.bool t_15)) hF hS (ex_move rfl) (wanted_t hF rfl rfl rfl hc7) rfl fun a hF => ?_
          rcases bcase (t_15) with hc8 | hc8
          · have hj5 := cond_f hc8 hj5
            refine q_skip hF (wanted_f hF rfl rfl rfl hc8 rfl) rfl fun a hF => ?_
            refine q_skip hF (wanted_f hF rfl rfl rfl hc8 rfl) rfl fun a hF => ?_
            refine q_xg (v := (.bool false)) hF hS (ex_pick_f rfl rfl hc8) (wanted_t hF rfl rfl rfl hc7) rfl fun a hF => ?_
            refine q_xg (v := (.bool false)) hF hS (ex_pick_f rfl rfl hc7) (wanted_t hF rfl rfl rfl hc6) rfl fun a hF => ?_
            refine q_x (v := (.bool false)) hF hS (ex_pick_t rfl rfl hc6) rfl rfl fun a hF => ?_
            refine q_x (v := (.int .i64 i_10)) hF hS (ex_assign rfl) rfl rfl fun a hF => ?_
            refine q_x (v := (.bool false)) hF hS (ex_assign rfl) rfl rfl fun a hF => ?_
            refine q_end (n_jn ?_)
            obtain rfl := someI hj5
            exact ⟨hF.sub ⟨rfl, rfl, trivial⟩, hS⟩
          · have hj5 := cond_t hc8 hj5
            refine q_xg (v := (.int .i64 p_target)) hF hS (ex_move rfl) (wanted_t hF rfl rfl rfl hc8) rfl fun a hF => ?_
            obtain ⟨t_16, ht_16, hj5⟩ := bindS hj5
            refine q_callg (vs := [(.int .i64 p_target)]) hF hS (wanted_t hF rfl rfl rfl hc8) Try.func105 (by kernel_rfl) rfl rfl rfl (c_slices_isNaN_int p_target t_16 ht_16 _ m hS.vis) ?_
            rintro a w _ rfl hF hS
            refine q_xg (v := (.bool t_16)) hF hS (ex_pick_t rfl rfl hc8) (wanted_t hF rfl rfl rfl hc7) rfl fun a hF => ?_
            refine q_xg (v := (.bool t_16)) hF hS (ex_pick_f rfl rfl hc7) (wanted_t hF rfl rfl rfl hc6) rfl fun a hF => ?_
            refine q_x (v := (.bool t_16)) hF hS (ex_pick_t rfl rfl hc6) rfl rfl fun a hF => ?_
            refine q_x (v := (.int .i64 i_10)) hF hS (ex_assign rfl) rfl rfl fun a hF => ?_
            refine q_x (v := (.bool t_16)) hF hS (ex_assign rfl) rfl rfl fun a hF => ?_
            refine q_end (n_jn ?_)
            obtain rfl := someI hj5
            exact ⟨hF.sub ⟨rfl, rfl, trivial⟩, hS⟩
        · have hj5 := cond_t hc7 hj5
          refine q_skip hF (wanted_f hF rfl rfl rfl hc7 rfl) rfl fun a hF => ?_
          refine q_skip hF (wanted_f hF rfl rfl rfl hc7 rfl) rfl fun a hF => ?_
          refine q_skip hF (wanted_f hF rfl rfl rfl hc7 rfl) rfl fun a hF => ?_
          refine q_skip hF (wanted_f hF rfl rfl rfl hc7 rfl) rfl fun a hF => ?_
          refine q_skip hF (wanted_f hF rfl rfl rfl hc7 rfl) rfl fun a hF => ?_
          refine q_skip hF (wanted_f hF rfl rfl rfl hc7 rfl) rfl fun a hF => ?_
          refine q_skip hF (wanted_u hF rfl rfl rfl) rfl fun a hF => ?_
          refine q_skip hF (wanted_u hF rfl rfl rfl) rfl fun a hF => ?_
          refine q_skip hF (wanted_f hF rfl rfl rfl hc7 rfl) rfl fun a hF => ?_
          refine q_xg (v := (.bool true)) hF hS (ex_pick_t rfl rfl hc7) (wanted_t hF rfl rfl rfl hc6) rfl fun a hF => ?_
          refine q_x (v := (.bool true)) hF hS (ex_pick_t rfl rfl hc6) rfl rfl fun a hF => ?_
          refine q_x (v := (.int .i64 i_10)) hF hS (ex_assign rfl) rfl rfl fun a hF => ?_
          refine q_x (v := (.bool true)) hF hS (ex_assign rfl) rfl rfl fun a hF => ?_
          refine q_end (n_jn ?_)
          obtain rfl := someI hj5
          exact ⟨hF.sub ⟨rfl, rfl, trivial⟩, hS⟩
    · rintro a w ⟨hF, hS⟩
      refine n_sq (q_ret ?_)
      obtain rfl := someI hr
      exact ret_of hF hS rfl (.tmp rfl (.tmp rfl .nil)) rfl

theorem c_impl_indexOfValues (p_s : List impl_Variable) (p_values : List Int) (r : Int) (hr : impl_indexOfValues p_s p_values = some r) (w0 : World) (m : Mem) (hv : Vis m w0) (s1 : Sl) (h1 : Rd m s1 p_s) (s2 : Sl) (h2 : Rd m s2 p_values) :
    Ret Try.prog 87 [s1.v, s2.v] w0 (fun v _ => v = (.int .i64 r)) := by
  unfold impl_indexOfValues at hr
  refine ret_start Try.func87 rfl 26 rfl rfl m hv fun a hF hS => ?_
  refine q_seq ?_
  refine q_region ?_
  refine q_x (v := (.int .i64 0)) hF hS (ex_assign rfl) rfl rfl fun a hF => ?_
  refine q_end (n_sq ?_)
  refine q_seq ?_
  refine q_region ?_
  refine q_x (v := (.int .i64 0)) hF hS (ex_assign rfl) rfl rfl fun a hF => ?_
  refine q_end (n_sq ?_)
  refine q_seq ?_
  refine q_seq ?_
  refine q_region ?_
  refine q_x (v := s2.v) hF hS (ex_move rfl) rfl rfl fun a hF => ?_
  refine q_x (v := (.int .i64 (goLen p_values))) hF hS (ex_len Try.underlying23 rfl h2.len) rfl rfl fun a hF => ?_
  refine q_x (v := (.int .i64 0)) hF hS (ex_move rfl) rfl rfl fun a hF => ?_
  refine q_end (n_sq ?_)
  refine q_block ?_
  obtain ⟨i_9, hl1, hr⟩ := bindS hr
  refine q_loop (fun (s : Int × Int) a w => ∃ i_3, ∃ t_4, s = (i_3, t_4) ∧ Fr a 26 [(0, s1.v), (5, (.int .i64 i_3)), (8, s2.v), (9, (.int .i64 (goLen p_values))), (10, (.int .i64 t_4))] ∧ St [] w0 w m []) (fun (i_9 : Int) e a w => e = .exit 0 ∧ Fr a 26 [(5, (.int .i64 i_9))] ∧ St [] w0 w m []) hl1 ⟨_, _, rfl, hF.sub ⟨rfl, rfl, rfl, rfl, rfl, trivial⟩, hS⟩ ?_ ?_
  · clear hF hS
    rintro s a w st ⟨i_3, t_4, rfl, hF, hS⟩ hb1
    unfold impl_indexOfValues_l1 at hb1
    refine q_seq ?_
    refine q_region ?_
    refine q_x (v := (.bool (decide (t_4 < (goLen p_values))))) hF hS (ex_ibin rfl rfl rfl) rfl rfl fun a hF => ?_
    refine q_end (n_sq ?_)
    refine q_seq ?_
    rcases bcase (decide (t_4 < (goLen p_values))) with hc2 | hc2
    · have hb1 := cond_f hc2 hb1
      refine q_cond_f hF rfl hc2 ?_
      refine q_exit (x_sq ?_)
      obtain rfl := someI hb1
      exact ⟨nofun, .inl ⟨rfl, hF.sub ⟨rfl, trivial⟩, hS⟩⟩
    · have hb1 := cond_t hc2 hb1
      refine q_cond_t hF rfl hc2 ?_
      refine q_skipc (n_sq ?_)
      refine q_seq ?_
      refine q_block ?_
      refine q_seq ?_
      refine q_region ?_
      refine q_x (v := (.int .i64 t_4)) hF hS (ex_move rfl) rfl rfl fun a hF => ?_
      obtain ⟨e_5, he_5, hb1⟩ := bindS hb1
      obtain ⟨vs6, at6, d6⟩ := h2.at he_5 1 rfl
      obtain rfl : vs6 = [(.int .i64 e_5)] := d6
      refine q_x (v := (elP s2 (t_4.toNat * 1))) hF hS (ex_indexAddr Try.underlying23 sz3 rfl rfl (h2.idx he_5)) rfl rfl fun a hF => ?_
      refine q_x (v := (.int .i64 e_5)) hF hS (ex_loadE1 0 Try.underlying3 rfl rfl ((at6).at) rfl rfl) rfl rfl fun a hF => ?_
      refine q_x (v := (.int .i64 t_4)) hF hS (ex_assign rfl) rfl rfl fun a hF => ?_
      refine q_x (v := (.int .i64 e_5)) hF hS (ex_assign rfl) rfl rfl fun a hF => ?_
      refine q_end (n_sq ?_)
      refine q_region ?_
      refine q_x (v := (.int .i64 i_3)) hF hS (ex_move rfl) rfl rfl fun a hF => ?_
      refine q_x (v := s1.v) hF hS (ex_move rfl) rfl rfl fun a hF => ?_
      refine q_x (v := (.int .i64 t_4)) hF hS (ex_move rfl) rfl rfl fun a hF => ?_
      obtain ⟨e_7, he_7, hb1⟩ := bindS hb1
      obtain ⟨vs8, at8, d8⟩ := h1.at he_7 2 rfl
      obtain rfl : vs8 = [(strV e_7.Name), (.int .i64 e_7.Levels)] := d8
      refine q_x (v := (elP s1 (t_4.toNat * 2))) hF hS (ex_indexAddr Try.underlying26 sz104 rfl rfl (h1.idx he_7)) rfl rfl fun a hF => ?_
      refine q_x (v := (elP s1 (t_4.toNat * 2 + 1))) hF hS (ex_fieldAddrE Try.underlying104 rfl sz3 rfl (h1.idx he_7) rfl) rfl rfl fun a hF => ?_
      refine q_x (v := (.int .i64 e_7.Levels)) hF hS (ex_loadE1 1 Try.underlying3 rfl rfl ((at8).at) rfl rfl) rfl rfl fun a hF => ?_
      refine q_x (v := (.int .i64 (w64 (i_3 * e_7.Levels)))) hF hS (ex_ibin rfl rfl rfl) rfl rfl fun a hF => ?_
      refine q_x (v := (.int .i64 e_5)) hF hS (ex_move rfl) rfl rfl fun a hF => ?_
      refine q_x (v := (.int .i64 (w64 ((w64 (i_3 * e_7.Levels)) + e_5)))) hF hS (ex_ibin rfl rfl rfl) rfl rfl fun a hF => ?_
      refine q_x (v := (.int .i64 (w64 ((w64 (i_3 * e_7.Levels)) + e_5)))) hF hS (ex_assign rfl) rfl rfl fun a hF => ?_
      refine q_end (n_ib (n_sq ?_))
      refine q_region ?_
      refine q_x (v := (.int .i64 (w64 (t_4 + 1)))) hF hS (ex_ibin rfl rfl rfl) rfl rfl fun a hF => ?_
      refine q_x (v := (.int .i64 (w64 (t_4 + 1)))) hF hS (ex_move rfl) rfl rfl fun a hF => ?_
      refine q_end ?_
      obtain rfl := someI hb1
      exact ⟨rfl, _, _, rfl, hF.sub ⟨rfl, rfl, rfl, rfl, rfl, trivial⟩, hS⟩
  · rintro e a w ⟨rfl, hF, hS⟩
    refine x_ib (n_sq ?_)
    refine q_seq ?_
    refine q_region ?_
    refine q_x (v := (.int .i64 i_9)) hF hS (ex_move rfl) rfl rfl fun a hF => ?_
    refine q_x (v := (.int .i64 i_9)) hF hS (ex_assign rfl) rfl rfl fun a hF => ?_
    refine q_end (n_sq (q_ret ?_))
    obtain rfl := someI hr
    exact ret_of hF hS rfl (.tmp rfl .nil) rfl

theorem c_impl_cellIndex (p_g : impl_Geo) (p_s : List impl_Variable) (p_t : impl_Table) (p_area : Int) (p_values : List Int) (r : Int) (hr : impl_cellIndex p_g p_s p_t p_area p_values = some r) (w0 : World) (m : Mem) (hv : Vis m w0) (s1 : Sl) (h1 : Rd m s1 p_g.Parents) (s2 : Sl) (h2 : Rd m s2 p_s) (s3 : Sl) (h3 : Rd m s3 p_t.Vars) (s4 : Sl) (h4 : Rd m s4 p_t.Where) (s5 : Sl) (h5 : Rd m s5 p_values) :
    Ret Try.prog 54 [(.agg #[s1.v]), s2.v, (.agg #[(.int .i64 p_t.Level), s3.v, s4.v, (.int .i64 p_t.Sum)]), (.int .i64 p_area), s5.v] w0 (fun v _ => v = (.int .i64 r)) := by
  unfold impl_cellIndex at hr
  refine ret_start Try.func54 rfl 36 rfl rfl m hv fun a hF hS => ?_
  refine q_seq ?_
  refine q_region ?_
  refine q_box (cs := [s1.v]) hF hS rfl rfl rfl fun a w b6 hF hS => ?_
  refine q_box (cs := [(.int .i64 p_t.Level), s3.v, s4.v, (.int .i64 p_t.Sum)]) hF hS rfl rfl rfl fun a w b7 hF hS => ?_
  refine q_x (v := (.int .i64 0)) hF hS (ex_assign rfl) rfl rfl fun a hF => ?_
  refine q_end (n_sq ?_)
  refine q_seq ?_
  refine q_region ?_
  refine q_x (v := (.agg #[s1.v])) hF hS (ex_loadA (vs := [s1.v]) 1 0 Try.underlying25 rfl sz25 rfl rfl rfl rfl) rfl rfl fun a hF => ?_
  refine q_x (v := (.pointer (some ⟨b7, 0, none⟩))) hF hS (ex_fieldAddr Try.underlying28 rfl sz3 rfl rfl) rfl rfl fun a hF => ?_
  refine q_x (v := (.int .i64 p_t.Level)) hF hS (ex_load1 0 0 Try.underlying3 rfl rfl rfl rfl) rfl rfl fun a hF => ?_
  obtain ⟨t_8, ht_8, hr⟩ := bindS hr
  refine q_call (vs := [(.agg #[s1.v]), (.int .i64 p_t.Level)]) hF hS Try.func75 (by kernel_rfl) rfl rfl rfl (c_impl_areasAt p_g p_t.Level t_8 ht_8 _ m hS.vis s1 h1) ?_
  rintro a w _ ⟨q10, s10, rfl, hR9, h10⟩ hF hS2
  have hS : St _ _ _ _ [q10, [⟨b7, [(.int .i64 p_t.Level), s3.v, s4.v, (.int .i64 p_t.Sum)], 28⟩], [⟨b6, [s1.v], 25⟩]] := hS.joinF hR9
  refine q_x (v := (.int .i64 p_area)) hF hS (ex_move rfl) rfl rfl fun a hF => ?_
  obtain ⟨m12, hl12, hv12, hz12⟩ := hS.lend
  obtain ⟨t_11, ht_11, hr⟩ := bindS hr
  refine q_call (vs := [s10.v, (.int .i64 p_area)]) hF hS Try.func86 (by kernel_rfl) rfl rfl rfl (c_slices_BinarySearch_int_int t_8 p_area t_11 ht_11 _ m12 hv12 s10 (h10.froz hl12 (hz12 0 _ rfl))) ?_
  rintro a w _ rfl hF hS
  refine q_x (v := (.tuple #[(.int .i64 t_11.1), (.bool t_11.2)])) hF hS (ex_move rfl) rfl rfl fun a hF => ?_
  refine q_x (v := (.int .i64 t_11.1)) hF hS (ex_extract rfl rfl) rfl rfl fun a hF => ?_
  refine q_x (v := (.bool t_11.2)) hF hS (ex_extract rfl rfl) rfl rfl fun a hF => ?_
  refine q_x (v := (.int .i64 t_11.1)) hF hS (ex_assign rfl) rfl rfl fun a hF => ?_
  refine q_x (v := (.bool t_11.2)) hF hS (ex_assign rfl) rfl rfl fun a hF => ?_
  refine q_end (n_sq ?_)
  refine q_seq ?_
  refine q_seq ?_
  refine q_region ?_
  refine q_x (v := (.bool t_11.2)) hF hS (ex_move rfl) rfl rfl fun a hF => ?_
  refine q_x (v := (.bool (!t_11.2))) hF hS (ex_not rfl) rfl rfl fun a hF => ?_
  refine q_end (n_sq ?_)
  rcases bcase (!t_11.2) with hc1 | hc1
  · have hr := cond_f hc1 hr
    refine q_cond_f hF rfl hc1 ?_
    refine q_skipc (n_sq ?_)
    refine q_seq ?_
    refine q_region ?_
    refine q_x (v := s2.v) hF hS (ex_move rfl) rfl rfl fun a hF => ?_
    refine q_x (v := (.agg #[(.int .i64 p_t.Level), s3.v, s4.v, (.int .i64 p_t.Sum)])) hF hS (ex_loadA (vs := [(.int .i64 p_t.Level), s3.v, s4.v, (.int .i64 p_t.Sum)]) 1 0 Try.underlying28 rfl sz28 rfl rfl rfl rfl) rfl rfl fun a hF => ?_
    obtain ⟨t_13, ht_13, hr⟩ := bindS hr
    refine q_call (vs := [s2.v, (.agg #[(.int .i64 p_t.Level), s3.v, s4.v, (.int .i64 p_t.Sum)])]) hF hS Try.func53 (by kernel_rfl) rfl rfl rfl (c_impl_crossed p_s p_t t_13 ht_13 _ m hS.vis s2 h2 s3 h3 s4 h4) ?_
    rintro a w _ ⟨q15, s15, rfl, hR14, h15⟩ hF hS2
    have hS : St _ _ _ _ [q15, q10, [⟨b7, [(.int .i64 p_t.Level), s3.v, s4.v, (.int .i64 p_t.Sum)], 28⟩], [⟨b6, [s1.v], 25⟩]] := hS.joinF hR14
    refine q_x (v := s15.v) hF hS (ex_assign rfl) rfl rfl fun a hF => ?_
    refine q_end (n_sq ?_)
    refine q_seq ?_
    refine q_region ?_
    refine q_x (v := (.int .i64 t_11.1)) hF hS (ex_move rfl) rfl rfl fun a hF => ?_
    refine q_x (v := s15.v) hF hS (ex_move rfl) rfl rfl fun a hF => ?_
    obtain ⟨m17, hl17, hv17, hz17⟩ := hS.lend
    obtain ⟨t_16, ht_16, hr⟩ := bindS hr
    refine q_call (vs := [s15.v]) hF hS Try.func76 (by kernel_rfl) rfl rfl rfl (c_impl_combinations t_13 t_16 ht_16 _ m17 hv17 s15 (h15.froz hl17 (hz17 0 _ rfl))) ?_
    rintro a w _ rfl hF hS
    refine q_x (v := (.int .i64 (w64 (t_11.1 * t_16)))) hF hS (ex_ibin rfl rfl rfl) rfl rfl fun a hF => ?_
    refine q_x (v := s15.v) hF hS (ex_move rfl) rfl rfl fun a hF => ?_
    refine q_x (v := s5.v) hF hS (ex_move rfl) rfl rfl fun a hF => ?_
    obtain ⟨m19, hl19, hv19, hz19⟩ := hS.lend
    obtain ⟨t_18, ht_18, hr⟩ := bindS hr
    refine q_call (vs := [s15.v, s5.v]) hF hS Try.func87 (by kernel_rfl) rfl rfl rfl (c_impl_indexOfValues t_13 p_values t_18 ht_18 _ m19 hv19 s15 (h15.froz hl19 (hz19 0 _ rfl)) s5 (h5.mono hl19)) ?_
    rintro a w _ rfl hF hS
    refine q_x (v := (.int .i64 (w64 ((w64 (t_11.1 * t_16)) + t_18)))) hF hS (ex_ibin rfl rfl rfl) rfl rfl fun a hF => ?_
    refine q_x (v := (.int .i64 (w64 ((w64 (t_11.1 * t_16)) + t_18)))) hF hS (ex_assign rfl) rfl rfl fun a hF => ?_
    refine q_end (n_sq (q_ret ?_))
    obtain rfl := someI hr
    exact ret_of hF hS rfl (.tmp rfl .nil) rfl
  · have hr := cond_t hc1 hr
    refine q_cond_t hF rfl hc1 ?_
    refine q_seq ?_
    refine q_region ?_
    refine q_x (v := (.int .i64 (-1))) hF hS (ex_assign rfl) rfl rfl fun a hF => ?_
    refine q_end (n_sq (q_ret (r_sq ?_)))
    obtain rfl := someI hr
    exact ret_of hF hS rfl (.tmp rfl .nil) rfl

end Go.Proofs.Ytmlegfogjdhhkaa
