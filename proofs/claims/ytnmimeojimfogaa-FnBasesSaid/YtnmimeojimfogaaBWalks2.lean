/- The walks of the functions: each returns what its plain function says. -/
import Derived.Test.YtnmimeojimfogaaBWalks1
namespace Go.Proofs.Ytnmimeojimfogaa
open Go.Gx Go.Gx.F Go.RowKit
set_option linter.all false
set_option maxRecDepth 10000


theorem c_spec_l1Cur_anyTable (p_c : spec_l1Cur) (p_g : impl_Geo) (p_s : List impl_Variable) (r : impl_Table × spec_l1Cur) (hr : spec_l1Cur_anyTable p_c p_g p_s = some r) (w0 : World) (m : Mem) (b_p_c : Nat) (s1 : Sl) (h1 : Rd m s1 p_c.code) (s2 : Sl) (h2 : Rd m s2 p_g.Parents) (s3 : Sl) (h3 : Rd m s3 p_s) (X : List Nat) (hS : St X w0 w0 m [[⟨b_p_c, [s1.v, (.int .i64 p_c.at_), (.int .u64 p_c.seed.v)], 65⟩]]) :
  RetX Try.prog 41 [(.pointer (some ⟨b_p_c, 0, none⟩)), (.agg #[s2.v]), s3.v] w0 (fun v w => ∃ (q0' : Piece) (q1' : Piece) (s0' : Sl) (s1' : Sl), v = (.agg #[(.int .i64 r.1.Level), s0'.v, s1'.v, (.int .i64 r.1.Sum)]) ∧ St X w0 w m [[⟨b_p_c, [s1.v, (.int .i64 r.2.at_), (.int .u64 r.2.seed.v)], 65⟩], q0', q1'] ∧ OwnL m 3 q0' s0' r.1.Vars ∧ OwnL m 3 q1' s1' r.1.Where ∧ r.2.code = p_c.code) := by
 unfold spec_l1Cur_anyTable at hr
 refine ret_startX Try.func41 rfl 56 rfl rfl fun a hF => q_seq (q_region (q_box (cs := [s2.v]) hF hS rfl rfl rfl fun a w b4 hF hS => q_alloc (cs := [(.int .i64 0), nilS.v, nilS.v, (.int .i64 0)]) hF hS rfl rfl rfl fun a w b5 hF hS => q_end (n_sq (q_seq (q_region (q_x (v := (.pointer (some ⟨b_p_c, 0, none⟩))) hF hS (ex_move rfl) rfl rfl fun a hF => q_x (v := (.agg #[s2.v])) hF hS (ex_loadA (vs := [s2.v]) 1 0 Try.underlying26 rfl sz26 rfl rfl rfl rfl) rfl rfl fun a hF => q_x (v := s3.v) hF hS (ex_move rfl) rfl rfl fun a hF => ?_))))))
 have hS : St _ _ _ _ [[⟨b_p_c, [s1.v, (.int .i64 p_c.at_), (.int .u64 p_c.seed.v)], 65⟩], [⟨b5, [(.int .i64 0), nilS.v, nilS.v, (.int .i64 0)], 29⟩], [⟨b4, [s2.v], 26⟩]] := hS.sel [2, 0, 1] (by decide)
 have hS6 : St _ _ _ _ ([[⟨b_p_c, [s1.v, (.int .i64 p_c.at_), (.int .u64 p_c.seed.v)], 65⟩]] ++ [[⟨b5, [(.int .i64 0), nilS.v, nilS.v, (.int .i64 0)], 29⟩], [⟨b4, [s2.v], 26⟩]]) := hS
 have hE6 := hS6.enter
 obtain ⟨t_7, ht_7, hr⟩ := bindS hr
 refine q_do rfl fun _ hK => wp_callX (vs := [(.pointer (some ⟨b_p_c, 0, none⟩)), (.agg #[s2.v]), s3.v]) hF Try.func76 (by kernel_rfl) rfl rfl rfl (c_spec_l1Cur_table p_c p_g p_s t_7 ht_7 _ m b_p_c s1 h1 s2 h2 s3 h3 _ hE6) fun a w _ hR hF => hK _ _ ?_
 obtain ⟨q8, q9, s8, s9, rfl, hR6, h8, h9, hk10⟩ := hR
 have hS : St _ _ _ _ [[⟨b_p_c, [s1.v, (.int .i64 t_7.2.at_), (.int .u64 t_7.2.seed.v)], 65⟩], q8, q9, [⟨b5, [(.int .i64 0), nilS.v, nilS.v, (.int .i64 0)], 29⟩], [⟨b4, [s2.v], 26⟩]] := hS6.leaveF hR6
 have h10 : Rd m s1 t_7.2.code := by rw [hk10]; exact h1
 refine q_alloc (cs := [(.int .i64 0), nilS.v, nilS.v, (.int .i64 0)]) hF hS rfl rfl rfl fun a w b11 hF hS => q_store (vs := [(.int .i64 t_7.1.Level), s8.v, s9.v, (.int .i64 t_7.1.Sum)]) (cs' := [(.int .i64 t_7.1.Level), s8.v, s9.v, (.int .i64 t_7.1.Sum)]) 0 0 hF hS sz29 rfl rfl rfl rfl rfl rfl rfl rfl fun a w hF hS => q_end (n_sq (q_seq (q_seq (q_region (q_x (v := (.pointer (some ⟨b_p_c, 0, none⟩))) hF hS (ex_move rfl) rfl rfl fun a hF => ?_)))))
 have hS : St _ _ _ _ [[⟨b_p_c, [s1.v, (.int .i64 t_7.2.at_), (.int .u64 t_7.2.seed.v)], 65⟩], [⟨b11, [(.int .i64 t_7.1.Level), s8.v, s9.v, (.int .i64 t_7.1.Sum)], 29⟩], q8, q9, [⟨b5, [(.int .i64 0), nilS.v, nilS.v, (.int .i64 0)], 29⟩], [⟨b4, [s2.v], 26⟩]] := hS.sel [1, 0, 2, 3, 4, 5] (by decide)
 have hS12 : St _ _ _ _ ([[⟨b_p_c, [s1.v, (.int .i64 t_7.2.at_), (.int .u64 t_7.2.seed.v)], 65⟩]] ++ [[⟨b11, [(.int .i64 t_7.1.Level), s8.v, s9.v, (.int .i64 t_7.1.Sum)], 29⟩], q8, q9, [⟨b5, [(.int .i64 0), nilS.v, nilS.v, (.int .i64 0)], 29⟩], [⟨b4, [s2.v], 26⟩]]) := hS
 have hE12 := hS12.enter
 obtain ⟨t_13, ht_13, hr⟩ := bindS hr
 refine q_do rfl fun _ hK => wp_callX (vs := [(.pointer (some ⟨b_p_c, 0, none⟩)), (.int .i64 24)]) hF Try.func53 (by kernel_rfl) rfl rfl rfl (c_spec_l1Cur_pick t_7.2 24 t_13 ht_13 _ m b_p_c s1 h10 _ hE12) fun a w _ hR hF => hK _ _ ?_
 obtain ⟨rfl, hR12, hk14⟩ := hR
 have hS : St _ _ _ _ [[⟨b_p_c, [s1.v, (.int .i64 t_13.2.at_), (.int .u64 t_13.2.seed.v)], 65⟩], [⟨b11, [(.int .i64 t_7.1.Level), s8.v, s9.v, (.int .i64 t_7.1.Sum)], 29⟩], q8, q9, [⟨b5, [(.int .i64 0), nilS.v, nilS.v, (.int .i64 0)], 29⟩], [⟨b4, [s2.v], 26⟩]] := hS12.leaveF hR12
 have h14 : Rd m s1 t_13.2.code := by rw [hk14]; exact h10
 refine q_end (n_sq (q_block (q_seq (q_region (q_x (v := (.bool (t_13.1 == 0))) hF hS (ex_ibin rfl rfl rfl) rfl rfl fun a hF => q_x (v := (.bool (t_13.1 == 0))) hF hS (ex_assign rfl) rfl rfl fun a hF => q_end (n_sq ?_))))))
 obtain ⟨j1, hj1, hr⟩ := bindS hr
 refine q_join (fun a w => ∃ (q74 : Piece), ∃ (s74 : Sl), ∃ (q75 : Piece), ∃ (s75 : Sl), ∃ p_c_71, ∃ t_73, j1 = (p_c_71, t_73) ∧ Fr a 56 [(6, (.pointer (some ⟨b5, 0, none⟩))), (7, (.pointer (some ⟨b11, 0, none⟩)))] ∧ St X w0 w m [q74, q75, [⟨b_p_c, [s1.v, (.int .i64 p_c_71.at_), (.int .u64 p_c_71.seed.v)], 65⟩], [⟨b11, [(.int .i64 t_73.Level), s74.v, s75.v, (.int .i64 t_73.Sum)], 29⟩], [⟨b5, [(.int .i64 0), nilS.v, nilS.v, (.int .i64 0)], 29⟩]] ∧ Rd m s1 p_c_71.code ∧ p_c_71.code = p_c.code ∧ OwnL m 3 q74 s74 t_73.Vars ∧ OwnL m 3 q75 s75 t_73.Where) ?_ ?_
 ·rcases bcase (t_13.1 == 0) with hc2 | hc2
  ·have hj1 := cond_f hc2 hj1
   refine q_cond_f hF rfl hc2 (q_seq (q_region (q_x (v := (.bool (t_13.1 == 1))) hF hS (ex_ibin rfl rfl rfl) rfl rfl fun a hF => q_x (v := (.bool (t_13.1 == 1))) hF hS (ex_assign rfl) rfl rfl fun a hF => q_end (n_sq ?_))))
   obtain ⟨j3, hj3, hj1⟩ := bindS hj1
   refine q_join (fun a w => ∃ (q65 : Piece), ∃ (s65 : Sl), ∃ (q66 : Piece), ∃ (s66 : Sl), ∃ p_c_62, ∃ t_64, j3 = (p_c_62, t_64) ∧ Fr a 56 [(6, (.pointer (some ⟨b5, 0, none⟩))), (7, (.pointer (some ⟨b11, 0, none⟩)))] ∧ St X w0 w m [q65, q66, [⟨b_p_c, [s1.v, (.int .i64 p_c_62.at_), (.int .u64 p_c_62.seed.v)], 65⟩], [⟨b11, [(.int .i64 t_64.Level), s65.v, s66.v, (.int .i64 t_64.Sum)], 29⟩], [⟨b5, [(.int .i64 0), nilS.v, nilS.v, (.int .i64 0)], 29⟩]] ∧ Rd m s1 p_c_62.code ∧ p_c_62.code = p_c.code ∧ OwnL m 3 q65 s65 t_64.Vars ∧ OwnL m 3 q66 s66 t_64.Where) ?_ ?_
   ·rcases bcase (t_13.1 == 1) with hc4 | hc4
    ·have hj3 := cond_f hc4 hj3
     refine q_cond_f hF rfl hc4 (q_seq (q_region (q_x (v := (.bool (t_13.1 == 2))) hF hS (ex_ibin rfl rfl rfl) rfl rfl fun a hF => q_x (v := (.bool (t_13.1 == 2))) hF hS (ex_assign rfl) rfl rfl fun a hF => q_end (n_sq ?_))))
     obtain ⟨j5, hj5, hj3⟩ := bindS hj3
     refine q_join (fun a w => ∃ (q48 : Piece), ∃ (s48 : Sl), ∃ p_c_44, ∃ t_46, j5 = (p_c_44, t_46) ∧ Fr a 56 [(6, (.pointer (some ⟨b5, 0, none⟩))), (7, (.pointer (some ⟨b11, 0, none⟩)))] ∧ St X w0 w m [q8, q48, [⟨b_p_c, [s1.v, (.int .i64 p_c_44.at_), (.int .u64 p_c_44.seed.v)], 65⟩], [⟨b11, [(.int .i64 t_46.Level), s8.v, s48.v, (.int .i64 t_46.Sum)], 29⟩], [⟨b5, [(.int .i64 0), nilS.v, nilS.v, (.int .i64 0)], 29⟩]] ∧ Rd m s1 p_c_44.code ∧ p_c_44.code = p_c.code ∧ OwnL m 3 q8 s8 t_46.Vars ∧ OwnL m 3 q48 s48 t_46.Where) ?_ ?_
     ·rcases bcase (t_13.1 == 2) with hc6 | hc6
      ·have hj5 := cond_f hc6 hj5
       refine q_cond_f hF rfl hc6 (q_seq (q_region (q_x (v := (.bool (t_13.1 == 3))) hF hS (ex_ibin rfl rfl rfl) rfl rfl fun a hF => q_x (v := (.bool (t_13.1 == 3))) hF hS (ex_assign rfl) rfl rfl fun a hF => q_end (n_sq ?_))))
       obtain ⟨j7, hj7, hj5⟩ := bindS hj5
       refine q_join (fun a w => ∃ (q40 : Piece), ∃ p_c_36, ∃ t_38, j7 = (p_c_36, t_38) ∧ Fr a 56 [(6, (.pointer (some ⟨b5, 0, none⟩))), (7, (.pointer (some ⟨b11, 0, none⟩)))] ∧ St X w0 w m [q8, q40, [⟨b_p_c, [s1.v, (.int .i64 p_c_36.at_), (.int .u64 p_c_36.seed.v)], 65⟩], [⟨b11, [(.int .i64 t_38.Level), s8.v, s9.v, (.int .i64 t_38.Sum)], 29⟩], [⟨b5, [(.int .i64 0), nilS.v, nilS.v, (.int .i64 0)], 29⟩]] ∧ Rd m s1 p_c_36.code ∧ p_c_36.code = p_c.code ∧ OwnL m 3 q8 s8 t_38.Vars ∧ OwnL m 3 q40 s9 t_38.Where) ?_ ?_
       ·rcases bcase (t_13.1 == 3) with hc8 | hc8
        ·have hj7 := cond_f hc8 hj7
         refine q_cond_f hF rfl hc8 (q_seq (q_region (q_x (v := (.bool (t_13.1 == 4))) hF hS (ex_ibin rfl rfl rfl) rfl rfl fun a hF => q_x (v := (.bool (t_13.1 == 4))) hF hS (ex_assign rfl) rfl rfl fun a hF => q_end (n_sq ?_))))
         obtain ⟨j9, hj9, hj7⟩ := bindS hj7
         refine q_join (fun a w => ∃ (q31 : Piece), ∃ p_c_27, ∃ t_29, j9 = (p_c_27, t_29) ∧ Fr a 56 [(6, (.pointer (some ⟨b5, 0, none⟩))), (7, (.pointer (some ⟨b11, 0, none⟩)))] ∧ St X w0 w m [q8, q31, [⟨b_p_c, [s1.v, (.int .i64 p_c_27.at_), (.int .u64 p_c_27.seed.v)], 65⟩], [⟨b11, [(.int .i64 t_29.Level), s8.v, s9.v, (.int .i64 t_29.Sum)], 29⟩], [⟨b5, [(.int .i64 0), nilS.v, nilS.v, (.int .i64 0)], 29⟩]] ∧ Rd m s1 p_c_27.code ∧ p_c_27.code = p_c.code ∧ OwnL m 3 q8 s8 t_29.Vars ∧ OwnL m 3 q31 s9 t_29.Where) ?_ ?_
         ·rcases bcase (t_13.1 == 4) with hc10 | hc10
          ·have hj9 := cond_f hc10 hj9
           refine q_cond_f hF rfl hc10 (q_skipc (n_jn ?_))
           obtain rfl := someI hj9
           exact ⟨q9, _, _, rfl, hF.sub ⟨rfl, rfl, trivial⟩, hS.sel [2, 3, 0, 1, 4] (by decide), h14, (hk14.trans hk10), h8, h9⟩
          ·have hj9 := cond_t hc10 hj9
           refine q_cond_t hF rfl hc10 (q_seq (q_region (q_x (v := (.pointer (some ⟨b11, 2, none⟩))) hF hS (ex_fieldAddr Try.underlying29 rfl sz24 rfl rfl) rfl rfl fun a hF => q_x (v := s9.v) hF hS (ex_load1 1 0 Try.underlying24 rfl rfl rfl rfl) rfl rfl fun a hF => q_x (v := (.int .i64 (goLen t_7.1.Where))) hF hS (ex_len Try.underlying24 rfl h9.len) rfl rfl fun a hF => q_x (v := (.bool (decide (0 < (goLen t_7.1.Where))))) hF hS (ex_ibin rfl rfl rfl) rfl rfl fun a hF => q_end (n_sq ?_))))
           obtain ⟨j11, hj11, hj9⟩ := bindS hj9
           refine q_join (fun a w => ∃ (q26 : Piece), ∃ p_c_22, ∃ t_24, j11 = (p_c_22, t_24) ∧ Fr a 56 [(6, (.pointer (some ⟨b5, 0, none⟩))), (7, (.pointer (some ⟨b11, 0, none⟩)))] ∧ St X w0 w m [q8, q26, [⟨b_p_c, [s1.v, (.int .i64 p_c_22.at_), (.int .u64 p_c_22.seed.v)], 65⟩], [⟨b11, [(.int .i64 t_24.Level), s8.v, s9.v, (.int .i64 t_24.Sum)], 29⟩], [⟨b5, [(.int .i64 0), nilS.v, nilS.v, (.int .i64 0)], 29⟩]] ∧ Rd m s1 p_c_22.code ∧ p_c_22.code = p_c.code ∧ OwnL m 3 q8 s8 t_24.Vars ∧ OwnL m 3 q26 s9 t_24.Where) ?_ ?_
           ·rcases bcase (decide (0 < (goLen t_7.1.Where))) with hc12 | hc12
            ·have hj11 := cond_f hc12 hj11
             refine q_cond_f hF rfl hc12 (q_skipc (n_jn ?_))
             obtain rfl := someI hj11
             exact ⟨q9, _, _, rfl, hF.sub ⟨rfl, rfl, trivial⟩, hS.sel [2, 3, 0, 1, 4] (by decide), h14, (hk14.trans hk10), h8, h9⟩
            ·have hj11 := cond_t hc12 hj11
             refine q_cond_t hF rfl hc12 (e_region ⟨[4, 6], [b11]⟩ mixed fun w' hw' => ?_)
             have hS := hS.below hw'
             refine e_p (v := (.pointer (some ⟨b11, 2, none⟩))) 0 hF rfl (ex_fieldAddr Try.underlying29 rfl sz24 rfl rfl) rfl rfl (by kernel_rfl) (by kernel_rfl) (by kernel_rfl) fun a hF => e_xb (v := s9.v) 1 1 hF hS (.head _) rfl rfl (ex_load1 0 0 Try.underlying24 rfl rfl rfl rfl) rfl rfl (by kernel_rfl) (by kernel_rfl) (by kernel_rfl) fun a hF => e_p (v := (.pointer (some ⟨b_p_c, 0, none⟩))) 2 hF rfl (ex_move rfl) rfl rfl (by kernel_rfl) (by kernel_rfl) (by kernel_rfl) fun a hF => e_one 3 (by kernel_rfl) (e_op rfl rfl fun _ hK => wp_buildSlice' (l := ([-1, 255, 256] : List Int)) (cells := [(.int .i64 (-1)), (.int .i64 255), (.int .i64 256)]) hF hS Try.underlying24 inf3 rfl rfl (by kernel_rfl) rfl rfl rfl ⟨rfl, rfl, rfl, rfl⟩ rfl rfl fun a w q15 s15 hF hS h15 hb => hK _ _ hb (e_one 4 (by kernel_rfl) ?_))
             have hS : St _ _ _ _ [[⟨b_p_c, [s1.v, (.int .i64 t_13.2.at_), (.int .u64 t_13.2.seed.v)], 65⟩], q15, [⟨b11, [(.int .i64 t_7.1.Level), s8.v, s9.v, (.int .i64 t_7.1.Sum)], 29⟩], q8, q9, [⟨b5, [(.int .i64 0), nilS.v, nilS.v, (.int .i64 0)], 29⟩], [⟨b4, [s2.v], 26⟩]] := hS.sel [1, 0, 2, 3, 4, 5, 6] (by decide)
             have hS16 : St _ _ _ _ ([[⟨b_p_c, [s1.v, (.int .i64 t_13.2.at_), (.int .u64 t_13.2.seed.v)], 65⟩]] ++ [q15, [⟨b11, [(.int .i64 t_7.1.Level), s8.v, s9.v, (.int .i64 t_7.1.Sum)], 29⟩], q8, q9, [⟨b5, [(.int .i64 0), nilS.v, nilS.v, (.int .i64 0)], 29⟩], [⟨b4, [s2.v], 26⟩]]) := hS
             obtain ⟨m16, hl16, hE16, hz16⟩ := hS16.lendX
             obtain ⟨t_17, ht_17, hj11⟩ := bindS hj11
             have hSo := hS
             refine e_opl rfl rfl rfl fun _ hK => wp_callX (vs := [(.pointer (some ⟨b_p_c, 0, none⟩)), s15.v]) hF Try.func77 (by kernel_rfl) rfl rfl rfl (c_spec_l1Cur_among t_13.2 ([-1, 255, 256] : List Int) t_17 ht_17 _ m16 b_p_c s1 (h14.mono hl16) s15 (h15.froz hl16 (hz16 0 _ rfl)) _ hE16) fun a w _ hR hF => hK _ _ ?_
             obtain ⟨rfl, hR16, hk18⟩ := hR
             have hS : St _ _ _ _ [[⟨b_p_c, [s1.v, (.int .i64 t_17.2.at_), (.int .u64 t_17.2.seed.v)], 65⟩], q15, [⟨b11, [(.int .i64 t_7.1.Level), s8.v, s9.v, (.int .i64 t_7.1.Sum)], 29⟩], q8, q9, [⟨b5, [(.int .i64 0), nilS.v, nilS.v, (.int .i64 0)], 29⟩], [⟨b4, [s2.v], 26⟩]] := hS16.leaveF hR16
             have h18 : Rd m s1 t_17.2.code := by rw [hk18]; exact h14
             refine ⟨kpC hSo hS 2 2 rfl rfl kpN, ?_⟩
             obtain ⟨e_19, he_19, hj11⟩ := bindS hj11
             obtain ⟨vs20, at20, d20⟩ := h9.at he_19 1 rfl
             obtain rfl : vs20 = [(.int .i64 e_19)] := d20
             refine e_p (v := (elP s9 ((0 : Int).toNat * 1))) 5 hF rfl (ex_indexAddr Try.underlying24 sz3 rfl rfl (h9.idx he_19)) rfl rfl (by kernel_rfl) (by kernel_rfl) (by kernel_rfl) fun a hF => e_one 6 (by kernel_rfl) ?_
             have hS : St _ _ _ _ [q9, [⟨b_p_c, [s1.v, (.int .i64 t_17.2.at_), (.int .u64 t_17.2.seed.v)], 65⟩], q15, [⟨b11, [(.int .i64 t_7.1.Level), s8.v, s9.v, (.int .i64 t_7.1.Sum)], 29⟩], q8, [⟨b5, [(.int .i64 0), nilS.v, nilS.v, (.int .i64 0)], 29⟩], [⟨b4, [s2.v], 26⟩]] := hS.sel [4, 0, 1, 2, 3, 5, 6] (by decide)
             have hSo := hS
             refine e_opl rfl rfl rfl fun _ hK => wp_storeE (e' := t_17.1) (us := [(.int .i64 t_17.1)]) (vs := [(.int .i64 e_19)]) 0 hF hS h9 sz3 rfl rfl rfl rfl rfl rfl rfl he_19 at20 rfl rfl rfl fun w q21 hS h21 => hK _ _ (⟨kpC hSo hS 3 3 rfl rfl kpN, ?_⟩)
             refine e_end (by kernel_rfl) (n_jn ?_) _
             obtain rfl := someI hj11
             exact ⟨q21, _, _, rfl, hF.sub ⟨rfl, rfl, trivial⟩, hS.sel [4, 0, 1, 3, 5] (by decide), h18, (hk18.trans (hk14.trans hk10)), h8, h21⟩
           ·rintro a w ⟨q26, p_c_22, t_24, rfl, hF, hS, h23, h23k, h25, h26⟩
            refine n_jn ?_
            obtain rfl := someI hj9
            exact ⟨q26, _, _, rfl, hF.sub ⟨rfl, rfl, trivial⟩, hS, h23, h23k, h25, h26⟩
         ·rintro a w ⟨q31, p_c_27, t_29, rfl, hF, hS, h28, h28k, h30, h31⟩
          refine n_jn ?_
          obtain rfl := someI hj7
          exact ⟨q31, _, _, rfl, hF.sub ⟨rfl, rfl, trivial⟩, hS, h28, h28k, h30, h31⟩
        ·have hj7 := cond_t hc8 hj7
         refine q_cond_t hF rfl hc8 (q_region (q_x (v := (.pointer (some ⟨b_p_c, 0, none⟩))) hF hS (ex_move rfl) rfl rfl fun a hF => q_do rfl fun _ hK => wp_buildSlice' (l := ([-2, 3, 6] : List Int)) (cells := [(.int .i64 (-2)), (.int .i64 3), (.int .i64 6)]) hF hS Try.underlying24 inf3 rfl rfl (by kernel_rfl) rfl rfl rfl ⟨rfl, rfl, rfl, rfl⟩ rfl rfl fun a w q32 s32 hF hS h32 _ => hK _ _ ?_))
         have hS : St _ _ _ _ [[⟨b_p_c, [s1.v, (.int .i64 t_13.2.at_), (.int .u64 t_13.2.seed.v)], 65⟩], q32, [⟨b11, [(.int .i64 t_7.1.Level), s8.v, s9.v, (.int .i64 t_7.1.Sum)], 29⟩], q8, q9, [⟨b5, [(.int .i64 0), nilS.v, nilS.v, (.int .i64 0)], 29⟩], [⟨b4, [s2.v], 26⟩]] := hS.sel [1, 0, 2, 3, 4, 5, 6] (by decide)
         have hS33 : St _ _ _ _ ([[⟨b_p_c, [s1.v, (.int .i64 t_13.2.at_), (.int .u64 t_13.2.seed.v)], 65⟩]] ++ [q32, [⟨b11, [(.int .i64 t_7.1.Level), s8.v, s9.v, (.int .i64 t_7.1.Sum)], 29⟩], q8, q9, [⟨b5, [(.int .i64 0), nilS.v, nilS.v, (.int .i64 0)], 29⟩], [⟨b4, [s2.v], 26⟩]]) := hS
         obtain ⟨m33, hl33, hE33, hz33⟩ := hS33.lendX
         obtain ⟨t_34, ht_34, hj7⟩ := bindS hj7
         refine q_do rfl fun _ hK => wp_callX (vs := [(.pointer (some ⟨b_p_c, 0, none⟩)), s32.v]) hF Try.func77 (by kernel_rfl) rfl rfl rfl (c_spec_l1Cur_among t_13.2 ([-2, 3, 6] : List Int) t_34 ht_34 _ m33 b_p_c s1 (h14.mono hl33) s32 (h32.froz hl33 (hz33 0 _ rfl)) _ hE33) fun a w _ hR hF => hK _ _ ?_
         obtain ⟨rfl, hR33, hk35⟩ := hR
         have hS : St _ _ _ _ [[⟨b_p_c, [s1.v, (.int .i64 t_34.2.at_), (.int .u64 t_34.2.seed.v)], 65⟩], q32, [⟨b11, [(.int .i64 t_7.1.Level), s8.v, s9.v, (.int .i64 t_7.1.Sum)], 29⟩], q8, q9, [⟨b5, [(.int .i64 0), nilS.v, nilS.v, (.int .i64 0)], 29⟩], [⟨b4, [s2.v], 26⟩]] := hS33.leaveF hR33
         have h35 : Rd m s1 t_34.2.code := by rw [hk35]; exact h14
         refine q_x (v := (.pointer (some ⟨b11, 3, none⟩))) hF hS (ex_fieldAddr Try.underlying29 rfl sz3 rfl rfl) rfl rfl fun a hF => q_store (vs := [(.int .i64 t_34.1)]) (cs' := [(.int .i64 t_7.1.Level), s8.v, s9.v, (.int .i64 t_34.1)]) 2 0 hF hS sz3 rfl rfl rfl rfl rfl rfl rfl rfl fun a w hF hS => q_end (n_jn ?_)
         obtain rfl := someI hj7
         exact ⟨q9, _, _, rfl, hF.sub ⟨rfl, rfl, trivial⟩, hS.sel [3, 4, 0, 2, 5] (by decide), h35, (hk35.trans (hk14.trans hk10)), h8, h9⟩
       ·rintro a w ⟨q40, p_c_36, t_38, rfl, hF, hS, h37, h37k, h39, h40⟩
        refine n_jn ?_
        obtain rfl := someI hj5
        exact ⟨q40, s9, _, _, rfl, hF.sub ⟨rfl, rfl, trivial⟩, hS, h37, h37k, h39, h40⟩
      ·have hj5 := cond_t hc6 hj5
       refine q_cond_t hF rfl hc6 (q_region (q_x (v := (.pointer (some ⟨b11, 2, none⟩))) hF hS (ex_fieldAddr Try.underlying29 rfl sz24 rfl rfl) rfl rfl fun a hF => q_x (v := s9.v) hF hS (ex_load1 1 0 Try.underlying24 rfl rfl rfl rfl) rfl rfl fun a hF => q_do rfl fun _ hK => wp_buildSlice' (l := ([0] : List Int)) (cells := [(.int .i64 0)]) hF hS Try.underlying24 inf3 rfl rfl (by kernel_rfl) rfl rfl rfl ⟨rfl, rfl⟩ rfl rfl fun a w q41 s41 hF hS h41 _ => hK _ _ ?_))
       have hS : St _ _ _ _ [q9, q41, [⟨b_p_c, [s1.v, (.int .i64 t_13.2.at_), (.int .u64 t_13.2.seed.v)], 65⟩], [⟨b11, [(.int .i64 t_7.1.Level), s8.v, s9.v, (.int .i64 t_7.1.Sum)], 29⟩], q8, [⟨b5, [(.int .i64 0), nilS.v, nilS.v, (.int .i64 0)], 29⟩], [⟨b4, [s2.v], 26⟩]] := hS.sel [4, 0, 1, 2, 3, 5, 6] (by decide)
       obtain ⟨l_42, hl_42, hj5⟩ := bindS hj5
       refine q_do rfl fun _ hK => wp_append hF hS h9 Try.underlying24 inf3 rfl rfl rfl rfl (h41.vw hS (j := 1) rfl) rfl (by decide) hl_42 rfl fun a w q43 s43 hF hS h43 => hK _ _ (q_x (v := (.pointer (some ⟨b11, 2, none⟩))) hF hS (ex_fieldAddr Try.underlying29 rfl sz24 rfl rfl) rfl rfl fun a hF => q_store (vs := [s43.v]) (cs' := [(.int .i64 t_7.1.Level), s8.v, s43.v, (.int .i64 t_7.1.Sum)]) 3 0 hF hS sz24 rfl rfl rfl rfl rfl rfl rfl rfl fun a w hF hS => q_end (n_jn ?_))
       obtain rfl := someI hj5
       exact ⟨q43, s43, _, _, rfl, hF.sub ⟨rfl, rfl, trivial⟩, hS.sel [4, 0, 2, 3, 5] (by decide), h14, (hk14.trans hk10), h8, h43⟩
     ·rintro a w ⟨q48, s48, p_c_44, t_46, rfl, hF, hS, h45, h45k, h47, h48⟩
      refine n_jn ?_
      obtain rfl := someI hj3
      exact ⟨q8, s8, q48, s48, _, _, rfl, hF.sub ⟨rfl, rfl, trivial⟩, hS, h45, h45k, h47, h48⟩
    ·have hj3 := cond_t hc4 hj3
     refine q_cond_t hF rfl hc4 ?_
     obtain ⟨j13, hj13, hj3⟩ := bindS hj3
     refine q_join (fun a w => ∃ (q60 : Piece), ∃ (s60 : Sl), ∃ p_c_57, ∃ t_59, j13 = (p_c_57, t_59) ∧ Fr a 56 [(6, (.pointer (some ⟨b5, 0, none⟩))), (7, (.pointer (some ⟨b11, 0, none⟩)))] ∧ St X w0 w m [q60, q9, [⟨b_p_c, [s1.v, (.int .i64 p_c_57.at_), (.int .u64 p_c_57.seed.v)], 65⟩], [⟨b11, [(.int .i64 t_59.Level), s60.v, s9.v, (.int .i64 t_59.Sum)], 29⟩], [⟨b5, [(.int .i64 0), nilS.v, nilS.v, (.int .i64 0)], 29⟩]] ∧ Rd m s1 p_c_57.code ∧ p_c_57.code = p_c.code ∧ OwnL m 3 q60 s60 t_59.Vars ∧ OwnL m 3 q9 s9 t_59.Where) ?_ ?_
     ·refine e_region ⟨[4, 6, 8], []⟩ mixed fun w' hw' => ?_
      have hS := hS.below hw'
      refine e_p (v := (.pointer (some ⟨b11, 1, none⟩))) 0 hF rfl (ex_fieldAddr Try.underlying29 rfl sz24 rfl rfl) rfl rfl (by kernel_rfl) (by kernel_rfl) (by kernel_rfl) fun a hF => e_p (v := (.pointer (some ⟨b_p_c, 0, none⟩))) 2 hF rfl (ex_move rfl) rfl rfl (by kernel_rfl) (by kernel_rfl) (by kernel_rfl) fun a hF => ?_
      obtain ⟨t_52, ht_52, hj13⟩ := bindS hj13
      obtain ⟨l_55, hl_55, hj13⟩ := bindS hj13
      refine e_all [1, 3] (by kernel_rfl) rfl ⟨?_, ?_, trivial⟩
      ·refine e_lx (v := s8.v) hF hS rfl (ex_load1 1 0 Try.underlying24 rfl rfl rfl rfl) rfl rfl fun a hF => e_one 3 (by kernel_rfl) (e_op rfl rfl fun _ hK => wp_buildSlice' (l := ([-1, 0, 6] : List Int)) (cells := [(.int .i64 (-1)), (.int .i64 0), (.int .i64 6)]) hF hS Try.underlying24 inf3 rfl rfl (by kernel_rfl) rfl rfl rfl ⟨rfl, rfl, rfl, rfl⟩ rfl rfl fun a w q50 s50 hF hS h50 hb => hK _ _ hb (e_one 4 (by kernel_rfl) ?_))
       have hS : St _ _ _ _ [[⟨b_p_c, [s1.v, (.int .i64 t_13.2.at_), (.int .u64 t_13.2.seed.v)], 65⟩], q50, [⟨b11, [(.int .i64 t_7.1.Level), s8.v, s9.v, (.int .i64 t_7.1.Sum)], 29⟩], q8, q9, [⟨b5, [(.int .i64 0), nilS.v, nilS.v, (.int .i64 0)], 29⟩], [⟨b4, [s2.v], 26⟩]] := hS.sel [1, 0, 2, 3, 4, 5, 6] (by decide)
       have hS51 : St _ _ _ _ ([[⟨b_p_c, [s1.v, (.int .i64 t_13.2.at_), (.int .u64 t_13.2.seed.v)], 65⟩]] ++ [q50, [⟨b11, [(.int .i64 t_7.1.Level), s8.v, s9.v, (.int .i64 t_7.1.Sum)], 29⟩], q8, q9, [⟨b5, [(.int .i64 0), nilS.v, nilS.v, (.int .i64 0)], 29⟩], [⟨b4, [s2.v], 26⟩]]) := hS
       obtain ⟨m51, hl51, hE51, hz51⟩ := hS51.lendX
       refine e_opl rfl rfl rfl fun _ hK => wp_callX (vs := [(.pointer (some ⟨b_p_c, 0, none⟩)), s50.v]) hF Try.func77 (by kernel_rfl) rfl rfl rfl (c_spec_l1Cur_among t_13.2 ([-1, 0, 6] : List Int) t_52 ht_52 _ m51 b_p_c s1 (h14.mono hl51) s50 (h50.froz hl51 (hz51 0 _ rfl)) _ hE51) fun a w _ hR hF => hK _ _ ?_
       obtain ⟨rfl, hR51, hk53⟩ := hR
       have hS : St _ _ _ _ [[⟨b_p_c, [s1.v, (.int .i64 t_52.2.at_), (.int .u64 t_52.2.seed.v)], 65⟩], q50, [⟨b11, [(.int .i64 t_7.1.Level), s8.v, s9.v, (.int .i64 t_7.1.Sum)], 29⟩], q8, q9, [⟨b5, [(.int .i64 0), nilS.v, nilS.v, (.int .i64 0)], 29⟩], [⟨b4, [s2.v], 26⟩]] := hS51.leaveF hR51
       have h53 : Rd m s1 t_52.2.code := by rw [hk53]; exact h14
       refine ⟨kpN, ?_⟩
       refine e_one 5 (by kernel_rfl) (e_op rfl rfl fun _ hK => wp_buildSlice' (l := ([t_52.1] : List Int)) (cells := [(.int .i64 t_52.1)]) hF hS Try.underlying24 inf3 rfl rfl (by kernel_rfl) rfl rfl rfl ⟨rfl, rfl⟩ rfl rfl fun a w q54 s54 hF hS h54 hb => hK _ _ hb (e_one 6 (by kernel_rfl) ?_))
       have hS : St _ _ _ _ [q8, q54, [⟨b_p_c, [s1.v, (.int .i64 t_52.2.at_), (.int .u64 t_52.2.seed.v)], 65⟩], q50, [⟨b11, [(.int .i64 t_7.1.Level), s8.v, s9.v, (.int .i64 t_7.1.Sum)], 29⟩], q9, [⟨b5, [(.int .i64 0), nilS.v, nilS.v, (.int .i64 0)], 29⟩], [⟨b4, [s2.v], 26⟩]] := hS.sel [4, 0, 1, 2, 3, 5, 6, 7] (by decide)
       refine e_opl rfl rfl rfl fun _ hK => wp_append hF hS h8 Try.underlying24 inf3 rfl rfl rfl rfl (h54.vw hS (j := 1) rfl) rfl (by decide) hl_55 rfl fun a w q56 s56 hF hS h56 => hK _ _ (⟨kpN, ?_⟩)
       refine e_p (v := (.pointer (some ⟨b11, 1, none⟩))) 7 hF rfl (ex_fieldAddr Try.underlying29 rfl sz24 rfl rfl) rfl rfl (by kernel_rfl) (by kernel_rfl) (by kernel_rfl) fun a hF => e_one 8 (by kernel_rfl) (e_store (vs := [s56.v]) (cs' := [(.int .i64 t_7.1.Level), s56.v, s9.v, (.int .i64 t_7.1.Sum)]) 4 0 hF hS rfl rfl sz24 rfl rfl rfl rfl rfl rfl rfl rfl fun a w hF hS => ⟨kpN, ?_⟩)
       refine e_end (by kernel_rfl) (n_jn ?_) _
       obtain rfl := someI hj13
       exact ⟨q56, s56, _, _, rfl, hF.sub ⟨rfl, rfl, trivial⟩, hS.sel [0, 5, 2, 4, 6] (by decide), h53, (hk53.trans (hk14.trans hk10)), h56, h9⟩
      ·refine e_op rfl rfl fun _ hK => wp_buildSlice' (l := ([-1, 0, 6] : List Int)) (cells := [(.int .i64 (-1)), (.int .i64 0), (.int .i64 6)]) hF hS Try.underlying24 inf3 rfl rfl (by kernel_rfl) rfl rfl rfl ⟨rfl, rfl, rfl, rfl⟩ rfl rfl fun a w q50 s50 hF hS h50 hb => hK _ _ hb (e_all [1, 4] (by kernel_rfl) rfl ⟨?_, ?_, trivial⟩)
       ·refine e_lx (v := s8.v) hF hS rfl (ex_load1 2 0 Try.underlying24 rfl rfl rfl rfl) rfl rfl fun a hF => e_one 4 (by kernel_rfl) ?_
        have hS : St _ _ _ _ [[⟨b_p_c, [s1.v, (.int .i64 t_13.2.at_), (.int .u64 t_13.2.seed.v)], 65⟩], q50, [⟨b11, [(.int .i64 t_7.1.Level), s8.v, s9.v, (.int .i64 t_7.1.Sum)], 29⟩], q8, q9, [⟨b5, [(.int .i64 0), nilS.v, nilS.v, (.int .i64 0)], 29⟩], [⟨b4, [s2.v], 26⟩]] := hS.sel [1, 0, 2, 3, 4, 5, 6] (by decide)
        have hS51 : St _ _ _ _ ([[⟨b_p_c, [s1.v, (.int .i64 t_13.2.at_), (.int .u64 t_13.2.seed.v)], 65⟩]] ++ [q50, [⟨b11, [(.int .i64 t_7.1.Level), s8.v, s9.v, (.int .i64 t_7.1.Sum)], 29⟩], q8, q9, [⟨b5, [(.int .i64 0), nilS.v, nilS.v, (.int .i64 0)], 29⟩], [⟨b4, [s2.v], 26⟩]]) := hS
        obtain ⟨m51, hl51, hE51, hz51⟩ := hS51.lendX
        refine e_opl rfl rfl rfl fun _ hK => wp_callX (vs := [(.pointer (some ⟨b_p_c, 0, none⟩)), s50.v]) hF Try.func77 (by kernel_rfl) rfl rfl rfl (c_spec_l1Cur_among t_13.2 ([-1, 0, 6] : List Int) t_52 ht_52 _ m51 b_p_c s1 (h14.mono hl51) s50 (h50.froz hl51 (hz51 0 _ rfl)) _ hE51) fun a w _ hR hF => hK _ _ ?_
        obtain ⟨rfl, hR51, hk53⟩ := hR
        have hS : St _ _ _ _ [[⟨b_p_c, [s1.v, (.int .i64 t_52.2.at_), (.int .u64 t_52.2.seed.v)], 65⟩], q50, [⟨b11, [(.int .i64 t_7.1.Level), s8.v, s9.v, (.int .i64 t_7.1.Sum)], 29⟩], q8, q9, [⟨b5, [(.int .i64 0), nilS.v, nilS.v, (.int .i64 0)], 29⟩], [⟨b4, [s2.v], 26⟩]] := hS51.leaveF hR51
        have h53 : Rd m s1 t_52.2.code := by rw [hk53]; exact h14
        refine ⟨kpN, ?_⟩
        refine e_one 5 (by kernel_rfl) (e_op rfl rfl fun _ hK => wp_buildSlice' (l := ([t_52.1] : List Int)) (cells := [(.int .i64 t_52.1)]) hF hS Try.underlying24 inf3 rfl rfl (by kernel_rfl) rfl rfl rfl ⟨rfl, rfl⟩ rfl rfl fun a w q54 s54 hF hS h54 hb => hK _ _ hb (e_one 6 (by kernel_rfl) ?_))
        have hS : St _ _ _ _ [q8, q54, [⟨b_p_c, [s1.v, (.int .i64 t_52.2.at_), (.int .u64 t_52.2.seed.v)], 65⟩], q50, [⟨b11, [(.int .i64 t_7.1.Level), s8.v, s9.v, (.int .i64 t_7.1.Sum)], 29⟩], q9, [⟨b5, [(.int .i64 0), nilS.v, nilS.v, (.int .i64 0)], 29⟩], [⟨b4, [s2.v], 26⟩]] := hS.sel [4, 0, 1, 2, 3, 5, 6, 7] (by decide)
        refine e_opl rfl rfl rfl fun _ hK => wp_append hF hS h8 Try.underlying24 inf3 rfl rfl rfl rfl (h54.vw hS (j := 1) rfl) rfl (by decide) hl_55 rfl fun a w q56 s56 hF hS h56 => hK _ _ (⟨kpN, ?_⟩)
        refine e_p (v := (.pointer (some ⟨b11, 1, none⟩))) 7 hF rfl (ex_fieldAddr Try.underlying29 rfl sz24 rfl rfl) rfl rfl (by kernel_rfl) (by kernel_rfl) (by kernel_rfl) fun a hF => e_one 8 (by kernel_rfl) (e_store (vs := [s56.v]) (cs' := [(.int .i64 t_7.1.Level), s56.v, s9.v, (.int .i64 t_7.1.Sum)]) 4 0 hF hS rfl rfl sz24 rfl rfl rfl rfl rfl rfl rfl rfl fun a w hF hS => ⟨kpN, ?_⟩)
        refine e_end (by kernel_rfl) (n_jn ?_) _
        obtain rfl := someI hj13
        exact ⟨q56, s56, _, _, rfl, hF.sub ⟨rfl, rfl, trivial⟩, hS.sel [0, 5, 2, 4, 6] (by decide), h53, (hk53.trans (hk14.trans hk10)), h56, h9⟩
       ·have hS : St _ _ _ _ [[⟨b_p_c, [s1.v, (.int .i64 t_13.2.at_), (.int .u64 t_13.2.seed.v)], 65⟩], q50, [⟨b11, [(.int .i64 t_7.1.Level), s8.v, s9.v, (.int .i64 t_7.1.Sum)], 29⟩], q8, q9, [⟨b5, [(.int .i64 0), nilS.v, nilS.v, (.int .i64 0)], 29⟩], [⟨b4, [s2.v], 26⟩]] := hS.sel [1, 0, 2, 3, 4, 5, 6] (by decide)
        have hS51 : St _ _ _ _ ([[⟨b_p_c, [s1.v, (.int .i64 t_13.2.at_), (.int .u64 t_13.2.seed.v)], 65⟩]] ++ [q50, [⟨b11, [(.int .i64 t_7.1.Level), s8.v, s9.v, (.int .i64 t_7.1.Sum)], 29⟩], q8, q9, [⟨b5, [(.int .i64 0), nilS.v, nilS.v, (.int .i64 0)], 29⟩], [⟨b4, [s2.v], 26⟩]]) := hS
        obtain ⟨m51, hl51, hE51, hz51⟩ := hS51.lendX
        refine e_opl rfl rfl rfl fun _ hK => wp_callX (vs := [(.pointer (some ⟨b_p_c, 0, none⟩)), s50.v]) hF Try.func77 (by kernel_rfl) rfl rfl rfl (c_spec_l1Cur_among t_13.2 ([-1, 0, 6] : List Int) t_52 ht_52 _ m51 b_p_c s1 (h14.mono hl51) s50 (h50.froz hl51 (hz51 0 _ rfl)) _ hE51) fun a w _ hR hF => hK _ _ ?_
        obtain ⟨rfl, hR51, hk53⟩ := hR
        have hS : St _ _ _ _ [[⟨b_p_c, [s1.v, (.int .i64 t_52.2.at_), (.int .u64 t_52.2.seed.v)], 65⟩], q50, [⟨b11, [(.int .i64 t_7.1.Level), s8.v, s9.v, (.int .i64 t_7.1.Sum)], 29⟩], q8, q9, [⟨b5, [(.int .i64 0), nilS.v, nilS.v, (.int .i64 0)], 29⟩], [⟨b4, [s2.v], 26⟩]] := hS51.leaveF hR51
        have h53 : Rd m s1 t_52.2.code := by rw [hk53]; exact h14
        refine ⟨kpN, ?_⟩
        refine e_x (v := s8.v) 1 hF hS rfl (ex_load1 2 0 Try.underlying24 rfl rfl rfl rfl) rfl rfl (by kernel_rfl) (by kernel_rfl) (by kernel_rfl) (by kernel_rfl) fun a hF => e_one 5 (by kernel_rfl) (e_op rfl rfl fun _ hK => wp_buildSlice' (l := ([t_52.1] : List Int)) (cells := [(.int .i64 t_52.1)]) hF hS Try.underlying24 inf3 rfl rfl (by kernel_rfl) rfl rfl rfl ⟨rfl, rfl⟩ rfl rfl fun a w q54 s54 hF hS h54 hb => hK _ _ hb (e_one 6 (by kernel_rfl) ?_))
        have hS : St _ _ _ _ [q8, q54, [⟨b_p_c, [s1.v, (.int .i64 t_52.2.at_), (.int .u64 t_52.2.seed.v)], 65⟩], q50, [⟨b11, [(.int .i64 t_7.1.Level), s8.v, s9.v, (.int .i64 t_7.1.Sum)], 29⟩], q9, [⟨b5, [(.int .i64 0), nilS.v, nilS.v, (.int .i64 0)], 29⟩], [⟨b4, [s2.v], 26⟩]] := hS.sel [4, 0, 1, 2, 3, 5, 6, 7] (by decide)
        refine e_opl rfl rfl rfl fun _ hK => wp_append hF hS h8 Try.underlying24 inf3 rfl rfl rfl rfl (h54.vw hS (j := 1) rfl) rfl (by decide) hl_55 rfl fun a w q56 s56 hF hS h56 => hK _ _ (⟨kpN, ?_⟩)
        refine e_p (v := (.pointer (some ⟨b11, 1, none⟩))) 7 hF rfl (ex_fieldAddr Try.underlying29 rfl sz24 rfl rfl) rfl rfl (by kernel_rfl) (by kernel_rfl) (by kernel_rfl) fun a hF => e_one 8 (by kernel_rfl) (e_store (vs := [s56.v]) (cs' := [(.int .i64 t_7.1.Level), s56.v, s9.v, (.int .i64 t_7.1.Sum)]) 4 0 hF hS rfl rfl sz24 rfl rfl rfl rfl rfl rfl rfl rfl fun a w hF hS => ⟨kpN, ?_⟩)
        refine e_end (by kernel_rfl) (n_jn ?_) _
        obtain rfl := someI hj13
        exact ⟨q56, s56, _, _, rfl, hF.sub ⟨rfl, rfl, trivial⟩, hS.sel [0, 5, 2, 4, 6] (by decide), h53, (hk53.trans (hk14.trans hk10)), h56, h9⟩
     ·rintro a w ⟨q60, s60, p_c_57, t_59, rfl, hF, hS, h58, h58k, h60, h61⟩
      refine n_jn ?_
      obtain rfl := someI hj3
      exact ⟨q60, s60, q9, s9, _, _, rfl, hF.sub ⟨rfl, rfl, trivial⟩, hS, h58, h58k, h60, h61⟩
   ·rintro a w ⟨q65, s65, q66, s66, p_c_62, t_64, rfl, hF, hS, h63, h63k, h65, h66⟩
    refine n_jn ?_
    obtain rfl := someI hj1
    exact ⟨q65, s65, q66, s66, _, _, rfl, hF.sub ⟨rfl, rfl, trivial⟩, hS, h63, h63k, h65, h66⟩
  ·have hj1 := cond_t hc2 hj1
   refine q_cond_t hF rfl hc2 (q_region (q_x (v := (.pointer (some ⟨b_p_c, 0, none⟩))) hF hS (ex_move rfl) rfl rfl fun a hF => q_do rfl fun _ hK => wp_buildSlice' (l := ([-1, 3, 4] : List Int)) (cells := [(.int .i64 (-1)), (.int .i64 3), (.int .i64 4)]) hF hS Try.underlying24 inf3 rfl rfl (by kernel_rfl) rfl rfl rfl ⟨rfl, rfl, rfl, rfl⟩ rfl rfl fun a w q67 s67 hF hS h67 _ => hK _ _ ?_))
   have hS : St _ _ _ _ [[⟨b_p_c, [s1.v, (.int .i64 t_13.2.at_), (.int .u64 t_13.2.seed.v)], 65⟩], q67, [⟨b11, [(.int .i64 t_7.1.Level), s8.v, s9.v, (.int .i64 t_7.1.Sum)], 29⟩], q8, q9, [⟨b5, [(.int .i64 0), nilS.v, nilS.v, (.int .i64 0)], 29⟩], [⟨b4, [s2.v], 26⟩]] := hS.sel [1, 0, 2, 3, 4, 5, 6] (by decide)
   have hS68 : St _ _ _ _ ([[⟨b_p_c, [s1.v, (.int .i64 t_13.2.at_), (.int .u64 t_13.2.seed.v)], 65⟩]] ++ [q67, [⟨b11, [(.int .i64 t_7.1.Level), s8.v, s9.v, (.int .i64 t_7.1.Sum)], 29⟩], q8, q9, [⟨b5, [(.int .i64 0), nilS.v, nilS.v, (.int .i64 0)], 29⟩], [⟨b4, [s2.v], 26⟩]]) := hS
   obtain ⟨m68, hl68, hE68, hz68⟩ := hS68.lendX
   obtain ⟨t_69, ht_69, hj1⟩ := bindS hj1
   refine q_do rfl fun _ hK => wp_callX (vs := [(.pointer (some ⟨b_p_c, 0, none⟩)), s67.v]) hF Try.func77 (by kernel_rfl) rfl rfl rfl (c_spec_l1Cur_among t_13.2 ([-1, 3, 4] : List Int) t_69 ht_69 _ m68 b_p_c s1 (h14.mono hl68) s67 (h67.froz hl68 (hz68 0 _ rfl)) _ hE68) fun a w _ hR hF => hK _ _ ?_
   obtain ⟨rfl, hR68, hk70⟩ := hR
   have hS : St _ _ _ _ [[⟨b_p_c, [s1.v, (.int .i64 t_69.2.at_), (.int .u64 t_69.2.seed.v)], 65⟩], q67, [⟨b11, [(.int .i64 t_7.1.Level), s8.v, s9.v, (.int .i64 t_7.1.Sum)], 29⟩], q8, q9, [⟨b5, [(.int .i64 0), nilS.v, nilS.v, (.int .i64 0)], 29⟩], [⟨b4, [s2.v], 26⟩]] := hS68.leaveF hR68
   have h70 : Rd m s1 t_69.2.code := by rw [hk70]; exact h14
   refine q_x (v := (.pointer (some ⟨b11, 0, none⟩))) hF hS (ex_fieldAddr Try.underlying29 rfl sz3 rfl rfl) rfl rfl fun a hF => q_store (vs := [(.int .i64 t_69.1)]) (cs' := [(.int .i64 t_69.1), s8.v, s9.v, (.int .i64 t_7.1.Sum)]) 2 0 hF hS sz3 rfl rfl rfl rfl rfl rfl rfl rfl fun a w hF hS => q_end (n_jn ?_)
   obtain rfl := someI hj1
   exact ⟨q8, s8, q9, s9, _, _, rfl, hF.sub ⟨rfl, rfl, trivial⟩, hS.sel [3, 4, 0, 2, 5] (by decide), h70, (hk70.trans (hk14.trans hk10)), h8, h9⟩
 ·rintro a w ⟨q74, s74, q75, s75, p_c_71, t_73, rfl, hF, hS, h72, h72k, h74, h75⟩
  refine n_ib (n_sq ?_)
  refine q_seq (q_region (q_x (v := (.agg #[(.int .i64 t_73.Level), s74.v, s75.v, (.int .i64 t_73.Sum)])) hF hS (ex_loadA (vs := [(.int .i64 t_73.Level), s74.v, s75.v, (.int .i64 t_73.Sum)]) 3 0 Try.underlying29 rfl sz29 rfl rfl rfl rfl) rfl rfl fun a hF => q_store (vs := [(.int .i64 t_73.Level), s74.v, s75.v, (.int .i64 t_73.Sum)]) (cs' := [(.int .i64 t_73.Level), s74.v, s75.v, (.int .i64 t_73.Sum)]) 4 0 hF hS sz29 rfl rfl rfl rfl rfl rfl rfl rfl fun a w hF hS => q_end (n_sq (q_ret ?_))))
  obtain rfl := someI hr
  exact ret_ofX hF hS rfl (.cellA (us := [(.int .i64 t_73.Level), s74.v, s75.v, (.int .i64 t_73.Sum)]) 4 0 Try.underlying29 rfl sz29 rfl rfl rfl rfl .nil) ⟨q74, q75, s74, s75, rfl, hS.sel [2, 0, 1] (by decide), h74, h75, h72k⟩

theorem c_spec_l1Cur_tables (p_c : spec_l1Cur) (p_g : impl_Geo) (p_s : List impl_Variable) (r : (List impl_Table) × spec_l1Cur) (hr : spec_l1Cur_tables p_c p_g p_s = some r) (w0 : World) (m : Mem) (b_p_c : Nat) (s1 : Sl) (h1 : Rd m s1 p_c.code) (s2 : Sl) (h2 : Rd m s2 p_g.Parents) (s3 : Sl) (h3 : Rd m s3 p_s) (X : List Nat) (hS : St X w0 w0 m [[⟨b_p_c, [s1.v, (.int .i64 p_c.at_), (.int .u64 p_c.seed.v)], 65⟩]]) :
  RetX Try.prog 98 [(.pointer (some ⟨b_p_c, 0, none⟩)), (.agg #[s2.v]), s3.v] w0 (fun v w => ∃ (m' : Mem) (q0' : Piece) (s0' : Sl), v = s0'.v ∧ MLe X w0.heap.size m m' ∧ St X w0 w m' [[⟨b_p_c, [s1.v, (.int .i64 r.2.at_), (.int .u64 r.2.seed.v)], 65⟩], q0'] ∧ OwnL m' 29 q0' s0' r.1 ∧ r.2.code = p_c.code) := by
 unfold spec_l1Cur_tables at hr
 refine ret_startX Try.func98 rfl 49 rfl rfl fun a hF => q_seq (q_region (q_box (cs := [s2.v]) hF hS rfl rfl rfl fun a w b4 hF hS => q_x (v := nilS.v) hF hS (ex_assign rfl) rfl rfl fun a hF => q_end (n_sq (q_seq (q_region (q_x (v := nilS.v) hF hS (ex_assign rfl) rfl rfl fun a hF => q_end (n_sq (q_seq (q_seq (q_region (q_x (v := (.pointer (some ⟨b_p_c, 0, none⟩))) hF hS (ex_move rfl) rfl rfl fun a hF => ?_)))))))))))
 have hS : St _ _ _ _ [[⟨b_p_c, [s1.v, (.int .i64 p_c.at_), (.int .u64 p_c.seed.v)], 65⟩], [⟨b4, [s2.v], 26⟩]] := hS.sel [1, 0] (by decide)
 have hS5 : St _ _ _ _ ([[⟨b_p_c, [s1.v, (.int .i64 p_c.at_), (.int .u64 p_c.seed.v)], 65⟩]] ++ [[⟨b4, [s2.v], 26⟩]]) := hS
 have hE5 := hS5.enter
 obtain ⟨t_6, ht_6, hr⟩ := bindS hr
 refine q_do rfl fun _ hK => wp_callX (vs := [(.pointer (some ⟨b_p_c, 0, none⟩)), (.int .i64 5)]) hF Try.func53 (by kernel_rfl) rfl rfl rfl (c_spec_l1Cur_pick p_c 5 t_6 ht_6 _ m b_p_c s1 h1 _ hE5) fun a w _ hR hF => hK _ _ ?_
 obtain ⟨rfl, hR5, hk7⟩ := hR
 have hS : St _ _ _ _ [[⟨b_p_c, [s1.v, (.int .i64 t_6.2.at_), (.int .u64 t_6.2.seed.v)], 65⟩], [⟨b4, [s2.v], 26⟩]] := hS5.leaveF hR5
 have h7 : Rd m s1 t_6.2.code := by rw [hk7]; exact h1
 refine q_x (v := (.int .i64 t_6.1)) hF hS (ex_assign rfl) rfl rfl fun a hF => q_end (n_sq (q_block ?_))
 obtain ⟨o1, hl1, hr⟩ := bindS hr
 refine q_loop (fun (s : (List impl_Table) × Int × spec_l1Cur) a w => ∃ (m13 : Mem), ∃ (q9 : Piece), ∃ (s9 : Sl), ∃ l_8, ∃ k_10, ∃ p_c_11, s = (l_8, k_10, p_c_11) ∧ Fr a 49 [(0, (.pointer (some ⟨b_p_c, 0, none⟩))), (2, s3.v), (4, (.pointer (some ⟨b4, 0, none⟩))), (7, s9.v), (8, (.int .i64 k_10))] ∧ St X w0 w m13 [q9, [⟨b_p_c, [s1.v, (.int .i64 p_c_11.at_), (.int .u64 p_c_11.seed.v)], 65⟩], [⟨b4, [s2.v], 26⟩]] ∧ MLe X w0.heap.size m m13 ∧ OwnL m13 29 q9 s9 l_8 ∧ Rd m13 s1 p_c_11.code ∧ p_c_11.code = p_c.code) (fun (o : (List impl_Table) × spec_l1Cur) e a w => ∃ (m28 : Mem), ∃ (q25 : Piece), ∃ (s25 : Sl), ∃ l_24, ∃ p_c_26, o = (l_24, p_c_26) ∧ e = .exit 0 ∧ Fr a 49 [(0, (.pointer (some ⟨b_p_c, 0, none⟩))), (2, s3.v), (4, (.pointer (some ⟨b4, 0, none⟩))), (7, s25.v)] ∧ St X w0 w m28 [q25, [⟨b_p_c, [s1.v, (.int .i64 p_c_26.at_), (.int .u64 p_c_26.seed.v)], 65⟩], [⟨b4, [s2.v], 26⟩]] ∧ MLe X w0.heap.size m m28 ∧ OwnL m28 29 q25 s25 l_24 ∧ Rd m28 s1 p_c_26.code ∧ p_c_26.code = p_c.code) hl1 ⟨m, [], nilS, _, _, _, rfl, hF.sub ⟨rfl, rfl, rfl, rfl, rfl, trivial⟩, hS.sel [2, 0, 1] (by decide), (MLe.refl _ _), (OwnL.nil (α := impl_Table) m 29), h7, hk7⟩ ?_ ?_
 ·clear hF hS
  rintro s a w st ⟨m13, q9, s9, l_8, k_10, p_c_11, rfl, hF, hS, hm13, h9, h12, h12k⟩ hb1
  unfold spec_l1Cur_tables_l1 at hb1
  refine q_seq (q_seq (q_region (q_x (v := (.int .i64 k_10)) hF hS (ex_move rfl) rfl rfl fun a hF => q_x (v := (.bool (decide (0 < k_10)))) hF hS (ex_ibin rfl rfl rfl) rfl rfl fun a hF => q_end (n_sq ?_))))
  rcases bcase (decide (0 < k_10)) with hc2 | hc2
  ·have hb1 := cond_f hc2 hb1
   refine q_cond_f hF rfl hc2 (q_exit (x_sq ?_))
   obtain rfl := someI hb1
   exact ⟨nofun, .inl ⟨m13, q9, s9, _, _, rfl, rfl, hF.sub ⟨rfl, rfl, rfl, rfl, trivial⟩, hS, hm13, h9, h12, h12k⟩⟩
  ·have hb1 := cond_t hc2 hb1
   refine q_cond_t hF rfl hc2 (q_skipc (n_sq (q_seq (q_block (q_region (q_x (v := s9.v) hF hS (ex_move rfl) rfl rfl fun a hF => q_x (v := (.pointer (some ⟨b_p_c, 0, none⟩))) hF hS (ex_move rfl) rfl rfl fun a hF => q_x (v := (.agg #[s2.v])) hF hS (ex_loadA (vs := [s2.v]) 2 0 Try.underlying26 rfl sz26 rfl rfl rfl rfl) rfl rfl fun a hF => q_x (v := s3.v) hF hS (ex_move rfl) rfl rfl fun a hF => ?_))))))
   have hS : St _ _ _ _ [[⟨b_p_c, [s1.v, (.int .i64 p_c_11.at_), (.int .u64 p_c_11.seed.v)], 65⟩], q9, [⟨b4, [s2.v], 26⟩]] := hS.sel [1, 0, 2] (by decide)
   have hS14 : St _ _ _ _ ([[⟨b_p_c, [s1.v, (.int .i64 p_c_11.at_), (.int .u64 p_c_11.seed.v)], 65⟩]] ++ [q9, [⟨b4, [s2.v], 26⟩]]) := hS
   have hE14 := hS14.enter
   obtain ⟨t_15, ht_15, hb1⟩ := bindS hb1
   refine q_do rfl fun _ hK => wp_callX (vs := [(.pointer (some ⟨b_p_c, 0, none⟩)), (.agg #[s2.v]), s3.v]) hF Try.func76 (by kernel_rfl) rfl rfl rfl (c_spec_l1Cur_table p_c_11 p_g p_s t_15 ht_15 _ m13 b_p_c s1 h12 s2 (h2.mono hm13.le) s3 (h3.mono hm13.le) _ hE14) fun a w _ hR hF => hK _ _ ?_
   obtain ⟨q16, q17, s16, s17, rfl, hR14, h16, h17, hk18⟩ := hR
   have hS : St _ _ _ _ [[⟨b_p_c, [s1.v, (.int .i64 t_15.2.at_), (.int .u64 t_15.2.seed.v)], 65⟩], q16, q17, q9, [⟨b4, [s2.v], 26⟩]] := hS14.leaveF hR14
   have h18 : Rd m13 s1 t_15.2.code := by rw [hk18]; exact h12
   have hS : St _ _ _ _ [q16, [⟨b_p_c, [s1.v, (.int .i64 t_15.2.at_), (.int .u64 t_15.2.seed.v)], 65⟩], q17, q9, [⟨b4, [s2.v], 26⟩]] := hS.sel [1, 0, 2, 3, 4] (by decide)
   obtain ⟨m20, hm20, hS, hz20⟩ := hS.freeze
   have h20 := h16.froz hm20.le hz20
   have hS : St _ _ _ _ [q17, [⟨b_p_c, [s1.v, (.int .i64 t_15.2.at_), (.int .u64 t_15.2.seed.v)], 65⟩], q9, [⟨b4, [s2.v], 26⟩]] := hS.sel [1, 0, 2, 3] (by decide)
   obtain ⟨m21, hm21, hS, hz21⟩ := hS.freeze
   have h21 := (h17.mono hm20.le).froz hm21.le hz21
   refine q_do rfl fun _ hK => wp_buildSlice' (l := ([t_15.1] : List impl_Table)) (cells := [(.int .i64 t_15.1.Level), s16.v, s17.v, (.int .i64 t_15.1.Sum)]) hF hS Try.underlying37 inf29 rfl rfl (by kernel_rfl) rfl rfl rfl ⟨⟨s16, s17, rfl, (h20.mono hm21.le), h21⟩, rfl⟩ rfl rfl fun a w q19 s19 hF hS h19 _ => hK _ _ ?_
   have hS : St _ _ _ _ [q9, q19, [⟨b_p_c, [s1.v, (.int .i64 t_15.2.at_), (.int .u64 t_15.2.seed.v)], 65⟩], [⟨b4, [s2.v], 26⟩]] := hS.sel [2, 0, 1, 3] (by decide)
   obtain ⟨l_22, hl_22, hb1⟩ := bindS hb1
   refine q_do rfl fun _ hK => wp_append hF hS ((h9.mono hm20.le).mono hm21.le) Try.underlying37 inf29 rfl rfl rfl rfl (h19.vw hS (j := 1) rfl) rfl (by decide) hl_22 rfl fun a w q23 s23 hF hS h23 => hK _ _ (q_x (v := s23.v) hF hS (ex_assign rfl) rfl rfl fun a hF => q_end (n_ib (n_sq (q_region (q_x (v := (.int .i64 k_10)) hF hS (ex_move rfl) rfl rfl fun a hF => q_x (v := (.int .i64 (w64 (k_10 - 1)))) hF hS (ex_ibin rfl rfl rfl) rfl rfl fun a hF => q_x (v := (.int .i64 (w64 (k_10 - 1)))) hF hS (ex_assign rfl) rfl rfl fun a hF => q_end ?_)))))
   obtain rfl := someI hb1
   exact ⟨rfl, m21, q23, s23, _, _, _, rfl, hF.sub ⟨rfl, rfl, rfl, rfl, rfl, trivial⟩, hS.mask [true, false, true, true], ((hm13.trans hm20).trans hm21), h23, ((h18.mono hm20.le).mono hm21.le), (hk18.trans h12k)⟩
 ·rintro e a w ⟨m28, q25, s25, l_24, p_c_26, rfl, rfl, hF, hS, hm28, h25, h27, h27k⟩
  refine x_ib (n_sq ?_)
  refine q_seq (q_seq (q_region (q_x (v := (.pointer (some ⟨b_p_c, 0, none⟩))) hF hS (ex_move rfl) rfl rfl fun a hF => ?_)))
  have hS : St _ _ _ _ [[⟨b_p_c, [s1.v, (.int .i64 p_c_26.at_), (.int .u64 p_c_26.seed.v)], 65⟩], q25, [⟨b4, [s2.v], 26⟩]] := hS.sel [1, 0, 2] (by decide)
  have hS29 : St _ _ _ _ ([[⟨b_p_c, [s1.v, (.int .i64 p_c_26.at_), (.int .u64 p_c_26.seed.v)], 65⟩]] ++ [q25, [⟨b4, [s2.v], 26⟩]]) := hS
  have hE29 := hS29.enter
  obtain ⟨t_30, ht_30, hr⟩ := bindS hr
  refine q_do rfl fun _ hK => wp_callX (vs := [(.pointer (some ⟨b_p_c, 0, none⟩)), (.int .i64 30)]) hF Try.func53 (by kernel_rfl) rfl rfl rfl (c_spec_l1Cur_pick p_c_26 30 t_30 ht_30 _ m28 b_p_c s1 h27 _ hE29) fun a w _ hR hF => hK _ _ ?_
  obtain ⟨rfl, hR29, hk31⟩ := hR
  have hS : St _ _ _ _ [[⟨b_p_c, [s1.v, (.int .i64 t_30.2.at_), (.int .u64 t_30.2.seed.v)], 65⟩], q25, [⟨b4, [s2.v], 26⟩]] := hS29.leaveF hR29
  have h31 : Rd m28 s1 t_30.2.code := by rw [hk31]; exact h27
  refine q_end (n_sq (q_block (q_seq (q_region (q_x (v := (.bool (t_30.1 == 0))) hF hS (ex_ibin rfl rfl rfl) rfl rfl fun a hF => q_x (v := (.bool (t_30.1 == 0))) hF hS (ex_assign rfl) rfl rfl fun a hF => q_end (n_sq ?_))))))
  obtain ⟨j3, hj3, hr⟩ := bindS hr
  refine q_join (fun a w => ∃ (m74 : Mem), ∃ (q71 : Piece), ∃ (s71 : Sl), ∃ l_70, ∃ p_c_72, j3 = (l_70, p_c_72) ∧ Fr a 49 [(7, s71.v)] ∧ St X w0 w m74 [q71, [⟨b_p_c, [s1.v, (.int .i64 p_c_72.at_), (.int .u64 p_c_72.seed.v)], 65⟩]] ∧ MLe X w0.heap.size m28 m74 ∧ OwnL m74 29 q71 s71 l_70 ∧ Rd m74 s1 p_c_72.code ∧ p_c_72.code = p_c.code) ?_ ?_
  ·rcases bcase (t_30.1 == 0) with hc4 | hc4
   ·have hj3 := cond_f hc4 hj3
    refine q_cond_f hF rfl hc4 (q_seq (q_region (q_x (v := (.bool (t_30.1 == 1))) hF hS (ex_ibin rfl rfl rfl) rfl rfl fun a hF => q_x (v := (.bool (t_30.1 == 1))) hF hS (ex_assign rfl) rfl rfl fun a hF => q_end (n_sq ?_))))
    obtain ⟨j5, hj5, hj3⟩ := bindS hj3
    refine q_join (fun a w => ∃ (m46 : Mem), ∃ (q43 : Piece), ∃ (s43 : Sl), ∃ l_42, ∃ p_c_44, j5 = (l_42, p_c_44) ∧ Fr a 49 [(7, s43.v)] ∧ St X w0 w m46 [q43, [⟨b_p_c, [s1.v, (.int .i64 p_c_44.at_), (.int .u64 p_c_44.seed.v)], 65⟩]] ∧ MLe X w0.heap.size m28 m46 ∧ OwnL m46 29 q43 s43 l_42 ∧ Rd m46 s1 p_c_44.code ∧ p_c_44.code = p_c.code) ?_ ?_
    ·rcases bcase (t_30.1 == 1) with hc6 | hc6
     ·have hj5 := cond_f hc6 hj5
      refine q_cond_f hF rfl hc6 (q_skipc (n_jn ?_))
      obtain rfl := someI hj5
      exact ⟨m28, q25, s25, _, _, rfl, hF.sub ⟨rfl, trivial⟩, hS.sel [1, 0] (by decide), (MLe.refl _ _), h25, h31, (hk31.trans h27k)⟩
     ·have hj5 := cond_t hc6 hj5
      refine q_cond_t hF rfl hc6 (q_region (q_x (v := s25.v) hF hS (ex_move rfl) rfl rfl fun a hF => q_x (v := (.pointer (some ⟨b_p_c, 0, none⟩))) hF hS (ex_move rfl) rfl rfl fun a hF => q_x (v := (.agg #[s2.v])) hF hS (ex_loadA (vs := [s2.v]) 2 0 Try.underlying26 rfl sz26 rfl rfl rfl rfl) rfl rfl fun a hF => q_x (v := s3.v) hF hS (ex_move rfl) rfl rfl fun a hF => ?_))
      have hS32 : St _ _ _ _ ([[⟨b_p_c, [s1.v, (.int .i64 t_30.2.at_), (.int .u64 t_30.2.seed.v)], 65⟩]] ++ [q25, [⟨b4, [s2.v], 26⟩]]) := hS
      have hE32 := hS32.enter
      obtain ⟨t_33, ht_33, hj5⟩ := bindS hj5
      refine q_do rfl fun _ hK => wp_callX (vs := [(.pointer (some ⟨b_p_c, 0, none⟩)), (.agg #[s2.v]), s3.v]) hF Try.func41 (by kernel_rfl) rfl rfl rfl (c_spec_l1Cur_anyTable t_30.2 p_g p_s t_33 ht_33 _ m28 b_p_c s1 h31 s2 (h2.mono hm28.le) s3 (h3.mono hm28.le) _ hE32) fun a w _ hR hF => hK _ _ ?_
      obtain ⟨q34, q35, s34, s35, rfl, hR32, h34, h35, hk36⟩ := hR
      have hS : St _ _ _ _ [[⟨b_p_c, [s1.v, (.int .i64 t_33.2.at_), (.int .u64 t_33.2.seed.v)], 65⟩], q34, q35, q25, [⟨b4, [s2.v], 26⟩]] := hS32.leaveF hR32
      have h36 : Rd m28 s1 t_33.2.code := by rw [hk36]; exact h31
      have hS : St _ _ _ _ [q34, [⟨b_p_c, [s1.v, (.int .i64 t_33.2.at_), (.int .u64 t_33.2.seed.v)], 65⟩], q35, q25, [⟨b4, [s2.v], 26⟩]] := hS.sel [1, 0, 2, 3, 4] (by decide)
      obtain ⟨m38, hm38, hS, hz38⟩ := hS.freeze
      have h38 := h34.froz hm38.le hz38
      have hS : St _ _ _ _ [q35, [⟨b_p_c, [s1.v, (.int .i64 t_33.2.at_), (.int .u64 t_33.2.seed.v)], 65⟩], q25, [⟨b4, [s2.v], 26⟩]] := hS.sel [1, 0, 2, 3] (by decide)
      obtain ⟨m39, hm39, hS, hz39⟩ := hS.freeze
      have h39 := (h35.mono hm38.le).froz hm39.le hz39
      refine q_do rfl fun _ hK => wp_buildSlice' (l := ([t_33.1] : List impl_Table)) (cells := [(.int .i64 t_33.1.Level), s34.v, s35.v, (.int .i64 t_33.1.Sum)]) hF hS Try.underlying37 inf29 rfl rfl (by kernel_rfl) rfl rfl rfl ⟨⟨s34, s35, rfl, (h38.mono hm39.le), h39⟩, rfl⟩ rfl rfl fun a w q37 s37 hF hS h37 _ => hK _ _ ?_
      have hS : St _ _ _ _ [q25, q37, [⟨b_p_c, [s1.v, (.int .i64 t_33.2.at_), (.int .u64 t_33.2.seed.v)], 65⟩], [⟨b4, [s2.v], 26⟩]] := hS.sel [2, 0, 1, 3] (by decide)
      obtain ⟨l_40, hl_40, hj5⟩ := bindS hj5
      refine q_do rfl fun _ hK => wp_append hF hS ((h25.mono hm38.le).mono hm39.le) Try.underlying37 inf29 rfl rfl rfl rfl (h37.vw hS (j := 1) rfl) rfl (by decide) hl_40 rfl fun a w q41 s41 hF hS h41 => hK _ _ (q_x (v := s41.v) hF hS (ex_assign rfl) rfl rfl fun a hF => q_end (n_jn ?_))
      obtain rfl := someI hj5
      exact ⟨m39, q41, s41, _, _, rfl, hF.sub ⟨rfl, trivial⟩, hS.mask [true, false, true, false], (hm38.trans hm39), h41, ((h36.mono hm38.le).mono hm39.le), (hk36.trans (hk31.trans h27k))⟩
    ·rintro a w ⟨m46, q43, s43, l_42, p_c_44, rfl, hF, hS, hm46, h43, h45, h45k⟩
     refine n_jn ?_
     obtain rfl := someI hj3
     exact ⟨m46, q43, s43, _, _, rfl, hF.sub ⟨rfl, trivial⟩, hS, hm46, h43, h45, h45k⟩
   ·have hj3 := cond_t hc4 hj3
    refine q_cond_t hF rfl hc4 (q_block ?_)
    obtain ⟨o7, hl7, hj3⟩ := bindS hj3
    refine q_loop (fun (s : (List impl_Table) × spec_l1Cur) a w => ∃ (m51 : Mem), ∃ (q48 : Piece), ∃ (s48 : Sl), ∃ l_47, ∃ p_c_49, s = (l_47, p_c_49) ∧ Fr a 49 [(0, (.pointer (some ⟨b_p_c, 0, none⟩))), (2, s3.v), (4, (.pointer (some ⟨b4, 0, none⟩))), (7, s48.v)] ∧ St X w0 w m51 [q48, [⟨b_p_c, [s1.v, (.int .i64 p_c_49.at_), (.int .u64 p_c_49.seed.v)], 65⟩], [⟨b4, [s2.v], 26⟩]] ∧ MLe X w0.heap.size m28 m51 ∧ OwnL m51 29 q48 s48 l_47 ∧ Rd m51 s1 p_c_49.code ∧ p_c_49.code = p_c.code) (fun (o : (List impl_Table) × spec_l1Cur) e a w => ∃ (m69 : Mem), ∃ (q66 : Piece), ∃ (s66 : Sl), ∃ l_65, ∃ p_c_67, o = (l_65, p_c_67) ∧ e = .exit 3 ∧ Fr a 49 [(7, s66.v)] ∧ St X w0 w m69 [q66, [⟨b_p_c, [s1.v, (.int .i64 p_c_67.at_), (.int .u64 p_c_67.seed.v)], 65⟩]] ∧ MLe X w0.heap.size m28 m69 ∧ OwnL m69 29 q66 s66 l_65 ∧ Rd m69 s1 p_c_67.code ∧ p_c_67.code = p_c.code) hl7 ⟨m28, q25, s25, _, _, rfl, hF.sub ⟨rfl, rfl, rfl, rfl, trivial⟩, hS.sel [1, 0, 2] (by decide), (MLe.refl _ _), h25, h31, (hk31.trans h27k)⟩ ?_ ?_
    ·clear hF hS
     rintro s a w st ⟨m51, q48, s48, l_47, p_c_49, rfl, hF, hS, hm51, h48, h50, h50k⟩ hb7
     unfold spec_l1Cur_tables_l2 at hb7
     refine q_seq (q_seq (q_region (q_x (v := s48.v) hF hS (ex_move rfl) rfl rfl fun a hF => q_x (v := (.int .i64 (goLen l_47))) hF hS (ex_len Try.underlying37 rfl h48.len) rfl rfl fun a hF => q_x (v := (.pointer (some ⟨b_p_c, 0, none⟩))) hF hS (ex_move rfl) rfl rfl fun a hF => ?_)))
     have hS : St _ _ _ _ [[⟨b_p_c, [s1.v, (.int .i64 p_c_49.at_), (.int .u64 p_c_49.seed.v)], 65⟩], q48, [⟨b4, [s2.v], 26⟩]] := hS.sel [1, 0, 2] (by decide)
     have hS52 : St _ _ _ _ ([[⟨b_p_c, [s1.v, (.int .i64 p_c_49.at_), (.int .u64 p_c_49.seed.v)], 65⟩]] ++ [q48, [⟨b4, [s2.v], 26⟩]]) := hS
     have hE52 := hS52.enter
     obtain ⟨t_53, ht_53, hb7⟩ := bindS hb7
     refine q_do rfl fun _ hK => wp_callX (vs := [(.pointer (some ⟨b_p_c, 0, none⟩)), (.int .i64 2)]) hF Try.func53 (by kernel_rfl) rfl rfl rfl (c_spec_l1Cur_pick p_c_49 2 t_53 ht_53 _ m51 b_p_c s1 h50 _ hE52) fun a w _ hR hF => hK _ _ ?_
     obtain ⟨rfl, hR52, hk54⟩ := hR
     have hS : St _ _ _ _ [[⟨b_p_c, [s1.v, (.int .i64 t_53.2.at_), (.int .u64 t_53.2.seed.v)], 65⟩], q48, [⟨b4, [s2.v], 26⟩]] := hS52.leaveF hR52
     have h54 : Rd m51 s1 t_53.2.code := by rw [hk54]; exact h50
     refine q_x (v := (.int .i64 (w64 (20 + t_53.1)))) hF hS (ex_ibin rfl rfl rfl) rfl rfl fun a hF => q_x (v := (.bool (decide ((goLen l_47) < (w64 (20 + t_53.1)))))) hF hS (ex_ibin rfl rfl rfl) rfl rfl fun a hF => q_end (n_sq ?_)
     rcases bcase (decide ((goLen l_47) < (w64 (20 + t_53.1)))) with hc8 | hc8
     ·have hb7 := cond_f hc8 hb7
      refine q_cond_f hF rfl hc8 (q_exit (x_sq ?_))
      obtain rfl := someI hb7
      exact ⟨nofun, .inl ⟨m51, q48, s48, _, _, rfl, rfl, hF.sub ⟨rfl, trivial⟩, hS.sel [1, 0] (by decide), hm51, h48, h54, (hk54.trans h50k)⟩⟩
     ·have hb7 := cond_t hc8 hb7
      refine q_cond_t hF rfl hc8 (q_skipc (n_sq (q_block (q_region (q_x (v := s48.v) hF hS (ex_move rfl) rfl rfl fun a hF => q_x (v := (.pointer (some ⟨b_p_c, 0, none⟩))) hF hS (ex_move rfl) rfl rfl fun a hF => q_x (v := (.agg #[s2.v])) hF hS (ex_loadA (vs := [s2.v]) 2 0 Try.underlying26 rfl sz26 rfl rfl rfl rfl) rfl rfl fun a hF => q_x (v := s3.v) hF hS (ex_move rfl) rfl rfl fun a hF => ?_)))))
      have hS55 : St _ _ _ _ ([[⟨b_p_c, [s1.v, (.int .i64 t_53.2.at_), (.int .u64 t_53.2.seed.v)], 65⟩]] ++ [q48, [⟨b4, [s2.v], 26⟩]]) := hS
      have hE55 := hS55.enter
      obtain ⟨t_56, ht_56, hb7⟩ := bindS hb7
      refine q_do rfl fun _ hK => wp_callX (vs := [(.pointer (some ⟨b_p_c, 0, none⟩)), (.agg #[s2.v]), s3.v]) hF Try.func76 (by kernel_rfl) rfl rfl rfl (c_spec_l1Cur_table t_53.2 p_g p_s t_56 ht_56 _ m51 b_p_c s1 h54 s2 ((h2.mono hm28.le).mono hm51.le) s3 ((h3.mono hm28.le).mono hm51.le) _ hE55) fun a w _ hR hF => hK _ _ ?_
      obtain ⟨q57, q58, s57, s58, rfl, hR55, h57, h58, hk59⟩ := hR
      have hS : St _ _ _ _ [[⟨b_p_c, [s1.v, (.int .i64 t_56.2.at_), (.int .u64 t_56.2.seed.v)], 65⟩], q57, q58, q48, [⟨b4, [s2.v], 26⟩]] := hS55.leaveF hR55
      have h59 : Rd m51 s1 t_56.2.code := by rw [hk59]; exact h54
      have hS : St _ _ _ _ [q57, [⟨b_p_c, [s1.v, (.int .i64 t_56.2.at_), (.int .u64 t_56.2.seed.v)], 65⟩], q58, q48, [⟨b4, [s2.v], 26⟩]] := hS.sel [1, 0, 2, 3, 4] (by decide)
      obtain ⟨m61, hm61, hS, hz61⟩ := hS.freeze
      have h61 := h57.froz hm61.le hz61
      have hS : St _ _ _ _ [q58, [⟨b_p_c, [s1.v, (.int .i64 t_56.2.at_), (.int .u64 t_56.2.seed.v)], 65⟩], q48, [⟨b4, [s2.v], 26⟩]] := hS.sel [1, 0, 2, 3] (by decide)
      obtain ⟨m62, hm62, hS, hz62⟩ := hS.freeze
      have h62 := (h58.mono hm61.le).froz hm62.le hz62
      refine q_do rfl fun _ hK => wp_buildSlice' (l := ([t_56.1] : List impl_Table)) (cells := [(.int .i64 t_56.1.Level), s57.v, s58.v, (.int .i64 t_56.1.Sum)]) hF hS Try.underlying37 inf29 rfl rfl (by kernel_rfl) rfl rfl rfl ⟨⟨s57, s58, rfl, (h61.mono hm62.le), h62⟩, rfl⟩ rfl rfl fun a w q60 s60 hF hS h60 _ => hK _ _ ?_
      have hS : St _ _ _ _ [q48, q60, [⟨b_p_c, [s1.v, (.int .i64 t_56.2.at_), (.int .u64 t_56.2.seed.v)], 65⟩], [⟨b4, [s2.v], 26⟩]] := hS.sel [2, 0, 1, 3] (by decide)
      obtain ⟨l_63, hl_63, hb7⟩ := bindS hb7
      refine q_do rfl fun _ hK => wp_append hF hS ((h48.mono hm61.le).mono hm62.le) Try.underlying37 inf29 rfl rfl rfl rfl (h60.vw hS (j := 1) rfl) rfl (by decide) hl_63 rfl fun a w q64 s64 hF hS h64 => hK _ _ (q_x (v := s64.v) hF hS (ex_assign rfl) rfl rfl fun a hF => q_end (n_ib ?_))
      obtain rfl := someI hb7
      exact ⟨rfl, m62, q64, s64, _, _, rfl, hF.sub ⟨rfl, rfl, rfl, rfl, trivial⟩, hS.mask [true, false, true, true], ((hm51.trans hm61).trans hm62), h64, ((h59.mono hm61.le).mono hm62.le), (hk59.trans (hk54.trans h50k))⟩
    ·rintro e a w ⟨m69, q66, s66, l_65, p_c_67, rfl, rfl, hF, hS, hm69, h66, h68, h68k⟩
     refine x_ib (n_jn ?_)
     obtain rfl := someI hj3
     exact ⟨m69, q66, s66, _, _, rfl, hF.sub ⟨rfl, trivial⟩, hS, hm69, h66, h68, h68k⟩
  ·rintro a w ⟨m74, q71, s71, l_70, p_c_72, rfl, hF, hS, hm74, h71, h73, h73k⟩
   refine n_ib (n_sq ?_)
   refine q_seq (q_region (q_x (v := s71.v) hF hS (ex_move rfl) rfl rfl fun a hF => q_x (v := s71.v) hF hS (ex_assign rfl) rfl rfl fun a hF => q_end (n_sq (q_ret ?_))))
   obtain rfl := someI hr
   exact ret_ofX hF hS rfl (.tmp rfl .nil) ⟨m74, q71, s71, rfl, (hm28.trans hm74), hS.sel [1, 0] (by decide), h71, h73k⟩

theorem c_spec_DrawPlanText (p_code : List (K .u8)) (r : impl_Geo × (List impl_Variable) × (List impl_Table)) (hr : spec_DrawPlanText p_code = some r) (w0 : World) (m : Mem) (hv : Vis m w0) (s1 : Sl) (h1 : Rd m s1 p_code) :
  Ret Try.prog 74 [s1.v] w0 (fun v w => ∃ (m' : Mem) (q2' : Piece) (s0' : Sl) (s1' : Sl) (s2' : Sl), v = (.tuple #[(.agg #[s0'.v]), s1'.v, s2'.v]) ∧ MLe [] w0.heap.size m m' ∧ St [] w0 w m' [q2'] ∧ Rd m' s0' r.1.Parents ∧ Rd m' s1' r.2.1 ∧ OwnL m' 29 q2' s2' r.2.2) := by
 unfold spec_DrawPlanText at hr
 refine ret_start Try.func74 rfl 24 rfl rfl m hv fun a hF hS => q_seq (q_region (q_alloc (cs := [nilS.v]) hF hS rfl rfl rfl fun a w b2 hF hS => q_x (v := nilS.v) hF hS (ex_assign rfl) rfl rfl fun a hF => q_x (v := nilS.v) hF hS (ex_assign rfl) rfl rfl fun a hF => q_end (n_sq (q_seq (q_region (q_x (v := s1.v) hF hS (ex_move rfl) rfl rfl fun a hF => q_x (v := (.agg #[s1.v, (.int .i64 0), (.int .u64 0)])) hF hS (ex_build (cells := [s1.v, (.int .i64 0), (.int .u64 0)]) rfl (by kernel_rfl)) rfl rfl fun a hF => q_box (cs := [s1.v, (.int .i64 0), (.int .u64 0)]) hF hS rfl rfl rfl fun a w b3 hF hS => q_x (v := (.pointer (some ⟨b3, 0, none⟩))) hF hS (ex_assign rfl) rfl rfl fun a hF => q_end (n_sq (q_seq (q_region (q_x (v := (.pointer (some ⟨b3, 0, none⟩))) hF hS (ex_move rfl) rfl rfl fun a hF => ?_))))))))))
 have hS4 : St _ _ _ _ ([[⟨b3, [s1.v, (.int .i64 0), (.int .u64 0)], 65⟩]] ++ [[⟨b2, [nilS.v], 26⟩]]) := hS
 have hE4 := hS4.enter
 obtain ⟨t_5, ht_5, hr⟩ := bindS hr
 refine q_do rfl fun _ hK => wp_callX (vs := [(.pointer (some ⟨b3, 0, none⟩))]) hF Try.func54 (by kernel_rfl) rfl rfl rfl (c_spec_l1Cur_anySurvey (spec_l1Cur.mk p_code 0 (⟨0⟩ : K .u64)) t_5 ht_5 _ m b3 s1 h1 _ hE4) fun a w _ hR hF => hK _ _ ?_
 obtain ⟨m4', q6, q8, s6, s7, s8, rfl, hm4, hR4, h6, h7, h8, hk9⟩ := hR
 have hS : St _ _ _ _ [[⟨b3, [s1.v, (.int .i64 t_5.2.2.2.at_), (.int .u64 t_5.2.2.2.seed.v)], 65⟩], q6, q8, [⟨b2, [nilS.v], 26⟩]] := hS4.leave hR4 hm4
 have hm4 := MLe.weakX hS4 hm4
 have h9 : Rd m4' s1 t_5.2.2.2.code := by rw [hk9]; exact (h1.mono hm4.le)
 refine q_x (v := (.tuple #[(.agg #[s6.v]), s7.v, s8.v])) hF hS (ex_move rfl) rfl rfl fun a hF => q_x (v := (.agg #[s6.v])) hF hS (ex_extract rfl rfl) rfl rfl fun a hF => q_x (v := s7.v) hF hS (ex_extract rfl rfl) rfl rfl fun a hF => q_x (v := s8.v) hF hS (ex_extract rfl rfl) rfl rfl fun a hF => q_alloc (cs := [nilS.v]) hF hS rfl rfl rfl fun a w b10 hF hS => q_store (vs := [s6.v]) (cs' := [s6.v]) 0 0 hF hS sz26 rfl rfl rfl rfl rfl rfl rfl rfl fun a w hF hS => q_x (v := s7.v) hF hS (ex_assign rfl) rfl rfl fun a hF => q_x (v := s8.v) hF hS (ex_assign rfl) rfl rfl fun a hF => q_end (n_sq (q_seq (e_region ⟨[5, 6], [b10]⟩ mixed fun w' hw' => ?_)))
 have hS := hS.below hw'
 refine e_xb (v := (.agg #[s6.v])) 0 0 hF hS (.head _) rfl rfl (ex_loadA (vs := [s6.v]) 0 0 Try.underlying26 rfl sz26 rfl rfl rfl rfl) rfl rfl (by kernel_rfl) (by kernel_rfl) (by kernel_rfl) fun a hF => e_p (v := s7.v) 1 hF rfl (ex_move rfl) rfl rfl (by kernel_rfl) (by kernel_rfl) (by kernel_rfl) fun a hF => e_p (v := (.pointer (some ⟨b3, 0, none⟩))) 2 hF rfl (ex_move rfl) rfl rfl (by kernel_rfl) (by kernel_rfl) (by kernel_rfl) fun a hF => e_xb (v := (.agg #[s6.v])) 3 0 hF hS (.head _) rfl rfl (ex_loadA (vs := [s6.v]) 0 0 Try.underlying26 rfl sz26 rfl rfl rfl rfl) rfl rfl (by kernel_rfl) (by kernel_rfl) (by kernel_rfl) fun a hF => e_p (v := s7.v) 4 hF rfl (ex_move rfl) rfl rfl (by kernel_rfl) (by kernel_rfl) (by kernel_rfl) fun a hF => e_one 5 (by kernel_rfl) ?_
 have hS : St _ _ _ _ [q6, [⟨b10, [s6.v], 26⟩], [⟨b3, [s1.v, (.int .i64 t_5.2.2.2.at_), (.int .u64 t_5.2.2.2.seed.v)], 65⟩], q8, [⟨b2, [nilS.v], 26⟩]] := hS.sel [2, 0, 1, 3, 4] (by decide)
 obtain ⟨m11, hm11, hS, hz11⟩ := hS.freeze
 have h11 := h6.froz hm11.le hz11
 have hS : St _ _ _ _ [[⟨b3, [s1.v, (.int .i64 t_5.2.2.2.at_), (.int .u64 t_5.2.2.2.seed.v)], 65⟩], [⟨b10, [s6.v], 26⟩], q8, [⟨b2, [nilS.v], 26⟩]] := hS.sel [1, 0, 2, 3] (by decide)
 have hS12 : St _ _ _ _ ([[⟨b3, [s1.v, (.int .i64 t_5.2.2.2.at_), (.int .u64 t_5.2.2.2.seed.v)], 65⟩]] ++ [[⟨b10, [s6.v], 26⟩], q8, [⟨b2, [nilS.v], 26⟩]]) := hS
 have hE12 := hS12.enter
 obtain ⟨t_13, ht_13, hr⟩ := bindS hr
 have hSo := hS
 refine e_opl rfl rfl rfl fun _ hK => wp_callX (vs := [(.pointer (some ⟨b3, 0, none⟩)), (.agg #[s6.v]), s7.v]) hF Try.func98 (by kernel_rfl) rfl rfl rfl (c_spec_l1Cur_tables t_5.2.2.2 t_5.1 t_5.2.1 t_13 ht_13 _ m11 b3 s1 (h9.mono hm11.le) s6 h11 s7 (h7.mono hm11.le) _ hE12) fun a w _ hR hF => hK _ _ ?_
 obtain ⟨m12', q14, s14, rfl, hm12, hR12, h14, hk15⟩ := hR
 have hS : St _ _ _ _ [[⟨b3, [s1.v, (.int .i64 t_13.2.at_), (.int .u64 t_13.2.seed.v)], 65⟩], q14, [⟨b10, [s6.v], 26⟩], q8, [⟨b2, [nilS.v], 26⟩]] := hS12.leave hR12 hm12
 have hm12 := MLe.weakX hS12 hm12
 have h15 : Rd m12' s1 t_13.2.code := by rw [hk15]; exact ((h9.mono hm11.le).mono hm12.le)
 refine ⟨kpC hSo hS 1 2 rfl rfl kpN, ?_⟩
 refine e_one 6 (by kernel_rfl) ?_
 have hSo := hS
 refine e_store (vs := [s6.v]) (cs' := [s6.v]) 4 0 hF hS rfl rfl sz26 rfl rfl rfl rfl rfl rfl rfl rfl fun a w hF hS => ⟨kpC hSo hS 2 2 rfl rfl kpN, ?_⟩
 refine e_p (v := s7.v) 7 hF rfl (ex_assign rfl) rfl rfl (by kernel_rfl) (by kernel_rfl) (by kernel_rfl) fun a hF => e_p (v := s14.v) 8 hF rfl (ex_assign rfl) rfl rfl (by kernel_rfl) (by kernel_rfl) (by kernel_rfl) fun a hF => e_end (by kernel_rfl) (n_sq (q_ret ?_)) _
 obtain rfl := someI hr
 exact ret_of hF hS rfl (.cellA (us := [s6.v]) 4 0 Try.underlying26 rfl sz26 rfl rfl rfl rfl (.tmp rfl (.tmp rfl .nil))) ⟨m12', q14, s6, s7, s14, rfl, ((hm4.trans hm11).trans hm12), hS.sel [1] (by decide), (h11.mono hm12.le), ((h7.mono hm11.le).mono hm12.le), h14⟩

theorem c_spec_nOwn (p_t : impl_Table) (r : impl_Table) (hr : spec_nOwn p_t = some r) (w0 : World) (m : Mem) (hv : Vis m w0) (s1 : Sl) (h1 : Rd m s1 p_t.Vars) (s2 : Sl) (h2 : Rd m s2 p_t.Where) :
  Ret Try.prog 75 [(.agg #[(.int .i64 p_t.Level), s1.v, s2.v, (.int .i64 p_t.Sum)])] w0 (fun v w => ∃ (q0' : Piece) (q1' : Piece) (s0' : Sl) (s1' : Sl), v = (.agg #[(.int .i64 r.Level), s0'.v, s1'.v, (.int .i64 r.Sum)]) ∧ St [] w0 w m [q0', q1'] ∧ OwnL m 3 q0' s0' r.Vars ∧ OwnL m 3 q1' s1' r.Where) := by
 unfold spec_nOwn at hr
 refine ret_start Try.func75 rfl 14 rfl rfl m hv fun a hF hS => q_seq (q_region (q_box (cs := [(.int .i64 p_t.Level), s1.v, s2.v, (.int .i64 p_t.Sum)]) hF hS rfl rfl rfl fun a w b3 hF hS => q_alloc (cs := [(.int .i64 0), nilS.v, nilS.v, (.int .i64 0)]) hF hS rfl rfl rfl fun a w b4 hF hS => q_end (n_sq (q_seq (e_region ⟨[11], [b3]⟩ mixed fun w' hw' => ?_)))))
 have hS := hS.below hw'
 refine e_p (v := (.pointer (some ⟨b3, 0, none⟩))) 0 hF rfl (ex_fieldAddr Try.underlying29 rfl sz3 rfl rfl) rfl rfl (by kernel_rfl) (by kernel_rfl) (by kernel_rfl) fun a hF => e_xb (v := (.int .i64 p_t.Level)) 1 1 hF hS (.head _) rfl rfl (ex_load1 0 0 Try.underlying3 rfl rfl rfl rfl) rfl rfl (by kernel_rfl) (by kernel_rfl) (by kernel_rfl) fun a hF => e_p (v := (.pointer (some ⟨b3, 1, none⟩))) 2 hF rfl (ex_fieldAddr Try.underlying29 rfl sz24 rfl rfl) rfl rfl (by kernel_rfl) (by kernel_rfl) (by kernel_rfl) fun a hF => e_xb (v := s1.v) 3 1 hF hS (.head _) rfl rfl (ex_load1 0 0 Try.underlying24 rfl rfl rfl rfl) rfl rfl (by kernel_rfl) (by kernel_rfl) (by kernel_rfl) fun a hF => e_p (v := (.pointer (some ⟨b3, 2, none⟩))) 5 hF rfl (ex_fieldAddr Try.underlying29 rfl sz24 rfl rfl) rfl rfl (by kernel_rfl) (by kernel_rfl) (by kernel_rfl) fun a hF => e_xb (v := s2.v) 6 1 hF hS (.head _) rfl rfl (ex_load1 0 0 Try.underlying24 rfl rfl rfl rfl) rfl rfl (by kernel_rfl) (by kernel_rfl) (by kernel_rfl) fun a hF => e_p (v := (.pointer (some ⟨b3, 3, none⟩))) 8 hF rfl (ex_fieldAddr Try.underlying29 rfl sz3 rfl rfl) rfl rfl (by kernel_rfl) (by kernel_rfl) (by kernel_rfl) fun a hF => e_xb (v := (.int .i64 p_t.Sum)) 9 1 hF hS (.head _) rfl rfl (ex_load1 0 0 Try.underlying3 rfl rfl rfl rfl) rfl rfl (by kernel_rfl) (by kernel_rfl) (by kernel_rfl) fun a hF => e_one 4 (by kernel_rfl) ?_
 obtain ⟨t_17, ht_17, hr⟩ := bindS hr
 refine e_call (vs := [s1.v]) hF hS rfl Try.func68 (by kernel_rfl) rfl rfl rfl (c_spec_l1Own p_t.Vars t_17 ht_17 _ m hS.vis s1 h1) ?_
 rintro a w _ ⟨q19, s19, rfl, hR18, h19⟩ hF hS2
 have hS : St _ _ _ _ [q19, [⟨b4, [(.int .i64 0), nilS.v, nilS.v, (.int .i64 0)], 29⟩], [⟨b3, [(.int .i64 p_t.Level), s1.v, s2.v, (.int .i64 p_t.Sum)], 29⟩]] := hS.joinF hR18
 refine e_one 7 (by kernel_rfl) ?_
 obtain ⟨t_20, ht_20, hr⟩ := bindS hr
 refine e_call (vs := [s2.v]) hF hS rfl Try.func68 (by kernel_rfl) rfl rfl rfl (c_spec_l1Own p_t.Where t_20 ht_20 _ m hS.vis s2 h2) ?_
 rintro a w _ ⟨q22, s22, rfl, hR21, h22⟩ hF hS2
 have hS : St _ _ _ _ [q22, q19, [⟨b4, [(.int .i64 0), nilS.v, nilS.v, (.int .i64 0)], 29⟩], [⟨b3, [(.int .i64 p_t.Level), s1.v, s2.v, (.int .i64 p_t.Sum)], 29⟩]] := hS.joinF hR21
 refine e_p (v := (.agg #[(.int .i64 p_t.Level), s19.v, s22.v, (.int .i64 p_t.Sum)])) 10 hF rfl (ex_build (cells := [(.int .i64 p_t.Level), s19.v, s22.v, (.int .i64 p_t.Sum)]) rfl (by kernel_rfl)) rfl rfl (by kernel_rfl) (by kernel_rfl) (by kernel_rfl) fun a hF => e_one 11 (by kernel_rfl) ?_
 have hSo := hS
 refine e_store (vs := [(.int .i64 p_t.Level), s19.v, s22.v, (.int .i64 p_t.Sum)]) (cs' := [(.int .i64 p_t.Level), s19.v, s22.v, (.int .i64 p_t.Sum)]) 2 0 hF hS rfl rfl sz29 rfl rfl rfl rfl rfl rfl rfl rfl fun a w hF hS => ⟨kpC hSo hS 3 3 rfl rfl kpN, ?_⟩
 refine e_end (by kernel_rfl) (n_sq (q_ret ?_)) _
 obtain rfl := someI hr
 exact ret_of hF hS rfl (.cellA (us := [(.int .i64 p_t.Level), s19.v, s22.v, (.int .i64 p_t.Sum)]) 2 0 Try.underlying29 rfl sz29 rfl rfl rfl rfl .nil) ⟨q19, q22, s19, s22, rfl, hS.sel [1, 0] (by decide), h19, h22⟩

theorem c_spec_l1Cur_below (p_c : spec_l1Cur) (p_g : impl_Geo) (p_s : List impl_Variable) (p_u : impl_Table) (r : impl_Table × spec_l1Cur) (hr : spec_l1Cur_below p_c p_g p_s p_u = some r) (w0 : World) (m : Mem) (b_p_c : Nat) (s1 : Sl) (h1 : Rd m s1 p_c.code) (s2 : Sl) (h2 : Rd m s2 p_g.Parents) (s3 : Sl) (h3 : Rd m s3 p_s) (s4 : Sl) (h4 : Rd m s4 p_u.Vars) (s5 : Sl) (h5 : Rd m s5 p_u.Where) (X : List Nat) (hS : St X w0 w0 m [[⟨b_p_c, [s1.v, (.int .i64 p_c.at_), (.int .u64 p_c.seed.v)], 65⟩]]) :
  RetX Try.prog 40 [(.pointer (some ⟨b_p_c, 0, none⟩)), (.agg #[s2.v]), s3.v, (.agg #[(.int .i64 p_u.Level), s4.v, s5.v, (.int .i64 p_u.Sum)])] w0 (fun v w => ∃ (q0' : Piece) (q1' : Piece) (s0' : Sl) (s1' : Sl), v = (.agg #[(.int .i64 r.1.Level), s0'.v, s1'.v, (.int .i64 r.1.Sum)]) ∧ St X w0 w m [[⟨b_p_c, [s1.v, (.int .i64 r.2.at_), (.int .u64 r.2.seed.v)], 65⟩], q0', q1'] ∧ OwnL m 3 q0' s0' r.1.Vars ∧ OwnL m 3 q1' s1' r.1.Where ∧ r.2.code = p_c.code) := by
 unfold spec_l1Cur_below at hr
 refine ret_startX Try.func40 rfl 89 rfl rfl fun a hF => q_seq (q_region (q_box (cs := [s2.v]) hF hS rfl rfl rfl fun a w b6 hF hS => q_box (cs := [(.int .i64 p_u.Level), s4.v, s5.v, (.int .i64 p_u.Sum)]) hF hS rfl rfl rfl fun a w b7 hF hS => q_alloc (cs := [(.int .i64 0), nilS.v, nilS.v, (.int .i64 0)]) hF hS rfl rfl rfl fun a w b8 hF hS => q_end (n_sq (q_seq (q_region (q_x (v := (.agg #[(.int .i64 p_u.Level), s4.v, s5.v, (.int .i64 p_u.Sum)])) hF hS (ex_loadA (vs := [(.int .i64 p_u.Level), s4.v, s5.v, (.int .i64 p_u.Sum)]) 1 0 Try.underlying29 rfl sz29 rfl rfl rfl rfl) rfl rfl fun a hF => ?_))))))
 obtain ⟨t_9, ht_9, hr⟩ := bindS hr
 refine q_call (vs := [(.agg #[(.int .i64 p_u.Level), s4.v, s5.v, (.int .i64 p_u.Sum)])]) hF hS Try.func75 (by kernel_rfl) rfl rfl rfl (c_spec_nOwn p_u t_9 ht_9 _ m hS.vis s4 h4 s5 h5) ?_
 rintro a w _ ⟨q11, q12, s11, s12, rfl, hR10, h11, h12⟩ hF hS2
 have hS : St _ _ _ _ [q11, q12, [⟨b8, [(.int .i64 0), nilS.v, nilS.v, (.int .i64 0)], 29⟩], [⟨b7, [(.int .i64 p_u.Level), s4.v, s5.v, (.int .i64 p_u.Sum)], 29⟩], [⟨b6, [s2.v], 26⟩], [⟨b_p_c, [s1.v, (.int .i64 p_c.at_), (.int .u64 p_c.seed.v)], 65⟩]] := hS.joinF hR10
 refine q_alloc (cs := [(.int .i64 0), nilS.v, nilS.v, (.int .i64 0)]) hF hS rfl rfl rfl fun a w b13 hF hS => q_store (vs := [(.int .i64 t_9.Level), s11.v, s12.v, (.int .i64 t_9.Sum)]) (cs' := [(.int .i64 t_9.Level), s11.v, s12.v, (.int .i64 t_9.Sum)]) 0 0 hF hS sz29 rfl rfl rfl rfl rfl rfl rfl rfl fun a w hF hS => q_end (n_sq (q_seq (q_seq (q_region (q_x (v := (.pointer (some ⟨b_p_c, 0, none⟩))) hF hS (ex_move rfl) rfl rfl fun a hF => ?_)))))
 have hS : St _ _ _ _ [[⟨b_p_c, [s1.v, (.int .i64 p_c.at_), (.int .u64 p_c.seed.v)], 65⟩], [⟨b13, [(.int .i64 t_9.Level), s11.v, s12.v, (.int .i64 t_9.Sum)], 29⟩], q11, q12, [⟨b8, [(.int .i64 0), nilS.v, nilS.v, (.int .i64 0)], 29⟩], [⟨b7, [(.int .i64 p_u.Level), s4.v, s5.v, (.int .i64 p_u.Sum)], 29⟩], [⟨b6, [s2.v], 26⟩]] := hS.sel [6, 0, 1, 2, 3, 4, 5] (by decide)
 have hS14 : St _ _ _ _ ([[⟨b_p_c, [s1.v, (.int .i64 p_c.at_), (.int .u64 p_c.seed.v)], 65⟩]] ++ [[⟨b13, [(.int .i64 t_9.Level), s11.v, s12.v, (.int .i64 t_9.Sum)], 29⟩], q11, q12, [⟨b8, [(.int .i64 0), nilS.v, nilS.v, (.int .i64 0)], 29⟩], [⟨b7, [(.int .i64 p_u.Level), s4.v, s5.v, (.int .i64 p_u.Sum)], 29⟩], [⟨b6, [s2.v], 26⟩]]) := hS
 have hE14 := hS14.enter
 obtain ⟨t_15, ht_15, hr⟩ := bindS hr
 refine q_do rfl fun _ hK => wp_callX (vs := [(.pointer (some ⟨b_p_c, 0, none⟩)), (.int .i64 2)]) hF Try.func39 (by kernel_rfl) rfl rfl rfl (c_spec_l1Cur_one p_c 2 t_15 ht_15 _ m b_p_c s1 h1 _ hE14) fun a w _ hR hF => hK _ _ ?_
 obtain ⟨rfl, hR14, hk16⟩ := hR
 have hS : St _ _ _ _ [[⟨b_p_c, [s1.v, (.int .i64 t_15.2.at_), (.int .u64 t_15.2.seed.v)], 65⟩], [⟨b13, [(.int .i64 t_9.Level), s11.v, s12.v, (.int .i64 t_9.Sum)], 29⟩], q11, q12, [⟨b8, [(.int .i64 0), nilS.v, nilS.v, (.int .i64 0)], 29⟩], [⟨b7, [(.int .i64 p_u.Level), s4.v, s5.v, (.int .i64 p_u.Sum)], 29⟩], [⟨b6, [s2.v], 26⟩]] := hS14.leaveF hR14
 have h16 : Rd m s1 t_15.2.code := by rw [hk16]; exact h1
 refine q_end (n_sq ?_)
 obtain ⟨j1, hj1, hr⟩ := bindS hr
 refine q_join (fun a w => ∃ p_c_20, ∃ t_22, j1 = (p_c_20, t_22) ∧ Fr a 89 [(0, (.pointer (some ⟨b_p_c, 0, none⟩))), (2, s3.v), (8, (.pointer (some ⟨b8, 0, none⟩))), (9, (.pointer (some ⟨b13, 0, none⟩)))] ∧ St X w0 w m [q11, q12, [⟨b_p_c, [s1.v, (.int .i64 p_c_20.at_), (.int .u64 p_c_20.seed.v)], 65⟩], [⟨b13, [(.int .i64 t_22.Level), s11.v, s12.v, (.int .i64 t_22.Sum)], 29⟩], [⟨b8, [(.int .i64 0), nilS.v, nilS.v, (.int .i64 0)], 29⟩]] ∧ Rd m s1 p_c_20.code ∧ p_c_20.code = p_c.code ∧ OwnL m 3 q11 s11 t_22.Vars ∧ OwnL m 3 q12 s12 t_22.Where) ?_ ?_
 ·rcases bcase (t_15.1) with hc2 | hc2
  ·have hj1 := cond_f hc2 hj1
   refine q_cond_f hF rfl hc2 (q_skipc (n_jn ?_))
   obtain rfl := someI hj1
   exact ⟨_, _, rfl, hF.sub ⟨rfl, rfl, rfl, rfl, trivial⟩, hS.sel [2, 3, 0, 1, 4] (by decide), h16, hk16, h11, h12⟩
  ·have hj1 := cond_t hc2 hj1
   refine q_cond_t hF rfl hc2 (q_region (q_x (v := (.pointer (some ⟨b_p_c, 0, none⟩))) hF hS (ex_move rfl) rfl rfl fun a hF => q_x (v := (.pointer (some ⟨b13, 0, none⟩))) hF hS (ex_fieldAddr Try.underlying29 rfl sz3 rfl rfl) rfl rfl fun a hF => q_x (v := (.int .i64 t_9.Level)) hF hS (ex_load1 1 0 Try.underlying3 rfl rfl rfl rfl) rfl rfl fun a hF => q_x (v := (.int .i64 (w64 (t_9.Level + 1)))) hF hS (ex_ibin rfl rfl rfl) rfl rfl fun a hF => ?_))
   have hS17 : St _ _ _ _ ([[⟨b_p_c, [s1.v, (.int .i64 t_15.2.at_), (.int .u64 t_15.2.seed.v)], 65⟩]] ++ [[⟨b13, [(.int .i64 t_9.Level), s11.v, s12.v, (.int .i64 t_9.Sum)], 29⟩], q11, q12, [⟨b8, [(.int .i64 0), nilS.v, nilS.v, (.int .i64 0)], 29⟩], [⟨b7, [(.int .i64 p_u.Level), s4.v, s5.v, (.int .i64 p_u.Sum)], 29⟩], [⟨b6, [s2.v], 26⟩]]) := hS
   have hE17 := hS17.enter
   obtain ⟨t_18, ht_18, hj1⟩ := bindS hj1
   refine q_do rfl fun _ hK => wp_callX (vs := [(.pointer (some ⟨b_p_c, 0, none⟩)), (.int .i64 (w64 (t_9.Level + 1)))]) hF Try.func53 (by kernel_rfl) rfl rfl rfl (c_spec_l1Cur_pick t_15.2 (w64 (t_9.Level + 1)) t_18 ht_18 _ m b_p_c s1 h16 _ hE17) fun a w _ hR hF => hK _ _ ?_
   obtain ⟨rfl, hR17, hk19⟩ := hR
   have hS : St _ _ _ _ [[⟨b_p_c, [s1.v, (.int .i64 t_18.2.at_), (.int .u64 t_18.2.seed.v)], 65⟩], [⟨b13, [(.int .i64 t_9.Level), s11.v, s12.v, (.int .i64 t_9.Sum)], 29⟩], q11, q12, [⟨b8, [(.int .i64 0), nilS.v, nilS.v, (.int .i64 0)], 29⟩], [⟨b7, [(.int .i64 p_u.Level), s4.v, s5.v, (.int .i64 p_u.Sum)], 29⟩], [⟨b6, [s2.v], 26⟩]] := hS17.leaveF hR17
   have h19 : Rd m s1 t_18.2.code := by rw [hk19]; exact h16
   refine q_x (v := (.pointer (some ⟨b13, 0, none⟩))) hF hS (ex_fieldAddr Try.underlying29 rfl sz3 rfl rfl) rfl rfl fun a hF => q_store (vs := [(.int .i64 t_18.1)]) (cs' := [(.int .i64 t_18.1), s11.v, s12.v, (.int .i64 t_9.Sum)]) 1 0 hF hS sz3 rfl rfl rfl rfl rfl rfl rfl rfl fun a w hF hS => q_end (n_jn ?_)
   obtain rfl := someI hj1
   exact ⟨_, _, rfl, hF.sub ⟨rfl, rfl, rfl, rfl, trivial⟩, hS.sel [2, 3, 0, 1, 4] (by decide), h19, (hk19.trans hk16), h11, h12⟩
 ·rintro a w ⟨p_c_20, t_22, rfl, hF, hS, h21, h21k, h23, h24⟩
  refine n_sq ?_
  refine q_seq (q_region (q_x (v := nilS.v) hF hS (ex_assign rfl) rfl rfl fun a hF => q_end (n_sq (q_seq (q_seq (q_region (q_x (v := (.pointer (some ⟨b13, 1, none⟩))) hF hS (ex_fieldAddr Try.underlying29 rfl sz24 rfl rfl) rfl rfl fun a hF => q_x (v := s11.v) hF hS (ex_load1 3 0 Try.underlying24 rfl rfl rfl rfl) rfl rfl fun a hF => q_x (v := (.int .i64 (goLen t_22.Vars))) hF hS (ex_len Try.underlying24 rfl h23.len) rfl rfl fun a hF => q_x (v := (.int .i64 0)) hF hS (ex_move rfl) rfl rfl fun a hF => q_end (n_sq (q_block ?_)))))))))
  obtain ⟨o3, hl3, hr⟩ := bindS hr
  refine q_loop (fun (s : (List Int) × Int × spec_l1Cur × impl_Table) a w => ∃ (q26 : Piece), ∃ (s26 : Sl), ∃ (q32 : Piece), ∃ vars_25, ∃ t_27, ∃ p_c_28, ∃ t_30, s = (vars_25, t_27, p_c_28, t_30) ∧ Fr a 89 [(0, (.pointer (some ⟨b_p_c, 0, none⟩))), (2, s3.v), (8, (.pointer (some ⟨b8, 0, none⟩))), (9, (.pointer (some ⟨b13, 0, none⟩))), (10, s26.v), (24, s11.v), (25, (.int .i64 (goLen t_22.Vars))), (26, (.int .i64 t_27))] ∧ St X w0 w m [q26, q32, q11, [⟨b_p_c, [s1.v, (.int .i64 p_c_28.at_), (.int .u64 p_c_28.seed.v)], 65⟩], [⟨b13, [(.int .i64 t_30.Level), s11.v, s12.v, (.int .i64 t_30.Sum)], 29⟩], [⟨b8, [(.int .i64 0), nilS.v, nilS.v, (.int .i64 0)], 29⟩]] ∧ OwnL m 3 q26 s26 vars_25 ∧ Rd m s1 p_c_28.code ∧ p_c_28.code = p_c.code ∧ OwnL m 3 q11 s11 t_30.Vars ∧ t_30.Vars = t_22.Vars ∧ OwnL m 3 q32 s12 t_30.Where) (fun (o : (List Int) × spec_l1Cur × impl_Table) e a w => ∃ (q71 : Piece), ∃ (s71 : Sl), ∃ (q76 : Piece), ∃ vars_70, ∃ p_c_72, ∃ t_74, o = (vars_70, p_c_72, t_74) ∧ e = .exit 0 ∧ Fr a 89 [(0, (.pointer (some ⟨b_p_c, 0, none⟩))), (8, (.pointer (some ⟨b8, 0, none⟩))), (9, (.pointer (some ⟨b13, 0, none⟩))), (10, s71.v)] ∧ St X w0 w m [q71, q11, q76, [⟨b_p_c, [s1.v, (.int .i64 p_c_72.at_), (.int .u64 p_c_72.seed.v)], 65⟩], [⟨b13, [(.int .i64 t_74.Level), s11.v, s12.v, (.int .i64 t_74.Sum)], 29⟩], [⟨b8, [(.int .i64 0), nilS.v, nilS.v, (.int .i64 0)], 29⟩]] ∧ OwnL m 3 q71 s71 vars_70 ∧ Rd m s1 p_c_72.code ∧ p_c_72.code = p_c.code ∧ OwnL m 3 q11 s11 t_74.Vars ∧ t_74.Vars = t_22.Vars ∧ OwnL m 3 q76 s12 t_74.Where) hl3 ⟨[], nilS, q12, _, _, _, _, rfl, hF.sub ⟨rfl, rfl, rfl, rfl, rfl, rfl, rfl, rfl, trivial⟩, hS.sel [5, 1, 0, 2, 3, 4] (by decide), (OwnL.nil (α := Int) m 3), h21, h21k, h23, rfl, h24⟩ ?_ ?_
  ·clear hF hS
   rintro s a w st ⟨q26, s26, q32, vars_25, t_27, p_c_28, t_30, rfl, hF, hS, h26, h29, h29k, h31, h31k, h32⟩ hb3
   unfold spec_l1Cur_below_l1 at hb3
   refine q_seq (q_region (q_x (v := (.bool (decide (t_27 < (goLen t_22.Vars))))) hF hS (ex_ibin rfl rfl rfl) rfl rfl fun a hF => q_end (n_sq (q_seq ?_))))
   rcases bcase (decide (t_27 < (goLen t_22.Vars))) with hc4 | hc4
   ·have hb3 := cond_f hc4 hb3
    refine q_cond_f hF rfl hc4 (q_exit (x_sq ?_))
    obtain rfl := someI hb3
    exact ⟨nofun, .inl ⟨q26, s26, q32, _, _, _, rfl, rfl, hF.sub ⟨rfl, rfl, rfl, rfl, trivial⟩, hS.sel [0, 2, 1, 3, 4, 5] (by decide), h26, h29, h29k, h31, h31k, h32⟩⟩
   ·have hb3 := cond_t hc4 hb3
    refine q_cond_t hF rfl hc4 (q_skipc (n_sq (q_seq (q_block (q_seq (q_region ?_))))))
    obtain ⟨e_33, he_33, hb3⟩ := bindS hb3
    obtain ⟨vs34, at34, d34⟩ := h23.at he_33 1 rfl
    obtain rfl : vs34 = [(.int .i64 e_33)] := d34
    refine q_x (v := (elP s11 (t_27.toNat * 1))) hF hS (ex_indexAddr Try.underlying24 sz3 rfl rfl (h23.idx he_33)) rfl rfl fun a hF => q_x (v := (.int .i64 e_33)) hF hS (ex_loadE1 0 Try.underlying3 rfl rfl (at34.at 2 rfl) rfl rfl) rfl rfl fun a hF => q_x (v := (.int .i64 e_33)) hF hS (ex_assign rfl) rfl rfl fun a hF => q_end (n_sq (q_seq (q_region (q_x (v := (.pointer (some ⟨b_p_c, 0, none⟩))) hF hS (ex_move rfl) rfl rfl fun a hF => ?_))))
    have hS : St _ _ _ _ [[⟨b_p_c, [s1.v, (.int .i64 p_c_28.at_), (.int .u64 p_c_28.seed.v)], 65⟩], q26, q32, q11, [⟨b13, [(.int .i64 t_30.Level), s11.v, s12.v, (.int .i64 t_30.Sum)], 29⟩], [⟨b8, [(.int .i64 0), nilS.v, nilS.v, (.int .i64 0)], 29⟩]] := hS.sel [3, 0, 1, 2, 4, 5] (by decide)
    have hS35 : St _ _ _ _ ([[⟨b_p_c, [s1.v, (.int .i64 p_c_28.at_), (.int .u64 p_c_28.seed.v)], 65⟩]] ++ [q26, q32, q11, [⟨b13, [(.int .i64 t_30.Level), s11.v, s12.v, (.int .i64 t_30.Sum)], 29⟩], [⟨b8, [(.int .i64 0), nilS.v, nilS.v, (.int .i64 0)], 29⟩]]) := hS
    have hE35 := hS35.enter
    obtain ⟨t_36, ht_36, hb3⟩ := bindS hb3
    refine q_do rfl fun _ hK => wp_callX (vs := [(.pointer (some ⟨b_p_c, 0, none⟩)), (.int .i64 3)]) hF Try.func39 (by kernel_rfl) rfl rfl rfl (c_spec_l1Cur_one p_c_28 3 t_36 ht_36 _ m b_p_c s1 h29 _ hE35) fun a w _ hR hF => hK _ _ ?_
    obtain ⟨rfl, hR35, hk37⟩ := hR
    have hS : St _ _ _ _ [[⟨b_p_c, [s1.v, (.int .i64 t_36.2.at_), (.int .u64 t_36.2.seed.v)], 65⟩], q26, q32, q11, [⟨b13, [(.int .i64 t_30.Level), s11.v, s12.v, (.int .i64 t_30.Sum)], 29⟩], [⟨b8, [(.int .i64 0), nilS.v, nilS.v, (.int .i64 0)], 29⟩]] := hS35.leaveF hR35
    have h37 : Rd m s1 t_36.2.code := by rw [hk37]; exact h29
    refine q_x (v := (.bool (!t_36.1))) hF hS (ex_not rfl) rfl rfl fun a hF => q_end (n_sq ?_)
    obtain ⟨j5, hj5, hb3⟩ := bindS hb3
    refine q_join (fun a w => ∃ (q67 : Piece), ∃ (q69 : Piece), ∃ (s69 : Sl), ∃ p_c_63, ∃ t_65, ∃ vars_68, j5 = (p_c_63, t_65, vars_68) ∧ Fr a 89 [(0, (.pointer (some ⟨b_p_c, 0, none⟩))), (2, s3.v), (8, (.pointer (some ⟨b8, 0, none⟩))), (9, (.pointer (some ⟨b13, 0, none⟩))), (10, s69.v), (24, s11.v), (25, (.int .i64 (goLen t_22.Vars))), (26, (.int .i64 t_27))] ∧ St X w0 w m [q11, q67, q69, [⟨b_p_c, [s1.v, (.int .i64 p_c_63.at_), (.int .u64 p_c_63.seed.v)], 65⟩], [⟨b13, [(.int .i64 t_65.Level), s11.v, s12.v, (.int .i64 t_65.Sum)], 29⟩], [⟨b8, [(.int .i64 0), nilS.v, nilS.v, (.int .i64 0)], 29⟩]] ∧ Rd m s1 p_c_63.code ∧ p_c_63.code = p_c.code ∧ OwnL m 3 q11 s11 t_65.Vars ∧ t_65.Vars = t_22.Vars ∧ OwnL m 3 q67 s12 t_65.Where ∧ OwnL m 3 q69 s69 vars_68) ?_ ?_
    ·rcases bcase (!t_36.1) with hc6 | hc6
     ·have hj5 := cond_f hc6 hj5
      refine q_cond_f hF rfl hc6 (q_seq ?_)
      obtain ⟨j7, hj7, hj5⟩ := bindS hj5
      refine q_join (fun a w => ∃ p_c_43, ∃ t_45, j7 = (p_c_43, t_45) ∧ Fr a 89 [(0, (.pointer (some ⟨b_p_c, 0, none⟩))), (2, s3.v), (8, (.pointer (some ⟨b8, 0, none⟩))), (9, (.pointer (some ⟨b13, 0, none⟩))), (10, s26.v), (12, (.int .i64 e_33)), (24, s11.v), (25, (.int .i64 (goLen t_22.Vars))), (26, (.int .i64 t_27)), (53, (.bool t_45))] ∧ St X w0 w m [q11, q32, q26, [⟨b_p_c, [s1.v, (.int .i64 p_c_43.at_), (.int .u64 p_c_43.seed.v)], 65⟩], [⟨b13, [(.int .i64 t_30.Level), s11.v, s12.v, (.int .i64 t_30.Sum)], 29⟩], [⟨b8, [(.int .i64 0), nilS.v, nilS.v, (.int .i64 0)], 29⟩]] ∧ Rd m s1 p_c_43.code ∧ p_c_43.code = p_c.code) ?_ ?_
      ·refine q_region (q_x (v := (.pointer (some ⟨b_p_c, 0, none⟩))) hF hS (ex_move rfl) rfl rfl fun a hF => ?_)
       have hS38 : St _ _ _ _ ([[⟨b_p_c, [s1.v, (.int .i64 t_36.2.at_), (.int .u64 t_36.2.seed.v)], 65⟩]] ++ [q26, q32, q11, [⟨b13, [(.int .i64 t_30.Level), s11.v, s12.v, (.int .i64 t_30.Sum)], 29⟩], [⟨b8, [(.int .i64 0), nilS.v, nilS.v, (.int .i64 0)], 29⟩]]) := hS
       have hE38 := hS38.enter
       obtain ⟨t_39, ht_39, hj7⟩ := bindS hj7
       refine q_do rfl fun _ hK => wp_callX (vs := [(.pointer (some ⟨b_p_c, 0, none⟩)), (.int .i64 2)]) hF Try.func39 (by kernel_rfl) rfl rfl rfl (c_spec_l1Cur_one t_36.2 2 t_39 ht_39 _ m b_p_c s1 h37 _ hE38) fun a w _ hR hF => hK _ _ ?_
       obtain ⟨rfl, hR38, hk40⟩ := hR
       have hS : St _ _ _ _ [[⟨b_p_c, [s1.v, (.int .i64 t_39.2.at_), (.int .u64 t_39.2.seed.v)], 65⟩], q26, q32, q11, [⟨b13, [(.int .i64 t_30.Level), s11.v, s12.v, (.int .i64 t_30.Sum)], 29⟩], [⟨b8, [(.int .i64 0), nilS.v, nilS.v, (.int .i64 0)], 29⟩]] := hS38.leaveF hR38
       have h40 : Rd m s1 t_39.2.code := by rw [hk40]; exact h37
       refine q_x (v := (.bool t_39.1)) hF hS (ex_move rfl) rfl rfl fun a hF => ?_
       rcases bcase (t_39.1) with hc8 | hc8
       ·have hj7 := cond_f hc8 hj7
        refine q_skip hF (wanted_f hF rfl rfl rfl hc8 rfl) rfl fun a hF => q_skip hF (wanted_f hF rfl rfl rfl hc8 rfl) rfl fun a hF => q_skip hF (wanted_f hF rfl rfl rfl hc8 rfl) rfl fun a hF => q_skip hF (wanted_f hF rfl rfl rfl hc8 rfl) rfl fun a hF => q_skip hF (wanted_f hF rfl rfl rfl hc8 rfl) rfl fun a hF => q_skip hF (wanted_f hF rfl rfl rfl hc8 rfl) rfl fun a hF => q_x (v := (.bool false)) hF hS (ex_pick_f rfl rfl hc8) rfl rfl fun a hF => q_x (v := (.bool false)) hF hS (ex_move rfl) rfl rfl fun a hF => q_skip hF (wanted_f hF rfl rfl rfl rfl rfl) rfl fun a hF => q_skip hF (wanted_f hF rfl rfl rfl rfl rfl) rfl fun a hF => q_skip hF (wanted_f hF rfl rfl rfl rfl rfl) rfl fun a hF => q_skip hF (wanted_f hF rfl rfl rfl rfl rfl) rfl fun a hF => q_skip hF (wanted_f hF rfl rfl rfl rfl rfl) rfl fun a hF => q_x (v := (.bool false)) hF hS (ex_pick_f rfl rfl rfl) rfl rfl fun a hF => q_end (n_jn ?_)
        obtain rfl := someI hj7
        exact ⟨_, _, rfl, hF.sub ⟨rfl, rfl, rfl, rfl, rfl, rfl, rfl, rfl, rfl, rfl, trivial⟩, hS.sel [3, 2, 1, 0, 4, 5] (by decide), h40, (hk40.trans (hk37.trans h29k))⟩
       ·have hj7 := cond_t hc8 hj7
        refine q_xg (v := (.int .i64 e_33)) hF hS (ex_move rfl) (wanted_t hF rfl rfl rfl hc8) rfl fun a hF => q_xg (v := (.pointer (some ⟨b13, 2, none⟩))) hF hS (ex_fieldAddr Try.underlying29 rfl sz24 rfl rfl) (wanted_t hF rfl rfl rfl hc8) rfl fun a hF => q_xg (v := s12.v) hF hS (ex_load1 4 0 Try.underlying24 rfl rfl rfl rfl) (wanted_t hF rfl rfl rfl hc8) rfl fun a hF => q_xg (v := (.int .i64 (goLen t_30.Where))) hF hS (ex_len Try.underlying24 rfl h32.len) (wanted_t hF rfl rfl rfl hc8) rfl fun a hF => q_xg (v := (.int .i64 (w64 ((goLen t_30.Where) - 1)))) hF hS (ex_ibin rfl rfl rfl) (wanted_t hF rfl rfl rfl hc8) rfl fun a hF => ?_
        obtain ⟨t_41, ht_41, hj7⟩ := bindS hj7
        refine q_callg (vs := [(.int .i64 e_33), (.int .i64 0), (.int .i64 (w64 ((goLen t_30.Where) - 1)))]) hF hS (wanted_t hF rfl rfl rfl hc8) Try.func67 (by kernel_rfl) rfl rfl rfl (c_spec_l1In e_33 0 (w64 ((goLen t_30.Where) - 1)) t_41 ht_41 _ m hS.vis) ?_
        rintro a w _ rfl hF hS
        refine q_x (v := (.bool t_41)) hF hS (ex_pick_t rfl rfl hc8) rfl rfl fun a hF => q_x (v := (.bool t_41)) hF hS (ex_move rfl) rfl rfl fun a hF => ?_
        rcases bcase (t_41) with hc9 | hc9
        ·have hj7 := cond_f hc9 hj7
         refine q_skip hF (wanted_f hF rfl rfl rfl hc9 rfl) rfl fun a hF => q_skip hF (wanted_f hF rfl rfl rfl hc9 rfl) rfl fun a hF => q_skip hF (wanted_f hF rfl rfl rfl hc9 rfl) rfl fun a hF => q_skip hF (wanted_f hF rfl rfl rfl hc9 rfl) rfl fun a hF => q_skip hF (wanted_f hF rfl rfl rfl hc9 rfl) rfl fun a hF => q_x (v := (.bool false)) hF hS (ex_pick_f rfl rfl hc9) rfl rfl fun a hF => q_end (n_jn ?_)
         obtain rfl := someI hj7
         exact ⟨_, _, rfl, hF.sub ⟨rfl, rfl, rfl, rfl, rfl, rfl, rfl, rfl, rfl, rfl, trivial⟩, hS.sel [3, 2, 1, 0, 4, 5] (by decide), h40, (hk40.trans (hk37.trans h29k))⟩
        ·have hj7 := cond_t hc9 hj7
         refine q_xg (v := (.int .i64 e_33)) hF hS (ex_move rfl) (wanted_t hF rfl rfl rfl hc9) rfl fun a hF => q_xg (v := s3.v) hF hS (ex_move rfl) (wanted_t hF rfl rfl rfl hc9) rfl fun a hF => q_xg (v := (.int .i64 (goLen p_s))) hF hS (ex_len Try.underlying27 rfl h3.len) (wanted_t hF rfl rfl rfl hc9) rfl fun a hF => q_xg (v := (.int .i64 (w64 ((goLen p_s) - 1)))) hF hS (ex_ibin rfl rfl rfl) (wanted_t hF rfl rfl rfl hc9) rfl fun a hF => ?_
         obtain ⟨t_42, ht_42, hj7⟩ := bindS hj7
         refine q_callg (vs := [(.int .i64 e_33), (.int .i64 0), (.int .i64 (w64 ((goLen p_s) - 1)))]) hF hS (wanted_t hF rfl rfl rfl hc9) Try.func67 (by kernel_rfl) rfl rfl rfl (c_spec_l1In e_33 0 (w64 ((goLen p_s) - 1)) t_42 ht_42 _ m hS.vis) ?_
         rintro a w _ rfl hF hS
         refine q_x (v := (.bool t_42)) hF hS (ex_pick_t rfl rfl hc9) rfl rfl fun a hF => q_end (n_jn ?_)
         obtain rfl := someI hj7
         exact ⟨_, _, rfl, hF.sub ⟨rfl, rfl, rfl, rfl, rfl, rfl, rfl, rfl, rfl, rfl, trivial⟩, hS.sel [3, 2, 1, 0, 4, 5] (by decide), h40, (hk40.trans (hk37.trans h29k))⟩
      ·rintro a w ⟨p_c_43, t_45, rfl, hF, hS, h44, h44k⟩
       refine n_sq ?_
       obtain ⟨j10, hj10, hj5⟩ := bindS hj5
       refine q_join (fun a w => ∃ (q59 : Piece), ∃ p_c_55, ∃ t_57, j10 = (p_c_55, t_57) ∧ Fr a 89 [(0, (.pointer (some ⟨b_p_c, 0, none⟩))), (2, s3.v), (8, (.pointer (some ⟨b8, 0, none⟩))), (9, (.pointer (some ⟨b13, 0, none⟩))), (10, s26.v), (24, s11.v), (25, (.int .i64 (goLen t_22.Vars))), (26, (.int .i64 t_27))] ∧ St X w0 w m [q11, q59, q26, [⟨b_p_c, [s1.v, (.int .i64 p_c_55.at_), (.int .u64 p_c_55.seed.v)], 65⟩], [⟨b13, [(.int .i64 t_57.Level), s11.v, s12.v, (.int .i64 t_57.Sum)], 29⟩], [⟨b8, [(.int .i64 0), nilS.v, nilS.v, (.int .i64 0)], 29⟩]] ∧ Rd m s1 p_c_55.code ∧ p_c_55.code = p_c.code ∧ OwnL m 3 q11 s11 t_57.Vars ∧ t_57.Vars = t_22.Vars ∧ OwnL m 3 q59 s12 t_57.Where) ?_ ?_
       ·rcases bcase (t_45) with hc11 | hc11
        ·have hj10 := cond_f hc11 hj10
         refine q_cond_f hF rfl hc11 (q_skipc (n_jn ?_))
         obtain rfl := someI hj10
         exact ⟨q32, _, _, rfl, hF.sub ⟨rfl, rfl, rfl, rfl, rfl, rfl, rfl, rfl, trivial⟩, hS, h44, h44k, h31, h31k, h32⟩
        ·have hj10 := cond_t hc11 hj10
         refine q_cond_t hF rfl hc11 (e_region ⟨[9, 13], [b13]⟩ mixed fun w' hw' => ?_)
         have hS := hS.below hw'
         refine e_p (v := (.pointer (some ⟨b13, 2, none⟩))) 0 hF rfl (ex_fieldAddr Try.underlying29 rfl sz24 rfl rfl) rfl rfl (by kernel_rfl) (by kernel_rfl) (by kernel_rfl) fun a hF => e_xb (v := s12.v) 1 4 hF hS (.head _) rfl rfl (ex_load1 0 0 Try.underlying24 rfl rfl rfl rfl) rfl rfl (by kernel_rfl) (by kernel_rfl) (by kernel_rfl) fun a hF => e_p (v := (.int .i64 e_33)) 2 hF rfl (ex_move rfl) rfl rfl (by kernel_rfl) (by kernel_rfl) (by kernel_rfl) fun a hF => e_p (v := (.pointer (some ⟨b_p_c, 0, none⟩))) 3 hF rfl (ex_move rfl) rfl rfl (by kernel_rfl) (by kernel_rfl) (by kernel_rfl) fun a hF => e_p (v := s3.v) 4 hF rfl (ex_move rfl) rfl rfl (by kernel_rfl) (by kernel_rfl) (by kernel_rfl) fun a hF => e_p (v := (.int .i64 e_33)) 5 hF rfl (ex_move rfl) rfl rfl (by kernel_rfl) (by kernel_rfl) (by kernel_rfl) fun a hF => ?_
         obtain ⟨e_46, he_46, hj10⟩ := bindS hj10
         obtain ⟨vs47, at47, d47⟩ := h3.at he_46 2 rfl
         obtain rfl : vs47 = [(strV e_46.Name), (.int .i64 e_46.Levels)] := d47
         refine e_p (v := (elP s3 (e_33.toNat * 2))) 6 hF rfl (ex_indexAddr Try.underlying27 sz58 rfl rfl (h3.idx he_46)) rfl rfl (by kernel_rfl) (by kernel_rfl) (by kernel_rfl) fun a hF => e_p (v := (elP s3 (e_33.toNat * 2 + 1))) 7 hF rfl (ex_fieldAddrE Try.underlying58 rfl sz3 rfl (h3.idx he_46) rfl) rfl rfl (by kernel_rfl) (by kernel_rfl) (by kernel_rfl) fun a hF => e_x (v := (.int .i64 e_46.Levels)) 8 hF hS rfl (ex_loadE1 1 Try.underlying3 rfl rfl ((at47).at) rfl rfl) rfl rfl (by kernel_rfl) (by kernel_rfl) (by kernel_rfl) (by kernel_rfl) fun a hF => e_one 9 (by kernel_rfl) ?_
         have hS : St _ _ _ _ [[⟨b_p_c, [s1.v, (.int .i64 p_c_43.at_), (.int .u64 p_c_43.seed.v)], 65⟩], q11, q32, q26, [⟨b13, [(.int .i64 t_30.Level), s11.v, s12.v, (.int .i64 t_30.Sum)], 29⟩], [⟨b8, [(.int .i64 0), nilS.v, nilS.v, (.int .i64 0)], 29⟩]] := hS.sel [3, 0, 1, 2, 4, 5] (by decide)
         have hS48 : St _ _ _ _ ([[⟨b_p_c, [s1.v, (.int .i64 p_c_43.at_), (.int .u64 p_c_43.seed.v)], 65⟩]] ++ [q11, q32, q26, [⟨b13, [(.int .i64 t_30.Level), s11.v, s12.v, (.int .i64 t_30.Sum)], 29⟩], [⟨b8, [(.int .i64 0), nilS.v, nilS.v, (.int .i64 0)], 29⟩]]) := hS
         have hE48 := hS48.enter
         obtain ⟨t_49, ht_49, hj10⟩ := bindS hj10
         have hSo := hS
         refine e_opl rfl rfl rfl fun _ hK => wp_callX (vs := [(.pointer (some ⟨b_p_c, 0, none⟩)), (.int .i64 e_46.Levels)]) hF Try.func53 (by kernel_rfl) rfl rfl rfl (c_spec_l1Cur_pick p_c_43 e_46.Levels t_49 ht_49 _ m b_p_c s1 h44 _ hE48) fun a w _ hR hF => hK _ _ ?_
         obtain ⟨rfl, hR48, hk50⟩ := hR
         have hS : St _ _ _ _ [[⟨b_p_c, [s1.v, (.int .i64 t_49.2.at_), (.int .u64 t_49.2.seed.v)], 65⟩], q11, q32, q26, [⟨b13, [(.int .i64 t_30.Level), s11.v, s12.v, (.int .i64 t_30.Sum)], 29⟩], [⟨b8, [(.int .i64 0), nilS.v, nilS.v, (.int .i64 0)], 29⟩]] := hS48.leaveF hR48
         have h50 : Rd m s1 t_49.2.code := by rw [hk50]; exact h44
         refine ⟨kpC hSo hS 4 4 rfl rfl kpN, ?_⟩
         refine e_p (v := (.int .u64 (IntKind.wrap .u64 t_49.1))) 10 hF rfl (ex_conv Try.underlying3 Try.underlying94 rfl) rfl rfl (by kernel_rfl) (by kernel_rfl) (by kernel_rfl) fun a hF => ?_
         obtain ⟨t_51, ht_51, hj10⟩ := bindS hj10
         refine e_p (v := (.int .i64 t_51)) 11 hF rfl (ex_shl rfl rfl ht_51) rfl rfl (by kernel_rfl) (by kernel_rfl) (by kernel_rfl) fun a hF => ?_
         obtain ⟨e_52, he_52, hj10⟩ := bindS hj10
         obtain ⟨vs53, at53, d53⟩ := h32.at he_52 1 rfl
         obtain rfl : vs53 = [(.int .i64 e_52)] := d53
         refine e_p (v := (elP s12 (e_33.toNat * 1))) 12 hF rfl (ex_indexAddr Try.underlying24 sz3 rfl rfl (h32.idx he_52)) rfl rfl (by kernel_rfl) (by kernel_rfl) (by kernel_rfl) fun a hF => e_one 13 (by kernel_rfl) ?_
         have hS : St _ _ _ _ [q32, [⟨b_p_c, [s1.v, (.int .i64 t_49.2.at_), (.int .u64 t_49.2.seed.v)], 65⟩], q11, q26, [⟨b13, [(.int .i64 t_30.Level), s11.v, s12.v, (.int .i64 t_30.Sum)], 29⟩], [⟨b8, [(.int .i64 0), nilS.v, nilS.v, (.int .i64 0)], 29⟩]] := hS.sel [2, 0, 1, 3, 4, 5] (by decide)
         have hSo := hS
         refine e_opl rfl rfl rfl fun _ hK => wp_storeE (e' := t_51) (us := [(.int .i64 t_51)]) (vs := [(.int .i64 e_52)]) 0 hF hS h32 sz3 rfl rfl rfl rfl rfl rfl rfl he_52 at53 rfl rfl rfl fun w q54 hS h54 => hK _ _ (⟨kpC hSo hS 4 4 rfl rfl kpN, ?_⟩)
         refine e_end (by kernel_rfl) (n_jn ?_) _
         obtain rfl := someI hj10
         exact ⟨q54, _, _, rfl, hF.sub ⟨rfl, rfl, rfl, rfl, rfl, rfl, rfl, rfl, trivial⟩, hS.sel [2, 0, 3, 1, 4, 5] (by decide), h50, (hk50.trans h44k), h31, h31k, h54⟩
       ·rintro a w ⟨q59, p_c_55, t_57, rfl, hF, hS, h56, h56k, h58, h58k, h59⟩
        refine n_jn ?_
        obtain rfl := someI hj5
        exact ⟨q59, q26, s26, _, _, _, rfl, hF.sub ⟨rfl, rfl, rfl, rfl, rfl, rfl, rfl, rfl, trivial⟩, hS, h56, h56k, h58, h58k, h59, h26⟩
     ·have hj5 := cond_t hc6 hj5
      refine q_cond_t hF rfl hc6 (q_region (q_x (v := s26.v) hF hS (ex_move rfl) rfl rfl fun a hF => q_x (v := (.int .i64 e_33)) hF hS (ex_move rfl) rfl rfl fun a hF => q_do rfl fun _ hK => wp_buildSlice' (l := ([e_33] : List Int)) (cells := [(.int .i64 e_33)]) hF hS Try.underlying24 inf3 rfl rfl (by kernel_rfl) rfl rfl rfl ⟨rfl, rfl⟩ rfl rfl fun a w q60 s60 hF hS h60 _ => hK _ _ ?_))
      have hS : St _ _ _ _ [q26, q60, [⟨b_p_c, [s1.v, (.int .i64 t_36.2.at_), (.int .u64 t_36.2.seed.v)], 65⟩], q32, q11, [⟨b13, [(.int .i64 t_30.Level), s11.v, s12.v, (.int .i64 t_30.Sum)], 29⟩], [⟨b8, [(.int .i64 0), nilS.v, nilS.v, (.int .i64 0)], 29⟩]] := hS.sel [2, 0, 1, 3, 4, 5, 6] (by decide)
      obtain ⟨l_61, hl_61, hj5⟩ := bindS hj5
      refine q_do rfl fun _ hK => wp_append hF hS h26 Try.underlying24 inf3 rfl rfl rfl rfl (h60.vw hS (j := 1) rfl) rfl (by decide) hl_61 rfl fun a w q62 s62 hF hS h62 => hK _ _ (q_x (v := s62.v) hF hS (ex_assign rfl) rfl rfl fun a hF => q_end (n_jn ?_))
      obtain rfl := someI hj5
      exact ⟨q32, q62, s62, _, _, _, rfl, hF.sub ⟨rfl, rfl, rfl, rfl, rfl, rfl, rfl, rfl, trivial⟩, hS.sel [4, 3, 0, 2, 5, 6] (by decide), h37, (hk37.trans h29k), h31, h31k, h32, h62⟩
    ·rintro a w ⟨q67, q69, s69, p_c_63, t_65, vars_68, rfl, hF, hS, h64, h64k, h66, h66k, h67, h69⟩
     refine n_ib (n_sq ?_)
     refine q_region (q_x (v := (.int .i64 (w64 (t_27 + 1)))) hF hS (ex_ibin rfl rfl rfl) rfl rfl fun a hF => q_x (v := (.int .i64 (w64 (t_27 + 1)))) hF hS (ex_move rfl) rfl rfl fun a hF => q_end ?_)
     obtain rfl := someI hb3
     exact ⟨rfl, q69, s69, q67, _, _, _, _, rfl, hF.sub ⟨rfl, rfl, rfl, rfl, rfl, rfl, rfl, rfl, trivial⟩, hS.sel [2, 1, 0, 3, 4, 5] (by decide), h69, h64, h64k, h66, h66k, h67⟩
  ·rintro e a w ⟨q71, s71, q76, vars_70, p_c_72, t_74, rfl, rfl, hF, hS, h71, h73, h73k, h75, h75k, h76⟩
   refine x_ib (n_sq ?_)
   refine q_seq (q_seq ?_)
   obtain ⟨j12, hj12, hr⟩ := bindS hr
   refine q_join (fun a w => ∃ t_80, ∃ p_c_81, j12 = (t_80, p_c_81) ∧ Fr a 89 [(8, (.pointer (some ⟨b8, 0, none⟩))), (9, (.pointer (some ⟨b13, 0, none⟩))), (10, s71.v), (80, (.bool t_80))] ∧ St X w0 w m [q71, q11, q76, [⟨b_p_c, [s1.v, (.int .i64 p_c_81.at_), (.int .u64 p_c_81.seed.v)], 65⟩], [⟨b13, [(.int .i64 t_74.Level), s11.v, s12.v, (.int .i64 t_74.Sum)], 29⟩], [⟨b8, [(.int .i64 0), nilS.v, nilS.v, (.int .i64 0)], 29⟩]] ∧ Rd m s1 p_c_81.code ∧ p_c_81.code = p_c.code) ?_ ?_
   ·refine q_region (q_x (v := (.pointer (some ⟨b13, 1, none⟩))) hF hS (ex_fieldAddr Try.underlying29 rfl sz24 rfl rfl) rfl rfl fun a hF => q_x (v := s11.v) hF hS (ex_load1 4 0 Try.underlying24 rfl rfl rfl rfl) rfl rfl fun a hF => q_x (v := (.int .i64 (goLen t_74.Vars))) hF hS (ex_len Try.underlying24 rfl h75.len) rfl rfl fun a hF => q_x (v := (.bool (decide (0 < (goLen t_74.Vars))))) hF hS (ex_ibin rfl rfl rfl) rfl rfl fun a hF => q_x (v := (.bool (decide (0 < (goLen t_74.Vars))))) hF hS (ex_move rfl) rfl rfl fun a hF => ?_)
    rcases bcase (decide (0 < (goLen t_74.Vars))) with hc13 | hc13
    ·have hj12 := cond_f hc13 hj12
     refine q_skip hF (wanted_f hF rfl rfl rfl hc13 rfl) rfl fun a hF => q_skip hF (wanted_f hF rfl rfl rfl hc13 rfl) rfl fun a hF => q_skip hF (wanted_f hF rfl rfl rfl hc13 rfl) rfl fun a hF => q_x (v := (.bool false)) hF hS (ex_pick_f rfl rfl hc13) rfl rfl fun a hF => q_x (v := (.bool false)) hF hS (ex_move rfl) rfl rfl fun a hF => q_skip hF (wanted_f hF rfl rfl rfl rfl rfl) rfl fun a hF => q_skip hF (wanted_f hF rfl rfl rfl rfl rfl) rfl fun a hF => q_x (v := (.bool false)) hF hS (ex_pick_f rfl rfl rfl) rfl rfl fun a hF => q_end (n_jn ?_)
     obtain rfl := someI hj12
     exact ⟨_, _, rfl, hF.sub ⟨rfl, rfl, rfl, rfl, trivial⟩, hS, h73, h73k⟩
    ·have hj12 := cond_t hc13 hj12
     refine q_xg (v := (.pointer (some ⟨b13, 3, none⟩))) hF hS (ex_fieldAddr Try.underlying29 rfl sz3 rfl rfl) (wanted_t hF rfl rfl rfl hc13) rfl fun a hF => q_xg (v := (.int .i64 t_74.Sum)) hF hS (ex_load1 4 0 Try.underlying3 rfl rfl rfl rfl) (wanted_t hF rfl rfl rfl hc13) rfl fun a hF => q_xg (v := (.bool (t_74.Sum == (-1)))) hF hS (ex_ibin rfl rfl rfl) (wanted_t hF rfl rfl rfl hc13) rfl fun a hF => q_x (v := (.bool (t_74.Sum == (-1)))) hF hS (ex_pick_t rfl rfl hc13) rfl rfl fun a hF => q_x (v := (.bool (t_74.Sum == (-1)))) hF hS (ex_move rfl) rfl rfl fun a hF => ?_
     rcases bcase (t_74.Sum == (-1)) with hc14 | hc14
     ·have hj12 := cond_f hc14 hj12
      refine q_skip hF (wanted_f hF rfl rfl rfl hc14 rfl) rfl fun a hF => q_skip hF (wanted_f hF rfl rfl rfl hc14 rfl) rfl fun a hF => q_x (v := (.bool false)) hF hS (ex_pick_f rfl rfl hc14) rfl rfl fun a hF => q_end (n_jn ?_)
      obtain rfl := someI hj12
      exact ⟨_, _, rfl, hF.sub ⟨rfl, rfl, rfl, rfl, trivial⟩, hS, h73, h73k⟩
     ·have hj12 := cond_t hc14 hj12
      refine q_xg (v := (.pointer (some ⟨b_p_c, 0, none⟩))) hF hS (ex_move rfl) (wanted_t hF rfl rfl rfl hc14) rfl fun a hF => ?_
      have hS : St _ _ _ _ [[⟨b_p_c, [s1.v, (.int .i64 p_c_72.at_), (.int .u64 p_c_72.seed.v)], 65⟩], q71, q11, q76, [⟨b13, [(.int .i64 t_74.Level), s11.v, s12.v, (.int .i64 t_74.Sum)], 29⟩], [⟨b8, [(.int .i64 0), nilS.v, nilS.v, (.int .i64 0)], 29⟩]] := hS.sel [3, 0, 1, 2, 4, 5] (by decide)
      have hS77 : St _ _ _ _ ([[⟨b_p_c, [s1.v, (.int .i64 p_c_72.at_), (.int .u64 p_c_72.seed.v)], 65⟩]] ++ [q71, q11, q76, [⟨b13, [(.int .i64 t_74.Level), s11.v, s12.v, (.int .i64 t_74.Sum)], 29⟩], [⟨b8, [(.int .i64 0), nilS.v, nilS.v, (.int .i64 0)], 29⟩]]) := hS
      have hE77 := hS77.enter
      obtain ⟨t_78, ht_78, hj12⟩ := bindS hj12
      refine q_dog (wanted_t hF rfl rfl rfl hc14) fun _ hK => wp_callX (vs := [(.pointer (some ⟨b_p_c, 0, none⟩)), (.int .i64 3)]) hF Try.func39 (by kernel_rfl) rfl rfl rfl (c_spec_l1Cur_one p_c_72 3 t_78 ht_78 _ m b_p_c s1 h73 _ hE77) fun a w _ hR hF => hK _ _ ?_
      obtain ⟨rfl, hR77, hk79⟩ := hR
      have hS : St _ _ _ _ [[⟨b_p_c, [s1.v, (.int .i64 t_78.2.at_), (.int .u64 t_78.2.seed.v)], 65⟩], q71, q11, q76, [⟨b13, [(.int .i64 t_74.Level), s11.v, s12.v, (.int .i64 t_74.Sum)], 29⟩], [⟨b8, [(.int .i64 0), nilS.v, nilS.v, (.int .i64 0)], 29⟩]] := hS77.leaveF hR77
      have h79 : Rd m s1 t_78.2.code := by rw [hk79]; exact h73
      refine q_x (v := (.bool t_78.1)) hF hS (ex_pick_t rfl rfl hc14) rfl rfl fun a hF => q_end (n_jn ?_)
      obtain rfl := someI hj12
      exact ⟨_, _, rfl, hF.sub ⟨rfl, rfl, rfl, rfl, trivial⟩, hS.sel [1, 2, 3, 0, 4, 5] (by decide), h79, (hk79.trans h73k)⟩
   ·rintro a w ⟨t_80, p_c_81, rfl, hF, hS, h82, h82k⟩
    refine n_sq ?_
    obtain ⟨t_85, hj15, hr⟩ := bindS hr
    refine q_join (fun a w => Fr a 89 [(8, (.pointer (some ⟨b8, 0, none⟩))), (9, (.pointer (some ⟨b13, 0, none⟩))), (10, s71.v)] ∧ St X w0 w m [q71, q11, q76, [⟨b_p_c, [s1.v, (.int .i64 p_c_81.at_), (.int .u64 p_c_81.seed.v)], 65⟩], [⟨b13, [(.int .i64 t_85.Level), s11.v, s12.v, (.int .i64 t_85.Sum)], 29⟩], [⟨b8, [(.int .i64 0), nilS.v, nilS.v, (.int .i64 0)], 29⟩]] ∧ OwnL m 3 q11 s11 t_85.Vars ∧ t_85.Vars = t_22.Vars ∧ OwnL m 3 q76 s12 t_85.Where) ?_ ?_
    ·rcases bcase (t_80) with hc16 | hc16
     ·have hj15 := cond_f hc16 hj15
      refine q_cond_f hF rfl hc16 (q_skipc (n_jn ?_))
      obtain rfl := someI hj15
      exact ⟨hF.sub ⟨rfl, rfl, rfl, trivial⟩, hS, h75, h75k, h76⟩
     ·have hj15 := cond_t hc16 hj15
      refine q_cond_t hF rfl hc16 (q_region (q_x (v := (.pointer (some ⟨b13, 1, none⟩))) hF hS (ex_fieldAddr Try.underlying29 rfl sz24 rfl rfl) rfl rfl fun a hF => q_x (v := s11.v) hF hS (ex_load1 4 0 Try.underlying24 rfl rfl rfl rfl) rfl rfl fun a hF => ?_))
      obtain ⟨e_83, he_83, hj15⟩ := bindS hj15
      obtain ⟨vs84, at84, d84⟩ := h75.at he_83 1 rfl
      obtain rfl : vs84 = [(.int .i64 e_83)] := d84
      refine q_x (v := (elP s11 ((0 : Int).toNat * 1))) hF hS (ex_indexAddr Try.underlying24 sz3 rfl rfl (h75.idx he_83)) rfl rfl fun a hF => q_x (v := (.int .i64 e_83)) hF hS (ex_loadE1 0 Try.underlying3 rfl rfl (at84.at 1 rfl) rfl rfl) rfl rfl fun a hF => q_x (v := (.pointer (some ⟨b13, 3, none⟩))) hF hS (ex_fieldAddr Try.underlying29 rfl sz3 rfl rfl) rfl rfl fun a hF => q_store (vs := [(.int .i64 e_83)]) (cs' := [(.int .i64 t_74.Level), s11.v, s12.v, (.int .i64 e_83)]) 4 0 hF hS sz3 rfl rfl rfl rfl rfl rfl rfl rfl fun a w hF hS => q_end (n_jn ?_)
      obtain rfl := someI hj15
      exact ⟨hF.sub ⟨rfl, rfl, rfl, trivial⟩, hS, h75, h75k, h76⟩
    ·rintro a w ⟨hF, hS, h86, h86k, h87⟩
     refine n_sq ?_
     refine q_seq (q_region (q_x (v := s71.v) hF hS (ex_move rfl) rfl rfl fun a hF => q_x (v := (.pointer (some ⟨b13, 1, none⟩))) hF hS (ex_fieldAddr Try.underlying29 rfl sz24 rfl rfl) rfl rfl fun a hF => q_store (vs := [s71.v]) (cs' := [(.int .i64 t_85.Level), s71.v, s12.v, (.int .i64 t_85.Sum)]) 4 0 hF hS sz24 rfl rfl rfl rfl rfl rfl rfl rfl fun a w hF hS => q_end (n_sq (q_seq (q_region (q_x (v := (.agg #[(.int .i64 t_85.Level), s71.v, s12.v, (.int .i64 t_85.Sum)])) hF hS (ex_loadA (vs := [(.int .i64 t_85.Level), s71.v, s12.v, (.int .i64 t_85.Sum)]) 4 0 Try.underlying29 rfl sz29 rfl rfl rfl rfl) rfl rfl fun a hF => q_store (vs := [(.int .i64 t_85.Level), s71.v, s12.v, (.int .i64 t_85.Sum)]) (cs' := [(.int .i64 t_85.Level), s71.v, s12.v, (.int .i64 t_85.Sum)]) 5 0 hF hS sz29 rfl rfl rfl rfl rfl rfl rfl rfl fun a w hF hS => q_end (n_sq (q_ret ?_))))))))
     obtain rfl := someI hr
     exact ret_ofX hF hS rfl (.cellA (us := [(.int .i64 t_85.Level), s71.v, s12.v, (.int .i64 t_85.Sum)]) 5 0 Try.underlying29 rfl sz29 rfl rfl rfl rfl .nil) ⟨q71, q76, s71, s12, rfl, hS.sel [3, 0, 2] (by decide), h71, h87, h82k⟩

theorem c_spec_DrawSourcesIn (p_code : List (K .u8)) (r : impl_Geo × (List impl_Variable) × (List impl_Table)) (hr : spec_DrawSourcesIn p_code = some r) (w0 : World) (m : Mem) (hv : Vis m w0) (s1 : Sl) (h1 : Rd m s1 p_code) :
  Ret Try.prog 38 [s1.v] w0 (fun v w => ∃ (m' : Mem) (q2' : Piece) (s0' : Sl) (s1' : Sl) (s2' : Sl), v = (.tuple #[(.agg #[s0'.v]), s1'.v, s2'.v]) ∧ MLe [] w0.heap.size m m' ∧ St [] w0 w m' [q2'] ∧ Rd m' s0' r.1.Parents ∧ Rd m' s1' r.2.1 ∧ OwnL m' 29 q2' s2' r.2.2) := by
 unfold spec_DrawSourcesIn at hr
 refine ret_start Try.func38 rfl 38 rfl rfl m hv fun a hF hS => q_seq (q_region (q_alloc (cs := [nilS.v]) hF hS rfl rfl rfl fun a w b2 hF hS => q_x (v := nilS.v) hF hS (ex_assign rfl) rfl rfl fun a hF => q_x (v := nilS.v) hF hS (ex_assign rfl) rfl rfl fun a hF => q_end (n_sq (q_seq (q_region (q_x (v := s1.v) hF hS (ex_move rfl) rfl rfl fun a hF => q_x (v := (.agg #[s1.v, (.int .i64 0), (.int .u64 0)])) hF hS (ex_build (cells := [s1.v, (.int .i64 0), (.int .u64 0)]) rfl (by kernel_rfl)) rfl rfl fun a hF => q_box (cs := [s1.v, (.int .i64 0), (.int .u64 0)]) hF hS rfl rfl rfl fun a w b3 hF hS => q_x (v := (.pointer (some ⟨b3, 0, none⟩))) hF hS (ex_assign rfl) rfl rfl fun a hF => q_end (n_sq (q_seq (q_region (q_x (v := s1.v) hF hS (ex_move rfl) rfl rfl fun a hF => ?_))))))))))
 obtain ⟨t_4, ht_4, hr⟩ := bindS hr
 refine q_call (vs := [s1.v]) hF hS Try.func74 (by kernel_rfl) rfl rfl rfl (c_spec_DrawPlanText p_code t_4 ht_4 _ m hS.vis s1 h1) ?_
 have hT := hS
 rintro a w _ ⟨m5, q8, s6, s7, s8, rfl, hm5, hR5, h6, h7, h8⟩ hF hS2
 have hS : St _ _ _ _ [q8, [⟨b3, [s1.v, (.int .i64 0), (.int .u64 0)], 65⟩], [⟨b2, [nilS.v], 26⟩]] := hS.join hR5 hm5
 have hm5 := MLe.weakX (O0 := []) hT hm5
 refine q_x (v := (.tuple #[(.agg #[s6.v]), s7.v, s8.v])) hF hS (ex_move rfl) rfl rfl fun a hF => q_x (v := (.agg #[s6.v])) hF hS (ex_extract rfl rfl) rfl rfl fun a hF => q_x (v := s7.v) hF hS (ex_extract rfl rfl) rfl rfl fun a hF => q_x (v := s8.v) hF hS (ex_extract rfl rfl) rfl rfl fun a hF => q_alloc (cs := [nilS.v]) hF hS rfl rfl rfl fun a w b9 hF hS => q_store (vs := [s6.v]) (cs' := [s6.v]) 0 0 hF hS sz26 rfl rfl rfl rfl rfl rfl rfl rfl fun a w hF hS => q_x (v := s7.v) hF hS (ex_assign rfl) rfl rfl fun a hF => q_x (v := s8.v) hF hS (ex_assign rfl) rfl rfl fun a hF => q_end (n_sq (q_seq (q_seq ?_)))
 obtain ⟨j1, hj1, hr⟩ := bindS hr
 refine q_join (fun a w => ∃ t_13, ∃ t_14, j1 = (t_13, t_14) ∧ Fr a 38 [(2, (.pointer (some ⟨b2, 0, none⟩))), (5, (.pointer (some ⟨b3, 0, none⟩))), (6, (.pointer (some ⟨b9, 0, none⟩))), (7, s7.v), (8, s8.v), (24, (.bool t_13))] ∧ St [] w0 w m5 [q8, [⟨b9, [s6.v], 26⟩], [⟨b3, [s1.v, (.int .i64 t_14.at_), (.int .u64 t_14.seed.v)], 65⟩], [⟨b2, [nilS.v], 26⟩]] ∧ Rd m5 s1 t_14.code ∧ t_14.code = p_code) ?_ ?_
 ·refine q_region (q_x (v := s8.v) hF hS (ex_move rfl) rfl rfl fun a hF => q_x (v := (.int .i64 (goLen t_4.2.2))) hF hS (ex_len Try.underlying37 rfl h8.len) rfl rfl fun a hF => q_x (v := (.bool (decide (0 < (goLen t_4.2.2))))) hF hS (ex_ibin rfl rfl rfl) rfl rfl fun a hF => q_x (v := (.bool (decide (0 < (goLen t_4.2.2))))) hF hS (ex_move rfl) rfl rfl fun a hF => ?_)
  rcases bcase (decide (0 < (goLen t_4.2.2))) with hc2 | hc2
  ·have hj1 := cond_f hc2 hj1
   refine q_skip hF (wanted_f hF rfl rfl rfl hc2 rfl) rfl fun a hF => q_skip hF (wanted_f hF rfl rfl rfl hc2 rfl) rfl fun a hF => q_x (v := (.bool false)) hF hS (ex_pick_f rfl rfl hc2) rfl rfl fun a hF => q_end (n_jn ?_)
   obtain rfl := someI hj1
   exact ⟨_, _, rfl, hF.sub ⟨rfl, rfl, rfl, rfl, rfl, rfl, trivial⟩, hS.sel [1, 0, 2, 3] (by decide), (h1.mono hm5.le), rfl⟩
  ·have hj1 := cond_t hc2 hj1
   refine q_xg (v := (.pointer (some ⟨b3, 0, none⟩))) hF hS (ex_move rfl) (wanted_t hF rfl rfl rfl hc2) rfl fun a hF => ?_
   have hS : St _ _ _ _ [[⟨b3, [s1.v, (.int .i64 0), (.int .u64 0)], 65⟩], [⟨b9, [s6.v], 26⟩], q8, [⟨b2, [nilS.v], 26⟩]] := hS.sel [2, 0, 1, 3] (by decide)
   have hS10 : St _ _ _ _ ([[⟨b3, [s1.v, (.int .i64 0), (.int .u64 0)], 65⟩]] ++ [[⟨b9, [s6.v], 26⟩], q8, [⟨b2, [nilS.v], 26⟩]]) := hS
   have hE10 := hS10.enter
   obtain ⟨t_11, ht_11, hj1⟩ := bindS hj1
   refine q_dog (wanted_t hF rfl rfl rfl hc2) fun _ hK => wp_callX (vs := [(.pointer (some ⟨b3, 0, none⟩)), (.int .i64 2)]) hF Try.func39 (by kernel_rfl) rfl rfl rfl (c_spec_l1Cur_one (spec_l1Cur.mk p_code 0 (⟨0⟩ : K .u64)) 2 t_11 ht_11 _ m5 b3 s1 (h1.mono hm5.le) _ hE10) fun a w _ hR hF => hK _ _ ?_
   obtain ⟨rfl, hR10, hk12⟩ := hR
   have hS : St _ _ _ _ [[⟨b3, [s1.v, (.int .i64 t_11.2.at_), (.int .u64 t_11.2.seed.v)], 65⟩], [⟨b9, [s6.v], 26⟩], q8, [⟨b2, [nilS.v], 26⟩]] := hS10.leaveF hR10
   have h12 : Rd m5 s1 t_11.2.code := by rw [hk12]; exact (h1.mono hm5.le)
   refine q_x (v := (.bool t_11.1)) hF hS (ex_pick_t rfl rfl hc2) rfl rfl fun a hF => q_end (n_jn ?_)
   obtain rfl := someI hj1
   exact ⟨_, _, rfl, hF.sub ⟨rfl, rfl, rfl, rfl, rfl, rfl, trivial⟩, hS.sel [2, 1, 0, 3] (by decide), h12, hk12⟩
 ·rintro a w ⟨t_13, t_14, rfl, hF, hS, h15, h15k⟩
  refine n_sq ?_
  obtain ⟨l_30, hj3, hr⟩ := bindS hr
  refine q_join (fun a w => ∃ (m32 : Mem), ∃ (q31 : Piece), ∃ (s31 : Sl), Fr a 38 [(2, (.pointer (some ⟨b2, 0, none⟩))), (6, (.pointer (some ⟨b9, 0, none⟩))), (7, s7.v), (8, s31.v)] ∧ St [] w0 w m32 [q31, [⟨b9, [s6.v], 26⟩], [⟨b2, [nilS.v], 26⟩]] ∧ MLe [] w0.heap.size m5 m32 ∧ OwnL m32 29 q31 s31 l_30) ?_ ?_
  ·rcases bcase (t_13) with hc4 | hc4
   ·have hj3 := cond_f hc4 hj3
    refine q_cond_f hF rfl hc4 (q_skipc (n_jn ?_))
    obtain rfl := someI hj3
    exact ⟨m5, q8, s8, hF.sub ⟨rfl, rfl, rfl, rfl, trivial⟩, hS.mask [true, true, false, true], (MLe.refl _ _), h8⟩
   ·have hj3 := cond_t hc4 hj3
    refine q_cond_t hF rfl hc4 (e_region ⟨[7, 9], [b9]⟩ mixed fun w' hw' => ?_)
    have hS := hS.below hw'
    refine e_p (v := s8.v) 0 hF rfl (ex_move rfl) rfl rfl (by kernel_rfl) (by kernel_rfl) (by kernel_rfl) fun a hF => e_p (v := (.pointer (some ⟨b3, 0, none⟩))) 1 hF rfl (ex_move rfl) rfl rfl (by kernel_rfl) (by kernel_rfl) (by kernel_rfl) fun a hF => e_xb (v := (.agg #[s6.v])) 2 1 hF hS (.head _) rfl rfl (ex_loadA (vs := [s6.v]) 0 0 Try.underlying26 rfl sz26 rfl rfl rfl rfl) rfl rfl (by kernel_rfl) (by kernel_rfl) (by kernel_rfl) fun a hF => e_p (v := s7.v) 3 hF rfl (ex_move rfl) rfl rfl (by kernel_rfl) (by kernel_rfl) (by kernel_rfl) fun a hF => e_p (v := s8.v) 4 hF rfl (ex_move rfl) rfl rfl (by kernel_rfl) (by kernel_rfl) (by kernel_rfl) fun a hF => ?_
    obtain ⟨e_16, he_16, hj3⟩ := bindS hj3
    obtain ⟨vs17, at17, d17⟩ := h8.at he_16 4 rfl
    obtain ⟨s18, s19, rfl, h18, h19⟩ : ∃ s18 s19 : Sl, vs17 = [(.int .i64 e_16.Level), s18.v, s19.v, (.int .i64 e_16.Sum)] ∧ Rd m5 s18 e_16.Vars ∧ Rd m5 s19 e_16.Where := d17
    refine e_p (v := (elP s8 ((0 : Int).toNat * 4))) 5 hF rfl (ex_indexAddr Try.underlying37 sz29 rfl rfl (h8.idx he_16)) rfl rfl (by kernel_rfl) (by kernel_rfl) (by kernel_rfl) fun a hF => e_one 6 (by kernel_rfl) (e_lx (v := (.agg #[(.int .i64 e_16.Level), s18.v, s19.v, (.int .i64 e_16.Sum)])) hF hS rfl (ex_loadEA (us := [(.int .i64 e_16.Level), s18.v, s19.v, (.int .i64 e_16.Sum)]) 0 Try.underlying29 rfl sz29 rfl (at17.at 0 rfl) rfl rfl rfl) rfl rfl fun a hF => e_one 7 (by kernel_rfl) ?_)
    have hS : St _ _ _ _ [[⟨b3, [s1.v, (.int .i64 t_14.at_), (.int .u64 t_14.seed.v)], 65⟩], q8, [⟨b9, [s6.v], 26⟩], [⟨b2, [nilS.v], 26⟩]] := hS.sel [2, 0, 1, 3] (by decide)
    have hS20 : St _ _ _ _ ([[⟨b3, [s1.v, (.int .i64 t_14.at_), (.int .u64 t_14.seed.v)], 65⟩]] ++ [q8, [⟨b9, [s6.v], 26⟩], [⟨b2, [nilS.v], 26⟩]]) := hS
    have hE20 := hS20.enter
    obtain ⟨t_21, ht_21, hj3⟩ := bindS hj3
    have hSo := hS
    refine e_opl rfl rfl rfl fun _ hK => wp_callX (vs := [(.pointer (some ⟨b3, 0, none⟩)), (.agg #[s6.v]), s7.v, (.agg #[(.int .i64 e_16.Level), s18.v, s19.v, (.int .i64 e_16.Sum)])]) hF Try.func40 (by kernel_rfl) rfl rfl rfl (c_spec_l1Cur_below t_14 t_4.1 t_4.2.1 e_16 t_21 ht_21 _ m5 b3 s1 h15 s6 h6 s7 h7 s18 h18 s19 h19 _ hE20) fun a w _ hR hF => hK _ _ ?_
    obtain ⟨q22, q23, s22, s23, rfl, hR20, h22, h23, hk24⟩ := hR
    have hS : St _ _ _ _ [[⟨b3, [s1.v, (.int .i64 t_21.2.at_), (.int .u64 t_21.2.seed.v)], 65⟩], q22, q23, q8, [⟨b9, [s6.v], 26⟩], [⟨b2, [nilS.v], 26⟩]] := hS20.leaveF hR20
    have h24 : Rd m5 s1 t_21.2.code := by rw [hk24]; exact h15
    refine ⟨kpC hSo hS 2 4 rfl rfl kpN, ?_⟩
    refine e_one 8 (by kernel_rfl) ?_
    have hS : St _ _ _ _ [q22, [⟨b3, [s1.v, (.int .i64 t_21.2.at_), (.int .u64 t_21.2.seed.v)], 65⟩], q23, q8, [⟨b9, [s6.v], 26⟩], [⟨b2, [nilS.v], 26⟩]] := hS.sel [1, 0, 2, 3, 4, 5] (by decide)
    obtain ⟨m26, hm26, hS, hz26⟩ := hS.freeze
    have h26 := h22.froz hm26.le hz26
    have hS : St _ _ _ _ [q23, [⟨b3, [s1.v, (.int .i64 t_21.2.at_), (.int .u64 t_21.2.seed.v)], 65⟩], q8, [⟨b9, [s6.v], 26⟩], [⟨b2, [nilS.v], 26⟩]] := hS.sel [1, 0, 2, 3, 4] (by decide)
    obtain ⟨m27, hm27, hS, hz27⟩ := hS.freeze
    have h27 := (h23.mono hm26.le).froz hm27.le hz27
    refine e_op rfl rfl fun _ hK => wp_buildSlice' (l := ([t_21.1] : List impl_Table)) (cells := [(.int .i64 t_21.1.Level), s22.v, s23.v, (.int .i64 t_21.1.Sum)]) hF hS Try.underlying37 inf29 rfl rfl (by kernel_rfl) rfl rfl rfl ⟨⟨s22, s23, rfl, (h26.mono hm27.le), h27⟩, rfl⟩ rfl rfl fun a w q25 s25 hF hS h25 hb => hK _ _ hb (e_one 9 (by kernel_rfl) ?_)
    have hS : St _ _ _ _ [q8, q25, [⟨b3, [s1.v, (.int .i64 t_21.2.at_), (.int .u64 t_21.2.seed.v)], 65⟩], [⟨b9, [s6.v], 26⟩], [⟨b2, [nilS.v], 26⟩]] := hS.sel [2, 0, 1, 3, 4] (by decide)
    obtain ⟨l_28, hl_28, hj3⟩ := bindS hj3
    have hSo := hS
    refine e_opl rfl rfl rfl fun _ hK => wp_append hF hS ((h8.mono hm26.le).mono hm27.le) Try.underlying37 inf29 rfl rfl rfl rfl (h25.vw hS (j := 1) rfl) rfl (by decide) hl_28 rfl fun a w q29 s29 hF hS h29 => hK _ _ (⟨kpC hSo hS 3 3 rfl rfl kpN, ?_⟩)
    refine e_p (v := s29.v) 10 hF rfl (ex_assign rfl) rfl rfl (by kernel_rfl) (by kernel_rfl) (by kernel_rfl) fun a hF => e_end (by kernel_rfl) (n_jn ?_) _
    obtain rfl := someI hj3
    exact ⟨m27, q29, s29, hF.sub ⟨rfl, rfl, rfl, rfl, trivial⟩, hS.mask [true, false, false, true, true], (hm26.trans hm27), h29⟩
  ·rintro a w ⟨m32, q31, s31, hF, hS, hm32, h31⟩
   refine n_sq ?_
   refine q_seq (q_region (q_x (v := (.agg #[s6.v])) hF hS (ex_loadA (vs := [s6.v]) 1 0 Try.underlying26 rfl sz26 rfl rfl rfl rfl) rfl rfl fun a hF => q_x (v := s7.v) hF hS (ex_move rfl) rfl rfl fun a hF => q_x (v := s31.v) hF hS (ex_move rfl) rfl rfl fun a hF => q_store (vs := [s6.v]) (cs' := [s6.v]) 2 0 hF hS sz26 rfl rfl rfl rfl rfl rfl rfl rfl fun a w hF hS => q_x (v := s7.v) hF hS (ex_assign rfl) rfl rfl fun a hF => q_x (v := s31.v) hF hS (ex_assign rfl) rfl rfl fun a hF => q_end (n_sq (q_ret ?_))))
   obtain rfl := someI hr
   exact ret_of hF hS rfl (.cellA (us := [s6.v]) 2 0 Try.underlying26 rfl sz26 rfl rfl rfl rfl (.tmp rfl (.tmp rfl .nil))) ⟨m32, q31, s6, s7, s31, rfl, (hm5.trans hm32), hS.sel [0] (by decide), (h6.mono hm32.le), (h7.mono hm32.le), h31⟩

theorem c_spec_DrawBaseTables (p_code : List (K .u8)) (r : impl_Geo × (List impl_Variable) × (List impl_Table)) (hr : spec_DrawBaseTables p_code = some r) (w0 : World) (m : Mem) (hv : Vis m w0) (s1 : Sl) (h1 : Rd m s1 p_code) :
  Ret Try.prog 14 [s1.v] w0 (fun v w => ∃ (m' : Mem) (q2' : Piece) (s0' : Sl) (s1' : Sl) (s2' : Sl), v = (.tuple #[(.agg #[s0'.v]), s1'.v, s2'.v]) ∧ MLe [] w0.heap.size m m' ∧ St [] w0 w m' [q2'] ∧ Rd m' s0' r.1.Parents ∧ Rd m' s1' r.2.1 ∧ OwnL m' 29 q2' s2' r.2.2) := by
 unfold spec_DrawBaseTables at hr
 refine ret_start Try.func14 rfl 10 rfl rfl m hv fun a hF hS => q_seq (q_region (q_alloc (cs := [nilS.v]) hF hS rfl rfl rfl fun a w b2 hF hS => q_x (v := nilS.v) hF hS (ex_assign rfl) rfl rfl fun a hF => q_x (v := nilS.v) hF hS (ex_assign rfl) rfl rfl fun a hF => q_end (n_sq (q_seq (q_region (q_x (v := s1.v) hF hS (ex_move rfl) rfl rfl fun a hF => ?_))))))
 obtain ⟨t_3, ht_3, hr⟩ := bindS hr
 refine q_call (vs := [s1.v]) hF hS Try.func38 (by kernel_rfl) rfl rfl rfl (c_spec_DrawSourcesIn p_code t_3 ht_3 _ m hS.vis s1 h1) ?_
 have hT := hS
 rintro a w _ ⟨m4, q7, s5, s6, s7, rfl, hm4, hR4, h5, h6, h7⟩ hF hS2
 have hS : St _ _ _ _ [q7, [⟨b2, [nilS.v], 26⟩]] := hS.join hR4 hm4
 have hm4 := MLe.weakX (O0 := []) hT hm4
 refine q_x (v := (.agg #[s5.v])) hF hS (ex_extract rfl rfl) rfl rfl fun a hF => q_x (v := s6.v) hF hS (ex_extract rfl rfl) rfl rfl fun a hF => q_x (v := s7.v) hF hS (ex_extract rfl rfl) rfl rfl fun a hF => q_store (vs := [s5.v]) (cs' := [s5.v]) 1 0 hF hS sz26 rfl rfl rfl rfl rfl rfl rfl rfl fun a w hF hS => q_x (v := s6.v) hF hS (ex_assign rfl) rfl rfl fun a hF => q_x (v := s7.v) hF hS (ex_assign rfl) rfl rfl fun a hF => q_end (n_sq (q_ret ?_))
 obtain rfl := someI hr
 exact ret_of hF hS rfl (.cellA (us := [s5.v]) 1 0 Try.underlying26 rfl sz26 rfl rfl rfl rfl (.tmp rfl (.tmp rfl .nil))) ⟨m4, q7, s5, s6, s7, rfl, hm4, hS.sel [0] (by decide), h5, h6, h7⟩

theorem c_impl_IsGeo (p_g : impl_Geo) (r : Bool) (hr : impl_IsGeo p_g = some r) (w0 : World) (m : Mem) (hv : Vis m w0) (s1 : Sl) (h1 : Rd m s1 p_g.Parents) :
  Ret Try.prog 55 [(.agg #[s1.v])] w0 (fun v _ => v = (.bool r)) := by
 unfold impl_IsGeo at hr
 refine ret_start Try.func55 rfl 43 rfl rfl m hv fun a hF hS => q_seq (q_region (q_box (cs := [s1.v]) hF hS rfl rfl rfl fun a w b2 hF hS => q_x (v := (.bool false)) hF hS (ex_assign rfl) rfl rfl fun a hF => q_end (n_sq (q_seq (q_seq ?_)))))
 obtain ⟨t_5, hj1, hr⟩ := bindS hr
 refine q_join (fun a w => Fr a 43 [(1, (.pointer (some ⟨b2, 0, none⟩))), (20, (.bool t_5))] ∧ St [] w0 w m [[⟨b2, [s1.v], 26⟩]]) ?_ ?_
 ·refine q_region (q_x (v := (.pointer (some ⟨b2, 0, none⟩))) hF hS (ex_fieldAddr Try.underlying26 rfl sz24 rfl rfl) rfl rfl fun a hF => q_x (v := s1.v) hF hS (ex_load1 0 0 Try.underlying24 rfl rfl rfl rfl) rfl rfl fun a hF => q_x (v := (.int .i64 (goLen p_g.Parents))) hF hS (ex_len Try.underlying24 rfl h1.len) rfl rfl fun a hF => q_x (v := (.bool (decide ((goLen p_g.Parents) < 1)))) hF hS (ex_ibin rfl rfl rfl) rfl rfl fun a hF => q_x (v := (.bool (decide ((goLen p_g.Parents) < 1)))) hF hS (ex_move rfl) rfl rfl fun a hF => ?_)
  rcases bcase (decide ((goLen p_g.Parents) < 1)) with hc2 | hc2
  ·have hj1 := cond_f hc2 hj1
   refine q_xg (v := (.pointer (some ⟨b2, 0, none⟩))) hF hS (ex_fieldAddr Try.underlying26 rfl sz24 rfl rfl) (wanted_t hF rfl rfl rfl hc2) rfl fun a hF => q_xg (v := s1.v) hF hS (ex_load1 0 0 Try.underlying24 rfl rfl rfl rfl) (wanted_t hF rfl rfl rfl hc2) rfl fun a hF => q_xg (v := (.int .i64 (goLen p_g.Parents))) hF hS (ex_len Try.underlying24 rfl h1.len) (wanted_t hF rfl rfl rfl hc2) rfl fun a hF => q_xg (v := (.bool (decide (30 < (goLen p_g.Parents))))) hF hS (ex_ibin rfl rfl rfl) (wanted_t hF rfl rfl rfl hc2) rfl fun a hF => q_x (v := (.bool (decide (30 < (goLen p_g.Parents))))) hF hS (ex_pick_f rfl rfl hc2) rfl rfl fun a hF => q_x (v := (.bool (decide (30 < (goLen p_g.Parents))))) hF hS (ex_move rfl) rfl rfl fun a hF => ?_
   rcases bcase (decide (30 < (goLen p_g.Parents))) with hc3 | hc3
   ·have hj1 := cond_f hc3 hj1
    refine q_xg (v := (.pointer (some ⟨b2, 0, none⟩))) hF hS (ex_fieldAddr Try.underlying26 rfl sz24 rfl rfl) (wanted_t hF rfl rfl rfl hc3) rfl fun a hF => q_xg (v := s1.v) hF hS (ex_load1 0 0 Try.underlying24 rfl rfl rfl rfl) (wanted_t hF rfl rfl rfl hc3) rfl fun a hF => ?_
    obtain ⟨e_3, he_3, hj1⟩ := bindS hj1
    obtain ⟨vs4, at4, d4⟩ := h1.at he_3 1 rfl
    obtain rfl : vs4 = [(.int .i64 e_3)] := d4
    refine q_xg (v := (elP s1 ((0 : Int).toNat * 1))) hF hS (ex_indexAddr Try.underlying24 sz3 rfl rfl (h1.idx he_3)) (wanted_t hF rfl rfl rfl hc3) rfl fun a hF => q_xg (v := (.int .i64 e_3)) hF hS (ex_loadE1 0 Try.underlying3 rfl rfl ((at4).at) rfl rfl) (wanted_t hF rfl rfl rfl hc3) rfl fun a hF => q_xg (v := (.bool (e_3 != (-1)))) hF hS (ex_ibin rfl rfl rfl) (wanted_t hF rfl rfl rfl hc3) rfl fun a hF => q_x (v := (.bool (e_3 != (-1)))) hF hS (ex_pick_f rfl rfl hc3) rfl rfl fun a hF => q_end (n_jn ?_)
    obtain rfl := someI hj1
    exact ⟨hF.sub ⟨rfl, rfl, trivial⟩, hS⟩
   ·have hj1 := cond_t hc3 hj1
    refine q_skip hF (wanted_f hF rfl rfl rfl hc3 rfl) rfl fun a hF => q_skip hF (wanted_f hF rfl rfl rfl hc3 rfl) rfl fun a hF => q_skip hF (wanted_f hF rfl rfl rfl hc3 rfl) rfl fun a hF => q_skip hF (wanted_f hF rfl rfl rfl hc3 rfl) rfl fun a hF => q_skip hF (wanted_f hF rfl rfl rfl hc3 rfl) rfl fun a hF => q_x (v := (.bool true)) hF hS (ex_pick_t rfl rfl hc3) rfl rfl fun a hF => q_end (n_jn ?_)
    obtain rfl := someI hj1
    exact ⟨hF.sub ⟨rfl, rfl, trivial⟩, hS⟩
  ·have hj1 := cond_t hc2 hj1
   refine q_skip hF (wanted_f hF rfl rfl rfl hc2 rfl) rfl fun a hF => q_skip hF (wanted_f hF rfl rfl rfl hc2 rfl) rfl fun a hF => q_skip hF (wanted_f hF rfl rfl rfl hc2 rfl) rfl fun a hF => q_skip hF (wanted_f hF rfl rfl rfl hc2 rfl) rfl fun a hF => q_x (v := (.bool true)) hF hS (ex_pick_t rfl rfl hc2) rfl rfl fun a hF => q_x (v := (.bool true)) hF hS (ex_move rfl) rfl rfl fun a hF => q_skip hF (wanted_f hF rfl rfl rfl rfl rfl) rfl fun a hF => q_skip hF (wanted_f hF rfl rfl rfl rfl rfl) rfl fun a hF => q_skip hF (wanted_f hF rfl rfl rfl rfl rfl) rfl fun a hF => q_skip hF (wanted_f hF rfl rfl rfl rfl rfl) rfl fun a hF => q_skip hF (wanted_f hF rfl rfl rfl rfl rfl) rfl fun a hF => q_x (v := (.bool true)) hF hS (ex_pick_t rfl rfl rfl) rfl rfl fun a hF => q_end (n_jn ?_)
   obtain rfl := someI hj1
   exact ⟨hF.sub ⟨rfl, rfl, trivial⟩, hS⟩
 ·rintro a w ⟨hF, hS⟩
  refine n_sq ?_
  rcases bcase (t_5) with hc4 | hc4
  ·have hr := cond_f hc4 hr
   refine q_cond_f hF rfl hc4 (q_skipc (n_sq (q_seq (q_seq (q_region (q_x (v := (.int .i64 1)) hF hS (ex_assign rfl) rfl rfl fun a hF => q_end (n_sq (q_block ?_))))))))
   obtain ⟨o5, hl5, hr⟩ := bindS hr
   refine q_loop (fun (i_6 : Int) a w => Fr a 43 [(1, (.pointer (some ⟨b2, 0, none⟩))), (3, (.int .i64 i_6))] ∧ St [] w0 w m [[⟨b2, [s1.v], 26⟩]]) (fun (o : (Unit) ⊕ (Bool)) e a w => o = .inl () ∧ e = .exit 0 ∧ Fr a 43 [] ∧ St [] w0 w m []) hl5 ⟨hF.sub ⟨rfl, rfl, trivial⟩, hS⟩ ?_ ?_
   ·clear hF hS
    rintro i_6 a w st ⟨hF, hS⟩ hb5
    unfold impl_IsGeo_l1 at hb5
    refine q_seq (q_seq (q_region (q_x (v := (.int .i64 i_6)) hF hS (ex_move rfl) rfl rfl fun a hF => q_x (v := (.pointer (some ⟨b2, 0, none⟩))) hF hS (ex_fieldAddr Try.underlying26 rfl sz24 rfl rfl) rfl rfl fun a hF => q_x (v := s1.v) hF hS (ex_load1 0 0 Try.underlying24 rfl rfl rfl rfl) rfl rfl fun a hF => q_x (v := (.int .i64 (goLen p_g.Parents))) hF hS (ex_len Try.underlying24 rfl h1.len) rfl rfl fun a hF => q_x (v := (.bool (decide (i_6 < (goLen p_g.Parents))))) hF hS (ex_ibin rfl rfl rfl) rfl rfl fun a hF => q_end (n_sq ?_))))
    rcases bcase (decide (i_6 < (goLen p_g.Parents))) with hc6 | hc6
    ·have hb5 := cond_f hc6 hb5
     refine q_cond_f hF rfl hc6 (q_exit (x_sq ?_))
     obtain rfl := someI hb5
     exact ⟨nofun, .inl ⟨rfl, rfl, hF.sub trivial, hS.mask [false]⟩⟩
    ·have hb5 := cond_t hc6 hb5
     refine q_cond_t hF rfl hc6 (q_skipc (n_sq (q_seq (q_block (q_seq ?_)))))
     obtain ⟨t_11, hj7, hb5⟩ := bindS hb5
     refine q_join (fun a w => Fr a 43 [(1, (.pointer (some ⟨b2, 0, none⟩))), (3, (.int .i64 i_6)), (42, (.bool t_11))] ∧ St [] w0 w m [[⟨b2, [s1.v], 26⟩]]) ?_ ?_
     ·refine q_region (q_x (v := (.pointer (some ⟨b2, 0, none⟩))) hF hS (ex_fieldAddr Try.underlying26 rfl sz24 rfl rfl) rfl rfl fun a hF => q_x (v := s1.v) hF hS (ex_load1 0 0 Try.underlying24 rfl rfl rfl rfl) rfl rfl fun a hF => q_x (v := (.int .i64 i_6)) hF hS (ex_move rfl) rfl rfl fun a hF => ?_)
      obtain ⟨e_7, he_7, hj7⟩ := bindS hj7
      obtain ⟨vs8, at8, d8⟩ := h1.at he_7 1 rfl
      obtain rfl : vs8 = [(.int .i64 e_7)] := d8
      refine q_x (v := (elP s1 (i_6.toNat * 1))) hF hS (ex_indexAddr Try.underlying24 sz3 rfl rfl (h1.idx he_7)) rfl rfl fun a hF => q_x (v := (.int .i64 e_7)) hF hS (ex_loadE1 0 Try.underlying3 rfl rfl ((at8).at) rfl rfl) rfl rfl fun a hF => q_x (v := (.bool (decide (e_7 < 0)))) hF hS (ex_ibin rfl rfl rfl) rfl rfl fun a hF => q_x (v := (.bool (decide (e_7 < 0)))) hF hS (ex_move rfl) rfl rfl fun a hF => ?_
      rcases bcase (decide (e_7 < 0)) with hc8 | hc8
      ·have hj7 := cond_f hc8 hj7
       refine q_xg (v := (.pointer (some ⟨b2, 0, none⟩))) hF hS (ex_fieldAddr Try.underlying26 rfl sz24 rfl rfl) (wanted_t hF rfl rfl rfl hc8) rfl fun a hF => q_xg (v := s1.v) hF hS (ex_load1 0 0 Try.underlying24 rfl rfl rfl rfl) (wanted_t hF rfl rfl rfl hc8) rfl fun a hF => q_xg (v := (.int .i64 i_6)) hF hS (ex_move rfl) (wanted_t hF rfl rfl rfl hc8) rfl fun a hF => ?_
       obtain ⟨e_9, he_9, hj7⟩ := bindS hj7
       obtain ⟨vs10, at10, d10⟩ := h1.at he_9 1 rfl
       obtain rfl : vs10 = [(.int .i64 e_9)] := d10
       refine q_xg (v := (elP s1 (i_6.toNat * 1))) hF hS (ex_indexAddr Try.underlying24 sz3 rfl rfl (h1.idx he_9)) (wanted_t hF rfl rfl rfl hc8) rfl fun a hF => q_xg (v := (.int .i64 e_9)) hF hS (ex_loadE1 0 Try.underlying3 rfl rfl ((at10).at) rfl rfl) (wanted_t hF rfl rfl rfl hc8) rfl fun a hF => q_xg (v := (.int .i64 i_6)) hF hS (ex_move rfl) (wanted_t hF rfl rfl rfl hc8) rfl fun a hF => q_xg (v := (.bool (decide (i_6 ≤ e_9)))) hF hS (ex_ibin rfl rfl rfl) (wanted_t hF rfl rfl rfl hc8) rfl fun a hF => q_x (v := (.bool (decide (i_6 ≤ e_9)))) hF hS (ex_pick_f rfl rfl hc8) rfl rfl fun a hF => q_end (n_jn ?_)
       obtain rfl := someI hj7
       exact ⟨hF.sub ⟨rfl, rfl, rfl, trivial⟩, hS⟩
      ·have hj7 := cond_t hc8 hj7
       refine q_skip hF (wanted_f hF rfl rfl rfl hc8 rfl) rfl fun a hF => q_skip hF (wanted_f hF rfl rfl rfl hc8 rfl) rfl fun a hF => q_skip hF (wanted_f hF rfl rfl rfl hc8 rfl) rfl fun a hF => q_skip hF (wanted_f hF rfl rfl rfl hc8 rfl) rfl fun a hF => q_skip hF (wanted_f hF rfl rfl rfl hc8 rfl) rfl fun a hF => q_skip hF (wanted_f hF rfl rfl rfl hc8 rfl) rfl fun a hF => q_skip hF (wanted_f hF rfl rfl rfl hc8 rfl) rfl fun a hF => q_x (v := (.bool true)) hF hS (ex_pick_t rfl rfl hc8) rfl rfl fun a hF => q_end (n_jn ?_)
       obtain rfl := someI hj7
       exact ⟨hF.sub ⟨rfl, rfl, rfl, trivial⟩, hS⟩
     ·rintro a w ⟨hF, hS⟩
      refine n_sq ?_
      rcases bcase (t_11) with hc9 | hc9
      ·have hb5 := cond_f hc9 hb5
       refine q_cond_f hF rfl hc9 (q_skipc (n_ib (n_sq (q_region (q_x (v := (.int .i64 i_6)) hF hS (ex_move rfl) rfl rfl fun a hF => q_x (v := (.int .i64 (w64 (i_6 + 1)))) hF hS (ex_ibin rfl rfl rfl) rfl rfl fun a hF => q_x (v := (.int .i64 (w64 (i_6 + 1)))) hF hS (ex_assign rfl) rfl rfl fun a hF => q_end ?_)))))
       obtain rfl := someI hb5
       exact ⟨rfl, hF.sub ⟨rfl, rfl, trivial⟩, hS⟩
      ·have hb5 := cond_t hc9 hb5
       refine q_cond_t hF rfl hc9 (q_seq (q_region (q_x (v := (.bool false)) hF hS (ex_assign rfl) rfl rfl fun a hF => q_end (n_sq (q_ret (r_ib (r_sq ?_)))))))
       obtain rfl := someI hb5
       refine ⟨nofun, .inr fun ho => ?_⟩
       subst ho
       refine r_ib (r_sq ?_)
       obtain rfl := someI hr
       exact ret_of hF hS rfl (.tmp rfl .nil) rfl
   ·rintro e a w ⟨rfl, rfl, hF, hS⟩
    refine x_ib (n_sq ?_)
    refine q_seq (q_region (q_x (v := (.bool true)) hF hS (ex_assign rfl) rfl rfl fun a hF => q_end (n_sq (q_ret ?_))))
    obtain rfl := someI hr
    exact ret_of hF hS rfl (.tmp rfl .nil) rfl
  ·have hr := cond_t hc4 hr
   refine q_cond_t hF rfl hc4 (q_seq (q_region (q_x (v := (.bool false)) hF hS (ex_assign rfl) rfl rfl fun a hF => q_end (n_sq (q_ret (r_sq ?_))))))
   obtain rfl := someI hr
   exact ret_of hF hS rfl (.tmp rfl .nil) rfl

theorem c_impl_isWord (p_s : List UInt8) (r : Bool) (hr : impl_isWord p_s = some r) (w0 : World) (m : Mem) (hv : Vis m w0) :
  Ret Try.prog 90 [(strV p_s)] w0 (fun v _ => v = (.bool r)) := by
 unfold impl_isWord at hr
 refine ret_start Try.func90 rfl 28 rfl rfl m hv fun a hF hS => q_seq (q_region (q_x (v := (.bool false)) hF hS (ex_assign rfl) rfl rfl fun a hF => q_end (n_sq (q_seq (q_seq ?_)))))
 obtain ⟨t_1, hj1, hr⟩ := bindS hr
 refine q_join (fun a w => Fr a 28 [(0, (strV p_s)), (11, (.bool t_1))] ∧ St [] w0 w m []) ?_ ?_
 ·refine q_region (q_x (v := (strV p_s)) hF hS (ex_move rfl) rfl rfl fun a hF => q_x (v := (.int .i64 (goLen p_s))) hF hS (ex_strLen Try.underlying9 rfl) rfl rfl fun a hF => q_x (v := (.bool (decide ((goLen p_s) < 1)))) hF hS (ex_ibin rfl rfl rfl) rfl rfl fun a hF => q_x (v := (.bool (decide ((goLen p_s) < 1)))) hF hS (ex_move rfl) rfl rfl fun a hF => ?_)
  rcases bcase (decide ((goLen p_s) < 1)) with hc2 | hc2
  ·have hj1 := cond_f hc2 hj1
   refine q_xg (v := (strV p_s)) hF hS (ex_move rfl) (wanted_t hF rfl rfl rfl hc2) rfl fun a hF => q_xg (v := (.int .i64 (goLen p_s))) hF hS (ex_strLen Try.underlying9 rfl) (wanted_t hF rfl rfl rfl hc2) rfl fun a hF => q_xg (v := (.bool (decide (8 < (goLen p_s))))) hF hS (ex_ibin rfl rfl rfl) (wanted_t hF rfl rfl rfl hc2) rfl fun a hF => q_x (v := (.bool (decide (8 < (goLen p_s))))) hF hS (ex_pick_f rfl rfl hc2) rfl rfl fun a hF => q_end (n_jn ?_)
   obtain rfl := someI hj1
   exact ⟨hF.sub ⟨rfl, rfl, trivial⟩, hS⟩
  ·have hj1 := cond_t hc2 hj1
   refine q_skip hF (wanted_f hF rfl rfl rfl hc2 rfl) rfl fun a hF => q_skip hF (wanted_f hF rfl rfl rfl hc2 rfl) rfl fun a hF => q_skip hF (wanted_f hF rfl rfl rfl hc2 rfl) rfl fun a hF => q_x (v := (.bool true)) hF hS (ex_pick_t rfl rfl hc2) rfl rfl fun a hF => q_end (n_jn ?_)
   obtain rfl := someI hj1
   exact ⟨hF.sub ⟨rfl, rfl, trivial⟩, hS⟩
 ·rintro a w ⟨hF, hS⟩
  refine n_sq ?_
  rcases bcase (t_1) with hc3 | hc3
  ·have hr := cond_f hc3 hr
   refine q_cond_f hF rfl hc3 (q_skipc (n_sq (q_seq (q_seq (q_region (q_x (v := (strV p_s)) hF hS (ex_move rfl) rfl rfl fun a hF => q_x (v := (.int .i64 (goLen p_s))) hF hS (ex_strLen Try.underlying9 rfl) rfl rfl fun a hF => q_x (v := (.int .i64 0)) hF hS (ex_move rfl) rfl rfl fun a hF => q_end (n_sq (q_block ?_))))))))
   obtain ⟨o4, hl4, hr⟩ := bindS hr
   refine q_loop (fun (t_2 : Int) a w => Fr a 28 [(0, (strV p_s)), (13, (.int .i64 (goLen p_s))), (14, (.int .i64 t_2))] ∧ St [] w0 w m []) (fun (o : (Unit) ⊕ (Bool)) e a w => o = .inl () ∧ e = .exit 0 ∧ Fr a 28 [] ∧ St [] w0 w m []) hl4 ⟨hF.sub ⟨rfl, rfl, rfl, trivial⟩, hS⟩ ?_ ?_
   ·clear hF hS
    rintro t_2 a w st ⟨hF, hS⟩ hb4
    unfold impl_isWord_l1 at hb4
    refine q_seq (q_region (q_x (v := (.bool (decide (t_2 < (goLen p_s))))) hF hS (ex_ibin rfl rfl rfl) rfl rfl fun a hF => q_end (n_sq (q_seq ?_))))
    rcases bcase (decide (t_2 < (goLen p_s))) with hc5 | hc5
    ·have hb4 := cond_f hc5 hb4
     refine q_cond_f hF rfl hc5 (q_exit (x_sq ?_))
     obtain rfl := someI hb4
     exact ⟨nofun, .inl ⟨rfl, rfl, hF.sub trivial, hS⟩⟩
    ·have hb4 := cond_t hc5 hb4
     refine q_cond_t hF rfl hc5 (q_skipc (n_sq (q_seq (q_block (q_seq (q_region (q_x (v := (.int .i64 t_2)) hF hS (ex_move rfl) rfl rfl fun a hF => q_x (v := (.int .i64 t_2)) hF hS (ex_assign rfl) rfl rfl fun a hF => q_end (n_sq (q_seq ?_)))))))))
     obtain ⟨t_5, hj6, hb4⟩ := bindS hb4
     refine q_join (fun a w => Fr a 28 [(0, (strV p_s)), (13, (.int .i64 (goLen p_s))), (14, (.int .i64 t_2)), (26, (.bool t_5))] ∧ St [] w0 w m []) ?_ ?_
     ·refine q_region (q_x (v := (strV p_s)) hF hS (ex_move rfl) rfl rfl fun a hF => q_x (v := (.int .i64 t_2)) hF hS (ex_move rfl) rfl rfl fun a hF => ?_)
      obtain ⟨t_3, ht_3, hj6⟩ := bindS hj6
      refine q_x (v := (.int .u8 t_3)) hF hS (ex_strIdx Try.underlying9 rfl rfl ht_3) rfl rfl fun a hF => q_x (v := (.bool (decide (t_3 < 97)))) hF hS (ex_ibin rfl rfl rfl) rfl rfl fun a hF => q_x (v := (.bool (decide (t_3 < 97)))) hF hS (ex_move rfl) rfl rfl fun a hF => ?_
      rcases bcase (decide (t_3 < 97)) with hc7 | hc7
      ·have hj6 := cond_f hc7 hj6
       refine q_xg (v := (strV p_s)) hF hS (ex_move rfl) (wanted_t hF rfl rfl rfl hc7) rfl fun a hF => q_xg (v := (.int .i64 t_2)) hF hS (ex_move rfl) (wanted_t hF rfl rfl rfl hc7) rfl fun a hF => ?_
       obtain ⟨t_4, ht_4, hj6⟩ := bindS hj6
       refine q_xg (v := (.int .u8 t_4)) hF hS (ex_strIdx Try.underlying9 rfl rfl ht_4) (wanted_t hF rfl rfl rfl hc7) rfl fun a hF => q_xg (v := (.bool (decide (122 < t_4)))) hF hS (ex_ibin rfl rfl rfl) (wanted_t hF rfl rfl rfl hc7) rfl fun a hF => q_x (v := (.bool (decide (122 < t_4)))) hF hS (ex_pick_f rfl rfl hc7) rfl rfl fun a hF => q_end (n_jn ?_)
       obtain rfl := someI hj6
       exact ⟨hF.sub ⟨rfl, rfl, rfl, rfl, trivial⟩, hS⟩
      ·have hj6 := cond_t hc7 hj6
       refine q_skip hF (wanted_f hF rfl rfl rfl hc7 rfl) rfl fun a hF => q_skip hF (wanted_f hF rfl rfl rfl hc7 rfl) rfl fun a hF => q_skip hF (wanted_f hF rfl rfl rfl hc7 rfl) rfl fun a hF => q_skip hF (wanted_f hF rfl rfl rfl hc7 rfl) rfl fun a hF => q_x (v := (.bool true)) hF hS (ex_pick_t rfl rfl hc7) rfl rfl fun a hF => q_end (n_jn ?_)
       obtain rfl := someI hj6
       exact ⟨hF.sub ⟨rfl, rfl, rfl, rfl, trivial⟩, hS⟩
     ·rintro a w ⟨hF, hS⟩
      refine n_sq ?_
      rcases bcase (t_5) with hc8 | hc8
      ·have hb4 := cond_f hc8 hb4
       refine q_cond_f hF rfl hc8 (q_skipc (n_ib (n_sq (q_region (q_x (v := (.int .i64 (w64 (t_2 + 1)))) hF hS (ex_ibin rfl rfl rfl) rfl rfl fun a hF => q_x (v := (.int .i64 (w64 (t_2 + 1)))) hF hS (ex_move rfl) rfl rfl fun a hF => q_end ?_)))))
       obtain rfl := someI hb4
       exact ⟨rfl, hF.sub ⟨rfl, rfl, rfl, trivial⟩, hS⟩
      ·have hb4 := cond_t hc8 hb4
       refine q_cond_t hF rfl hc8 (q_seq (q_region (q_x (v := (.bool false)) hF hS (ex_assign rfl) rfl rfl fun a hF => q_end (n_sq (q_ret (r_ib (r_sq ?_)))))))
       obtain rfl := someI hb4
       refine ⟨nofun, .inr fun ho => ?_⟩
       subst ho
       refine r_ib (r_sq ?_)
       obtain rfl := someI hr
       exact ret_of hF hS rfl (.tmp rfl .nil) rfl
   ·rintro e a w ⟨rfl, rfl, hF, hS⟩
    refine x_ib (n_sq ?_)
    refine q_seq (q_region (q_x (v := (.bool true)) hF hS (ex_assign rfl) rfl rfl fun a hF => q_end (n_sq (q_ret ?_))))
    obtain rfl := someI hr
    exact ret_of hF hS rfl (.tmp rfl .nil) rfl
  ·have hr := cond_t hc3 hr
   refine q_cond_t hF rfl hc3 (q_seq (q_region (q_x (v := (.bool false)) hF hS (ex_assign rfl) rfl rfl fun a hF => q_end (n_sq (q_ret (r_sq ?_))))))
   obtain rfl := someI hr
   exact ret_of hF hS rfl (.tmp rfl .nil) rfl

theorem c_impl_IsSchema (p_s : List impl_Variable) (r : Bool) (hr : impl_IsSchema p_s = some r) (w0 : World) (m : Mem) (hv : Vis m w0) (s1 : Sl) (h1 : Rd m s1 p_s) :
  Ret Try.prog 56 [s1.v] w0 (fun v _ => v = (.bool r)) := by
 unfold impl_IsSchema at hr
 refine ret_start Try.func56 rfl 51 rfl rfl m hv fun a hF hS => q_seq (q_region (q_x (v := (.bool false)) hF hS (ex_assign rfl) rfl rfl fun a hF => q_end (n_sq (q_seq (q_seq ?_)))))
 obtain ⟨t_2, hj1, hr⟩ := bindS hr
 refine q_join (fun a w => Fr a 51 [(0, s1.v), (14, (.bool t_2))] ∧ St [] w0 w m []) ?_ ?_
 ·refine q_region (q_x (v := s1.v) hF hS (ex_move rfl) rfl rfl fun a hF => q_x (v := (.int .i64 (goLen p_s))) hF hS (ex_len Try.underlying27 rfl h1.len) rfl rfl fun a hF => q_x (v := (.bool (decide ((goLen p_s) < 1)))) hF hS (ex_ibin rfl rfl rfl) rfl rfl fun a hF => q_x (v := (.bool (decide ((goLen p_s) < 1)))) hF hS (ex_move rfl) rfl rfl fun a hF => ?_)
  rcases bcase (decide ((goLen p_s) < 1)) with hc2 | hc2
  ·have hj1 := cond_f hc2 hj1
   refine q_xg (v := s1.v) hF hS (ex_move rfl) (wanted_t hF rfl rfl rfl hc2) rfl fun a hF => q_xg (v := (.int .i64 (goLen p_s))) hF hS (ex_len Try.underlying27 rfl h1.len) (wanted_t hF rfl rfl rfl hc2) rfl fun a hF => q_xg (v := (.bool (decide (6 < (goLen p_s))))) hF hS (ex_ibin rfl rfl rfl) (wanted_t hF rfl rfl rfl hc2) rfl fun a hF => q_x (v := (.bool (decide (6 < (goLen p_s))))) hF hS (ex_pick_f rfl rfl hc2) rfl rfl fun a hF => q_end (n_jn ?_)
   obtain rfl := someI hj1
   exact ⟨hF.sub ⟨rfl, rfl, trivial⟩, hS⟩
  ·have hj1 := cond_t hc2 hj1
   refine q_skip hF (wanted_f hF rfl rfl rfl hc2 rfl) rfl fun a hF => q_skip hF (wanted_f hF rfl rfl rfl hc2 rfl) rfl fun a hF => q_skip hF (wanted_f hF rfl rfl rfl hc2 rfl) rfl fun a hF => q_x (v := (.bool true)) hF hS (ex_pick_t rfl rfl hc2) rfl rfl fun a hF => q_end (n_jn ?_)
   obtain rfl := someI hj1
   exact ⟨hF.sub ⟨rfl, rfl, trivial⟩, hS⟩
 ·rintro a w ⟨hF, hS⟩
  refine n_sq ?_
  rcases bcase (t_2) with hc3 | hc3
  ·have hr := cond_f hc3 hr
   refine q_cond_f hF rfl hc3 (q_skipc (n_sq (q_seq (q_seq (q_region (q_x (v := s1.v) hF hS (ex_move rfl) rfl rfl fun a hF => q_x (v := (.int .i64 (goLen p_s))) hF hS (ex_len Try.underlying27 rfl h1.len) rfl rfl fun a hF => q_x (v := (.int .i64 0)) hF hS (ex_move rfl) rfl rfl fun a hF => q_end (n_sq (q_block ?_))))))))
   obtain ⟨o4, hl4, hr⟩ := bindS hr
   refine q_loop (fun (t_3 : Int) a w => Fr a 51 [(0, s1.v), (15, s1.v), (16, (.int .i64 (goLen p_s))), (17, (.int .i64 t_3))] ∧ St [] w0 w m []) (fun (o : (Unit) ⊕ (Bool)) e a w => o = .inl () ∧ e = .exit 0 ∧ Fr a 51 [] ∧ St [] w0 w m []) hl4 ⟨hF.sub ⟨rfl, rfl, rfl, rfl, trivial⟩, hS⟩ ?_ ?_
   ·clear hF hS
    rintro t_3 a w st ⟨hF, hS⟩ hb4
    unfold impl_IsSchema_l1 at hb4
    refine q_seq (q_region (q_x (v := (.bool (decide (t_3 < (goLen p_s))))) hF hS (ex_ibin rfl rfl rfl) rfl rfl fun a hF => q_end (n_sq (q_seq ?_))))
    rcases bcase (decide (t_3 < (goLen p_s))) with hc5 | hc5
    ·have hb4 := cond_f hc5 hb4
     refine q_cond_f hF rfl hc5 (q_exit (x_sq ?_))
     obtain rfl := someI hb4
     exact ⟨nofun, .inl ⟨rfl, rfl, hF.sub trivial, hS⟩⟩
    ·have hb4 := cond_t hc5 hb4
     refine q_cond_t hF rfl hc5 (q_skipc (n_sq (q_seq (q_block (q_seq (q_region (q_x (v := (.int .i64 t_3)) hF hS (ex_move rfl) rfl rfl fun a hF => ?_)))))))
     obtain ⟨e_4, he_4, hb4⟩ := bindS hb4
     obtain ⟨vs5, at5, d5⟩ := h1.at he_4 2 rfl
     obtain rfl : vs5 = [(strV e_4.Name), (.int .i64 e_4.Levels)] := d5
     refine q_x (v := (elP s1 (t_3.toNat * 2))) hF hS (ex_indexAddr Try.underlying27 sz58 rfl rfl (h1.idx he_4)) rfl rfl fun a hF => q_x (v := (.agg #[(strV e_4.Name), (.int .i64 e_4.Levels)])) hF hS (ex_loadEA (us := [(strV e_4.Name), (.int .i64 e_4.Levels)]) 0 Try.underlying58 rfl sz58 rfl ((at5).at) rfl rfl rfl) rfl rfl fun a hF => q_alloc (cs := [(strV ([] : List UInt8)), (.int .i64 0)]) hF hS rfl rfl rfl fun a w b6 hF hS => q_x (v := (.int .i64 t_3)) hF hS (ex_assign rfl) rfl rfl fun a hF => q_store (vs := [(strV e_4.Name), (.int .i64 e_4.Levels)]) (cs' := [(strV e_4.Name), (.int .i64 e_4.Levels)]) 0 0 hF hS sz58 rfl rfl rfl rfl rfl rfl rfl rfl fun a w hF hS => q_end (n_sq (q_seq (q_seq ?_)))
     obtain ⟨t_8, hj6, hb4⟩ := bindS hb4
     refine q_join (fun a w => Fr a 51 [(0, s1.v), (3, (.int .i64 t_3)), (4, (.pointer (some ⟨b6, 0, none⟩))), (15, s1.v), (16, (.int .i64 (goLen p_s))), (17, (.int .i64 t_3)), (35, (.bool t_8))] ∧ St [] w0 w m [[⟨b6, [(strV e_4.Name), (.int .i64 e_4.Levels)], 58⟩]]) ?_ ?_
     ·refine q_region (q_x (v := (.pointer (some ⟨b6, 0, none⟩))) hF hS (ex_fieldAddr Try.underlying58 rfl sz9 rfl rfl) rfl rfl fun a hF => q_x (v := (strV e_4.Name)) hF hS (ex_load1 0 0 Try.underlying9 rfl rfl rfl rfl) rfl rfl fun a hF => ?_)
      obtain ⟨t_7, ht_7, hj6⟩ := bindS hj6
      refine q_call (vs := [(strV e_4.Name)]) hF hS Try.func90 (by kernel_rfl) rfl rfl rfl (c_impl_isWord e_4.Name t_7 ht_7 _ m hS.vis) ?_
      rintro a w _ rfl hF hS
      refine q_x (v := (.bool (!t_7))) hF hS (ex_not rfl) rfl rfl fun a hF => q_x (v := (.bool (!t_7))) hF hS (ex_move rfl) rfl rfl fun a hF => ?_
      rcases bcase (!t_7) with hc7 | hc7
      ·have hj6 := cond_f hc7 hj6
       refine q_xg (v := (.pointer (some ⟨b6, 1, none⟩))) hF hS (ex_fieldAddr Try.underlying58 rfl sz3 rfl rfl) (wanted_t hF rfl rfl rfl hc7) rfl fun a hF => q_xg (v := (.int .i64 e_4.Levels)) hF hS (ex_load1 0 0 Try.underlying3 rfl rfl rfl rfl) (wanted_t hF rfl rfl rfl hc7) rfl fun a hF => q_xg (v := (.bool (decide (e_4.Levels < 2)))) hF hS (ex_ibin rfl rfl rfl) (wanted_t hF rfl rfl rfl hc7) rfl fun a hF => q_x (v := (.bool (decide (e_4.Levels < 2)))) hF hS (ex_pick_f rfl rfl hc7) rfl rfl fun a hF => q_x (v := (.bool (decide (e_4.Levels < 2)))) hF hS (ex_move rfl) rfl rfl fun a hF => ?_
       rcases bcase (decide (e_4.Levels < 2)) with hc8 | hc8
       ·have hj6 := cond_f hc8 hj6
        refine q_xg (v := (.pointer (some ⟨b6, 1, none⟩))) hF hS (ex_fieldAddr Try.underlying58 rfl sz3 rfl rfl) (wanted_t hF rfl rfl rfl hc8) rfl fun a hF => q_xg (v := (.int .i64 e_4.Levels)) hF hS (ex_load1 0 0 Try.underlying3 rfl rfl rfl rfl) (wanted_t hF rfl rfl rfl hc8) rfl fun a hF => q_xg (v := (.bool (decide (8 < e_4.Levels)))) hF hS (ex_ibin rfl rfl rfl) (wanted_t hF rfl rfl rfl hc8) rfl fun a hF => q_x (v := (.bool (decide (8 < e_4.Levels)))) hF hS (ex_pick_f rfl rfl hc8) rfl rfl fun a hF => q_end (n_jn ?_)
        obtain rfl := someI hj6
        exact ⟨hF.sub ⟨rfl, rfl, rfl, rfl, rfl, rfl, rfl, trivial⟩, hS⟩
       ·have hj6 := cond_t hc8 hj6
        refine q_skip hF (wanted_f hF rfl rfl rfl hc8 rfl) rfl fun a hF => q_skip hF (wanted_f hF rfl rfl rfl hc8 rfl) rfl fun a hF => q_skip hF (wanted_f hF rfl rfl rfl hc8 rfl) rfl fun a hF => q_x (v := (.bool true)) hF hS (ex_pick_t rfl rfl hc8) rfl rfl fun a hF => q_end (n_jn ?_)
        obtain rfl := someI hj6
        exact ⟨hF.sub ⟨rfl, rfl, rfl, rfl, rfl, rfl, rfl, trivial⟩, hS⟩
      ·have hj6 := cond_t hc7 hj6
       refine q_skip hF (wanted_f hF rfl rfl rfl hc7 rfl) rfl fun a hF => q_skip hF (wanted_f hF rfl rfl rfl hc7 rfl) rfl fun a hF => q_skip hF (wanted_f hF rfl rfl rfl hc7 rfl) rfl fun a hF => q_x (v := (.bool true)) hF hS (ex_pick_t rfl rfl hc7) rfl rfl fun a hF => q_x (v := (.bool true)) hF hS (ex_move rfl) rfl rfl fun a hF => q_skip hF (wanted_f hF rfl rfl rfl rfl rfl) rfl fun a hF => q_skip hF (wanted_f hF rfl rfl rfl rfl rfl) rfl fun a hF => q_skip hF (wanted_f hF rfl rfl rfl rfl rfl) rfl fun a hF => q_x (v := (.bool true)) hF hS (ex_pick_t rfl rfl rfl) rfl rfl fun a hF => q_end (n_jn ?_)
       obtain rfl := someI hj6
       exact ⟨hF.sub ⟨rfl, rfl, rfl, rfl, rfl, rfl, rfl, trivial⟩, hS⟩
     ·rintro a w ⟨hF, hS⟩
      refine n_sq ?_
      rcases bcase (t_8) with hc9 | hc9
      ·have hb4 := cond_f hc9 hb4
       refine q_cond_f hF rfl hc9 (q_skipc (n_sq (q_seq (q_region (q_x (v := s1.v) hF hS (ex_move rfl) rfl rfl fun a hF => q_x (v := (.int .i64 t_3)) hF hS (ex_move rfl) rfl rfl fun a hF => ?_)))))
       obtain ⟨l_9, hl_9, hb4⟩ := bindS hb4
       have h10 : Rd m (subS s1 2 (0 : Int).toNat t_3.toNat s1.cap) l_9 := h1.sub' hl_9 2 rfl
       refine q_x (v := (subS s1 2 (0 : Int).toNat t_3.toNat s1.cap).v) hF hS (ex_slice Try.underlying27 sz58 rfl rfl rfl (.inl ⟨rfl, rfl⟩) (.inr ⟨_, rfl⟩) (h1.subok hl_9)) rfl rfl fun a hF => q_x (v := (.int .i64 (goLen l_9))) hF hS (ex_len Try.underlying27 rfl h10.len) rfl rfl fun a hF => q_x (v := (.int .i64 0)) hF hS (ex_move rfl) rfl rfl fun a hF => q_end (n_sq (q_block ?_))
       obtain ⟨o10, hl10, hb4⟩ := bindS hb4
       refine q_loop (fun (t_11 : Int) a w => Fr a 51 [(0, s1.v), (4, (.pointer (some ⟨b6, 0, none⟩))), (15, s1.v), (16, (.int .i64 (goLen p_s))), (17, (.int .i64 t_3)), (38, (subS s1 2 (0 : Int).toNat t_3.toNat s1.cap).v), (39, (.int .i64 (goLen l_9))), (40, (.int .i64 t_11))] ∧ St [] w0 w m [[⟨b6, [(strV e_4.Name), (.int .i64 e_4.Levels)], 58⟩]]) (fun (o : (Unit) ⊕ (Stp (Int) ((Unit) ⊕ (Bool)))) e a w => o = .inl () ∧ e = .exit 2 ∧ Fr a 51 [(0, s1.v), (15, s1.v), (16, (.int .i64 (goLen p_s))), (17, (.int .i64 t_3))] ∧ St [] w0 w m []) hl10 ⟨hF.sub ⟨rfl, rfl, rfl, rfl, rfl, rfl, rfl, rfl, trivial⟩, hS⟩ ?_ ?_
       ·clear hF hS
        rintro t_11 a w st ⟨hF, hS⟩ hb10
        unfold impl_IsSchema_l2 at hb10
        refine q_seq (q_region (q_x (v := (.bool (decide (t_11 < (goLen l_9))))) hF hS (ex_ibin rfl rfl rfl) rfl rfl fun a hF => q_end (n_sq (q_seq ?_))))
        rcases bcase (decide (t_11 < (goLen l_9))) with hc11 | hc11
        ·have hb10 := cond_f hc11 hb10
         refine q_cond_f hF rfl hc11 (q_exit (x_sq ?_))
         obtain rfl := someI hb10
         exact ⟨nofun, .inl ⟨rfl, rfl, hF.sub ⟨rfl, rfl, rfl, rfl, trivial⟩, hS.mask [false]⟩⟩
        ·have hb10 := cond_t hc11 hb10
         refine q_cond_t hF rfl hc11 (q_skipc (n_sq (q_seq (q_block (q_seq (q_region ?_))))))
         obtain ⟨e_12, he_12, hb10⟩ := bindS hb10
         obtain ⟨vs13, at13, d13⟩ := h10.at he_12 2 rfl
         obtain rfl : vs13 = [(strV e_12.Name), (.int .i64 e_12.Levels)] := d13
         refine q_x (v := (elP (subS s1 2 (0 : Int).toNat t_3.toNat s1.cap) (t_11.toNat * 2))) hF hS (ex_indexAddr Try.underlying27 sz58 rfl rfl (h10.idx he_12)) rfl rfl fun a hF => q_x (v := (.agg #[(strV e_12.Name), (.int .i64 e_12.Levels)])) hF hS (ex_loadEA (us := [(strV e_12.Name), (.int .i64 e_12.Levels)]) 0 Try.underlying58 rfl sz58 rfl ((at13).at) rfl rfl rfl) rfl rfl fun a hF => q_alloc (cs := [(strV ([] : List UInt8)), (.int .i64 0)]) hF hS rfl rfl rfl fun a w b14 hF hS => q_store (vs := [(strV e_12.Name), (.int .i64 e_12.Levels)]) (cs' := [(strV e_12.Name), (.int .i64 e_12.Levels)]) 0 0 hF hS sz58 rfl rfl rfl rfl rfl rfl rfl rfl fun a w hF hS => q_end (n_sq (q_seq (q_region (q_x (v := (.pointer (some ⟨b14, 0, none⟩))) hF hS (ex_fieldAddr Try.underlying58 rfl sz9 rfl rfl) rfl rfl fun a hF => q_x (v := (strV e_12.Name)) hF hS (ex_load1 0 0 Try.underlying9 rfl rfl rfl rfl) rfl rfl fun a hF => q_x (v := (.pointer (some ⟨b6, 0, none⟩))) hF hS (ex_fieldAddr Try.underlying58 rfl sz9 rfl rfl) rfl rfl fun a hF => q_x (v := (strV e_4.Name)) hF hS (ex_load1 1 0 Try.underlying9 rfl rfl rfl rfl) rfl rfl fun a hF => q_x (v := (.bool (e_12.Name == e_4.Name))) hF hS (ex_strEq rfl rfl) rfl rfl fun a hF => q_end (n_sq ?_)))))
         rcases bcase (e_12.Name == e_4.Name) with hc12 | hc12
         ·have hb10 := cond_f hc12 hb10
          refine q_cond_f hF rfl hc12 (q_skipc (n_ib (n_sq (q_region (q_x (v := (.int .i64 (w64 (t_11 + 1)))) hF hS (ex_ibin rfl rfl rfl) rfl rfl fun a hF => q_x (v := (.int .i64 (w64 (t_11 + 1)))) hF hS (ex_move rfl) rfl rfl fun a hF => q_end ?_)))))
          obtain rfl := someI hb10
          exact ⟨rfl, hF.sub ⟨rfl, rfl, rfl, rfl, rfl, rfl, rfl, rfl, trivial⟩, hS.mask [false, true]⟩
         ·have hb10 := cond_t hc12 hb10
          refine q_cond_t hF rfl hc12 (q_seq (q_region (q_x (v := (.bool false)) hF hS (ex_assign rfl) rfl rfl fun a hF => q_end (n_sq (q_ret (r_ib (r_sq ?_)))))))
          obtain rfl := someI hb10
          refine ⟨nofun, .inr fun ho => ?_⟩
          subst ho
          refine r_ib (r_ib (r_sq ?_))
          obtain rfl := someI hb4
          refine ⟨nofun, .inr fun ho => ?_⟩
          subst ho
          refine r_ib (r_sq ?_)
          obtain rfl := someI hr
          exact ret_of hF hS rfl (.tmp rfl .nil) rfl
       ·rintro e a w ⟨rfl, rfl, hF, hS⟩
        refine x_ib (n_ib (n_sq ?_))
        refine q_region (q_x (v := (.int .i64 (w64 (t_3 + 1)))) hF hS (ex_ibin rfl rfl rfl) rfl rfl fun a hF => q_x (v := (.int .i64 (w64 (t_3 + 1)))) hF hS (ex_move rfl) rfl rfl fun a hF => q_end ?_)
        obtain rfl := someI hb4
        exact ⟨rfl, hF.sub ⟨rfl, rfl, rfl, rfl, trivial⟩, hS⟩
      ·have hb4 := cond_t hc9 hb4
       refine q_cond_t hF rfl hc9 (q_seq (q_region (q_x (v := (.bool false)) hF hS (ex_assign rfl) rfl rfl fun a hF => q_end (n_sq (q_ret (r_sq (r_ib (r_sq ?_))))))))
       obtain rfl := someI hb4
       refine ⟨nofun, .inr fun ho => ?_⟩
       subst ho
       refine r_ib (r_sq ?_)
       obtain rfl := someI hr
       exact ret_of hF hS rfl (.tmp rfl .nil) rfl
   ·rintro e a w ⟨rfl, rfl, hF, hS⟩
    refine x_ib (n_sq ?_)
    refine q_seq (q_region (q_x (v := (.bool true)) hF hS (ex_assign rfl) rfl rfl fun a hF => q_end (n_sq (q_ret ?_))))
    obtain rfl := someI hr
    exact ret_of hF hS rfl (.tmp rfl .nil) rfl
  ·have hr := cond_t hc3 hr
   refine q_cond_t hF rfl hc3 (q_seq (q_region (q_x (v := (.bool false)) hF hS (ex_assign rfl) rfl rfl fun a hF => q_end (n_sq (q_ret (r_sq ?_))))))
   obtain rfl := someI hr
   exact ret_of hF hS rfl (.tmp rfl .nil) rfl

theorem c_impl_areVars (p_s : List impl_Variable) (p_vars : List Int) (r : Bool) (hr : impl_areVars p_s p_vars = some r) (w0 : World) (m : Mem) (hv : Vis m w0) (s1 : Sl) (h1 : Rd m s1 p_s) (s2 : Sl) (h2 : Rd m s2 p_vars) :
  Ret Try.prog 57 [s1.v, s2.v] w0 (fun v _ => v = (.bool r)) := by
 unfold impl_areVars at hr
 refine ret_start Try.func57 rfl 25 rfl rfl m hv fun a hF hS => q_seq (q_region (q_x (v := (.bool false)) hF hS (ex_assign rfl) rfl rfl fun a hF => q_end (n_sq (q_seq (q_region (q_x (v := (.int .i64 (-1))) hF hS (ex_assign rfl) rfl rfl fun a hF => q_end (n_sq (q_seq (q_seq (q_region (q_x (v := s2.v) hF hS (ex_move rfl) rfl rfl fun a hF => q_x (v := (.int .i64 (goLen p_vars))) hF hS (ex_len Try.underlying24 rfl h2.len) rfl rfl fun a hF => q_x (v := (.int .i64 0)) hF hS (ex_move rfl) rfl rfl fun a hF => q_end (n_sq (q_block ?_)))))))))))))
 obtain ⟨o1, hl1, hr⟩ := bindS hr
 refine q_loop (fun (s : Int × Int) a w => ∃ last_3, ∃ t_4, s = (last_3, t_4) ∧ Fr a 25 [(0, s1.v), (5, (.int .i64 last_3)), (8, s2.v), (9, (.int .i64 (goLen p_vars))), (10, (.int .i64 t_4))] ∧ St [] w0 w m []) (fun (o : (Unit) ⊕ (Bool)) e a w => o = .inl () ∧ e = .exit 0 ∧ Fr a 25 [] ∧ St [] w0 w m []) hl1 ⟨_, _, rfl, hF.sub ⟨rfl, rfl, rfl, rfl, rfl, trivial⟩, hS⟩ ?_ ?_
 ·clear hF hS
  rintro s a w st ⟨last_3, t_4, rfl, hF, hS⟩ hb1
  unfold impl_areVars_l1 at hb1
  refine q_seq (q_region (q_x (v := (.bool (decide (t_4 < (goLen p_vars))))) hF hS (ex_ibin rfl rfl rfl) rfl rfl fun a hF => q_end (n_sq (q_seq ?_))))
  rcases bcase (decide (t_4 < (goLen p_vars))) with hc2 | hc2
  ·have hb1 := cond_f hc2 hb1
   refine q_cond_f hF rfl hc2 (q_exit (x_sq ?_))
   obtain rfl := someI hb1
   exact ⟨nofun, .inl ⟨rfl, rfl, hF.sub trivial, hS⟩⟩
  ·have hb1 := cond_t hc2 hb1
   refine q_cond_t hF rfl hc2 (q_skipc (n_sq (q_seq (q_block (q_seq (q_region ?_))))))
   obtain ⟨e_5, he_5, hb1⟩ := bindS hb1
   obtain ⟨vs6, at6, d6⟩ := h2.at he_5 1 rfl
   obtain rfl : vs6 = [(.int .i64 e_5)] := d6
   refine q_x (v := (elP s2 (t_4.toNat * 1))) hF hS (ex_indexAddr Try.underlying24 sz3 rfl rfl (h2.idx he_5)) rfl rfl fun a hF => q_x (v := (.int .i64 e_5)) hF hS (ex_loadE1 0 Try.underlying3 rfl rfl ((at6).at) rfl rfl) rfl rfl fun a hF => q_x (v := (.int .i64 e_5)) hF hS (ex_assign rfl) rfl rfl fun a hF => q_end (n_sq (q_seq (q_seq ?_)))
   obtain ⟨t_7, hj3, hb1⟩ := bindS hb1
   refine q_join (fun a w => Fr a 25 [(0, s1.v), (7, (.int .i64 e_5)), (8, s2.v), (9, (.int .i64 (goLen p_vars))), (10, (.int .i64 t_4)), (22, (.bool t_7))] ∧ St [] w0 w m []) ?_ ?_
   ·refine q_region (q_x (v := (.int .i64 e_5)) hF hS (ex_move rfl) rfl rfl fun a hF => q_x (v := (.int .i64 last_3)) hF hS (ex_move rfl) rfl rfl fun a hF => q_x (v := (.bool (decide (e_5 ≤ last_3)))) hF hS (ex_ibin rfl rfl rfl) rfl rfl fun a hF => q_x (v := (.bool (decide (e_5 ≤ last_3)))) hF hS (ex_move rfl) rfl rfl fun a hF => ?_)
    rcases bcase (decide (e_5 ≤ last_3)) with hc4 | hc4
    ·have hj3 := cond_f hc4 hj3
     refine q_xg (v := (.int .i64 e_5)) hF hS (ex_move rfl) (wanted_t hF rfl rfl rfl hc4) rfl fun a hF => q_xg (v := s1.v) hF hS (ex_move rfl) (wanted_t hF rfl rfl rfl hc4) rfl fun a hF => q_xg (v := (.int .i64 (goLen p_s))) hF hS (ex_len Try.underlying27 rfl h1.len) (wanted_t hF rfl rfl rfl hc4) rfl fun a hF => q_xg (v := (.bool (decide ((goLen p_s) ≤ e_5)))) hF hS (ex_ibin rfl rfl rfl) (wanted_t hF rfl rfl rfl hc4) rfl fun a hF => q_x (v := (.bool (decide ((goLen p_s) ≤ e_5)))) hF hS (ex_pick_f rfl rfl hc4) rfl rfl fun a hF => q_end (n_jn ?_)
     obtain rfl := someI hj3
     exact ⟨hF.sub ⟨rfl, rfl, rfl, rfl, rfl, rfl, trivial⟩, hS⟩
    ·have hj3 := cond_t hc4 hj3
     refine q_skip hF (wanted_f hF rfl rfl rfl hc4 rfl) rfl fun a hF => q_skip hF (wanted_f hF rfl rfl rfl hc4 rfl) rfl fun a hF => q_skip hF (wanted_f hF rfl rfl rfl hc4 rfl) rfl fun a hF => q_skip hF (wanted_f hF rfl rfl rfl hc4 rfl) rfl fun a hF => q_x (v := (.bool true)) hF hS (ex_pick_t rfl rfl hc4) rfl rfl fun a hF => q_end (n_jn ?_)
     obtain rfl := someI hj3
     exact ⟨hF.sub ⟨rfl, rfl, rfl, rfl, rfl, rfl, trivial⟩, hS⟩
   ·rintro a w ⟨hF, hS⟩
    refine n_sq ?_
    rcases bcase (t_7) with hc5 | hc5
    ·have hb1 := cond_f hc5 hb1
     refine q_cond_f hF rfl hc5 (q_skipc (n_sq (q_region (q_x (v := (.int .i64 e_5)) hF hS (ex_move rfl) rfl rfl fun a hF => q_x (v := (.int .i64 e_5)) hF hS (ex_assign rfl) rfl rfl fun a hF => q_end (n_ib (n_sq (q_region (q_x (v := (.int .i64 (w64 (t_4 + 1)))) hF hS (ex_ibin rfl rfl rfl) rfl rfl fun a hF => q_x (v := (.int .i64 (w64 (t_4 + 1)))) hF hS (ex_move rfl) rfl rfl fun a hF => q_end ?_))))))))
     obtain rfl := someI hb1
     exact ⟨rfl, _, _, rfl, hF.sub ⟨rfl, rfl, rfl, rfl, rfl, trivial⟩, hS⟩
    ·have hb1 := cond_t hc5 hb1
     refine q_cond_t hF rfl hc5 (q_seq (q_region (q_x (v := (.bool false)) hF hS (ex_assign rfl) rfl rfl fun a hF => q_end (n_sq (q_ret (r_sq (r_ib (r_sq ?_))))))))
     obtain rfl := someI hb1
     refine ⟨nofun, .inr fun ho => ?_⟩
     subst ho
     refine r_ib (r_sq ?_)
     obtain rfl := someI hr
     exact ret_of hF hS rfl (.tmp rfl .nil) rfl
 ·rintro e a w ⟨rfl, rfl, hF, hS⟩
  refine x_ib (n_sq ?_)
  refine q_seq (q_region (q_x (v := (.bool true)) hF hS (ex_assign rfl) rfl rfl fun a hF => q_end (n_sq (q_ret ?_))))
  obtain rfl := someI hr
  exact ret_of hF hS rfl (.tmp rfl .nil) rfl

theorem c_impl_fullSet (p_v : impl_Variable) (r : Int) (hr : impl_fullSet p_v = some r) (w0 : World) (m : Mem) (hv : Vis m w0) :
  Ret Try.prog 32 [(.agg #[(strV p_v.Name), (.int .i64 p_v.Levels)])] w0 (fun v _ => v = (.int .i64 r)) := by
 unfold impl_fullSet at hr
 refine ret_start Try.func32 rfl 7 rfl rfl m hv fun a hF hS => q_seq (q_region (q_box (cs := [(strV p_v.Name), (.int .i64 p_v.Levels)]) hF hS rfl rfl rfl fun a w b1 hF hS => q_x (v := (.int .i64 0)) hF hS (ex_assign rfl) rfl rfl fun a hF => q_end (n_sq (q_seq (q_region (q_x (v := (.pointer (some ⟨b1, 1, none⟩))) hF hS (ex_fieldAddr Try.underlying58 rfl sz3 rfl rfl) rfl rfl fun a hF => q_x (v := (.int .i64 p_v.Levels)) hF hS (ex_load1 0 0 Try.underlying3 rfl rfl rfl rfl) rfl rfl fun a hF => ?_))))))
 obtain ⟨t_2, ht_2, hr⟩ := bindS hr
 refine q_x (v := (.int .i64 t_2)) hF hS (ex_shl rfl rfl ht_2) rfl rfl fun a hF => q_x (v := (.int .i64 (w64 (t_2 - 1)))) hF hS (ex_ibin rfl rfl rfl) rfl rfl fun a hF => q_x (v := (.int .i64 (w64 (t_2 - 1)))) hF hS (ex_assign rfl) rfl rfl fun a hF => q_end (n_sq (q_ret ?_))
 obtain rfl := someI hr
 exact ret_of hF hS rfl (.tmp rfl .nil) rfl

theorem c_impl_isWhere (p_s : List impl_Variable) (p_where : List Int) (r : Bool) (hr : impl_isWhere p_s p_where = some r) (w0 : World) (m : Mem) (hv : Vis m w0) (s1 : Sl) (h1 : Rd m s1 p_s) (s2 : Sl) (h2 : Rd m s2 p_where) :
  Ret Try.prog 58 [s1.v, s2.v] w0 (fun v _ => v = (.bool r)) := by
 unfold impl_isWhere at hr
 refine ret_start Try.func58 rfl 31 rfl rfl m hv fun a hF hS => q_seq (q_region (q_x (v := (.bool false)) hF hS (ex_assign rfl) rfl rfl fun a hF => q_end (n_sq (q_seq (q_seq (q_region (q_x (v := s2.v) hF hS (ex_move rfl) rfl rfl fun a hF => q_x (v := (.int .i64 (goLen p_where))) hF hS (ex_len Try.underlying24 rfl h2.len) rfl rfl fun a hF => q_x (v := s1.v) hF hS (ex_move rfl) rfl rfl fun a hF => q_x (v := (.int .i64 (goLen p_s))) hF hS (ex_len Try.underlying27 rfl h1.len) rfl rfl fun a hF => q_x (v := (.bool ((goLen p_where) != (goLen p_s)))) hF hS (ex_ibin rfl rfl rfl) rfl rfl fun a hF => q_end (n_sq ?_))))))))
 rcases bcase ((goLen p_where) != (goLen p_s)) with hc1 | hc1
 ·have hr := cond_f hc1 hr
  refine q_cond_f hF rfl hc1 (q_skipc (n_sq (q_seq (q_seq (q_region (q_x (v := s2.v) hF hS (ex_move rfl) rfl rfl fun a hF => q_x (v := (.int .i64 (goLen p_where))) hF hS (ex_len Try.underlying24 rfl h2.len) rfl rfl fun a hF => q_x (v := (.int .i64 0)) hF hS (ex_move rfl) rfl rfl fun a hF => q_end (n_sq (q_block ?_))))))))
  obtain ⟨o2, hl2, hr⟩ := bindS hr
  refine q_loop (fun (t_3 : Int) a w => Fr a 31 [(0, s1.v), (12, s2.v), (13, (.int .i64 (goLen p_where))), (14, (.int .i64 t_3))] ∧ St [] w0 w m []) (fun (o : (Unit) ⊕ (Bool)) e a w => o = .inl () ∧ e = .exit 0 ∧ Fr a 31 [] ∧ St [] w0 w m []) hl2 ⟨hF.sub ⟨rfl, rfl, rfl, rfl, trivial⟩, hS⟩ ?_ ?_
  ·clear hF hS
   rintro t_3 a w st ⟨hF, hS⟩ hb2
   unfold impl_isWhere_l1 at hb2
   refine q_seq (q_region (q_x (v := (.bool (decide (t_3 < (goLen p_where))))) hF hS (ex_ibin rfl rfl rfl) rfl rfl fun a hF => q_end (n_sq (q_seq ?_))))
   rcases bcase (decide (t_3 < (goLen p_where))) with hc3 | hc3
   ·have hb2 := cond_f hc3 hb2
    refine q_cond_f hF rfl hc3 (q_exit (x_sq ?_))
    obtain rfl := someI hb2
    exact ⟨nofun, .inl ⟨rfl, rfl, hF.sub trivial, hS⟩⟩
   ·have hb2 := cond_t hc3 hb2
    refine q_cond_t hF rfl hc3 (q_skipc (n_sq (q_seq (q_block (q_seq (q_region (q_x (v := (.int .i64 t_3)) hF hS (ex_move rfl) rfl rfl fun a hF => ?_)))))))
    obtain ⟨e_4, he_4, hb2⟩ := bindS hb2
    obtain ⟨vs5, at5, d5⟩ := h2.at he_4 1 rfl
    obtain rfl : vs5 = [(.int .i64 e_4)] := d5
    refine q_x (v := (elP s2 (t_3.toNat * 1))) hF hS (ex_indexAddr Try.underlying24 sz3 rfl rfl (h2.idx he_4)) rfl rfl fun a hF => q_x (v := (.int .i64 e_4)) hF hS (ex_loadE1 0 Try.underlying3 rfl rfl ((at5).at) rfl rfl) rfl rfl fun a hF => q_x (v := (.int .i64 t_3)) hF hS (ex_assign rfl) rfl rfl fun a hF => q_x (v := (.int .i64 e_4)) hF hS (ex_assign rfl) rfl rfl fun a hF => q_end (n_sq (q_seq ?_))
    obtain ⟨t_9, hj4, hb2⟩ := bindS hb2
    refine q_join (fun a w => Fr a 31 [(0, s1.v), (12, s2.v), (13, (.int .i64 (goLen p_where))), (14, (.int .i64 t_3)), (29, (.bool t_9))] ∧ St [] w0 w m []) ?_ ?_
    ·refine q_region (q_x (v := (.int .i64 e_4)) hF hS (ex_move rfl) rfl rfl fun a hF => q_x (v := (.bool (decide (e_4 < 0)))) hF hS (ex_ibin rfl rfl rfl) rfl rfl fun a hF => q_x (v := (.bool (decide (e_4 < 0)))) hF hS (ex_move rfl) rfl rfl fun a hF => ?_)
     rcases bcase (decide (e_4 < 0)) with hc5 | hc5
     ·have hj4 := cond_f hc5 hj4
      refine q_xg (v := (.int .i64 e_4)) hF hS (ex_move rfl) (wanted_t hF rfl rfl rfl hc5) rfl fun a hF => q_xg (v := s1.v) hF hS (ex_move rfl) (wanted_t hF rfl rfl rfl hc5) rfl fun a hF => q_xg (v := (.int .i64 t_3)) hF hS (ex_move rfl) (wanted_t hF rfl rfl rfl hc5) rfl fun a hF => ?_
      obtain ⟨e_6, he_6, hj4⟩ := bindS hj4
      obtain ⟨vs7, at7, d7⟩ := h1.at he_6 2 rfl
      obtain rfl : vs7 = [(strV e_6.Name), (.int .i64 e_6.Levels)] := d7
      refine q_xg (v := (elP s1 (t_3.toNat * 2))) hF hS (ex_indexAddr Try.underlying27 sz58 rfl rfl (h1.idx he_6)) (wanted_t hF rfl rfl rfl hc5) rfl fun a hF => q_xg (v := (.agg #[(strV e_6.Name), (.int .i64 e_6.Levels)])) hF hS (ex_loadEA (us := [(strV e_6.Name), (.int .i64 e_6.Levels)]) 0 Try.underlying58 rfl sz58 rfl ((at7).at) rfl rfl rfl) (wanted_t hF rfl rfl rfl hc5) rfl fun a hF => ?_
      obtain ⟨t_8, ht_8, hj4⟩ := bindS hj4
      refine q_callg (vs := [(.agg #[(strV e_6.Name), (.int .i64 e_6.Levels)])]) hF hS (wanted_t hF rfl rfl rfl hc5) Try.func32 (by kernel_rfl) rfl rfl rfl (c_impl_fullSet e_6 t_8 ht_8 _ m hS.vis) ?_
      rintro a w _ rfl hF hS
      refine q_xg (v := (.bool (decide (t_8 < e_4)))) hF hS (ex_ibin rfl rfl rfl) (wanted_t hF rfl rfl rfl hc5) rfl fun a hF => q_x (v := (.bool (decide (t_8 < e_4)))) hF hS (ex_pick_f rfl rfl hc5) rfl rfl fun a hF => q_end (n_jn ?_)
      obtain rfl := someI hj4
      exact ⟨hF.sub ⟨rfl, rfl, rfl, rfl, rfl, trivial⟩, hS⟩
     ·have hj4 := cond_t hc5 hj4
      refine q_skip hF (wanted_f hF rfl rfl rfl hc5 rfl) rfl fun a hF => q_skip hF (wanted_f hF rfl rfl rfl hc5 rfl) rfl fun a hF => q_skip hF (wanted_f hF rfl rfl rfl hc5 rfl) rfl fun a hF => q_skip hF (wanted_f hF rfl rfl rfl hc5 rfl) rfl fun a hF => q_skip hF (wanted_f hF rfl rfl rfl hc5 rfl) rfl fun a hF => q_skip hF (wanted_f hF rfl rfl rfl hc5 rfl) rfl fun a hF => q_skip hF (wanted_f hF rfl rfl rfl hc5 rfl) rfl fun a hF => q_x (v := (.bool true)) hF hS (ex_pick_t rfl rfl hc5) rfl rfl fun a hF => q_end (n_jn ?_)
      obtain rfl := someI hj4
      exact ⟨hF.sub ⟨rfl, rfl, rfl, rfl, rfl, trivial⟩, hS⟩
    ·rintro a w ⟨hF, hS⟩
     refine n_sq ?_
     rcases bcase (t_9) with hc6 | hc6
     ·have hb2 := cond_f hc6 hb2
      refine q_cond_f hF rfl hc6 (q_skipc (n_ib (n_sq (q_region (q_x (v := (.int .i64 (w64 (t_3 + 1)))) hF hS (ex_ibin rfl rfl rfl) rfl rfl fun a hF => q_x (v := (.int .i64 (w64 (t_3 + 1)))) hF hS (ex_move rfl) rfl rfl fun a hF => q_end ?_)))))
      obtain rfl := someI hb2
      exact ⟨rfl, hF.sub ⟨rfl, rfl, rfl, rfl, trivial⟩, hS⟩
     ·have hb2 := cond_t hc6 hb2
      refine q_cond_t hF rfl hc6 (q_seq (q_region (q_x (v := (.bool false)) hF hS (ex_assign rfl) rfl rfl fun a hF => q_end (n_sq (q_ret (r_ib (r_sq ?_)))))))
      obtain rfl := someI hb2
      refine ⟨nofun, .inr fun ho => ?_⟩
      subst ho
      refine r_ib (r_sq ?_)
      obtain rfl := someI hr
      exact ret_of hF hS rfl (.tmp rfl .nil) rfl
  ·rintro e a w ⟨rfl, rfl, hF, hS⟩
   refine x_ib (n_sq ?_)
   refine q_seq (q_region (q_x (v := (.bool true)) hF hS (ex_assign rfl) rfl rfl fun a hF => q_end (n_sq (q_ret ?_))))
   obtain rfl := someI hr
   exact ret_of hF hS rfl (.tmp rfl .nil) rfl
 ·have hr := cond_t hc1 hr
  refine q_cond_t hF rfl hc1 (q_seq (q_region (q_x (v := (.bool false)) hF hS (ex_assign rfl) rfl rfl fun a hF => q_end (n_sq (q_ret (r_sq ?_))))))
  obtain rfl := someI hr
  exact ret_of hF hS rfl (.tmp rfl .nil) rfl

theorem c_impl_depthOf (p_g : impl_Geo) (p_i : Int) (r : Int) (hr : impl_depthOf p_g p_i = some r) (w0 : World) (m : Mem) (hv : Vis m w0) (s1 : Sl) (h1 : Rd m s1 p_g.Parents) :
  Ret Try.prog 61 [(.agg #[s1.v]), (.int .i64 p_i)] w0 (fun v _ => v = (.int .i64 r)) := by
 unfold impl_depthOf at hr
 refine ret_start Try.func61 rfl 16 rfl rfl m hv fun a hF hS => q_seq (q_region (q_box (cs := [s1.v]) hF hS rfl rfl rfl fun a w b2 hF hS => q_x (v := (.int .i64 0)) hF hS (ex_assign rfl) rfl rfl fun a hF => q_end (n_sq (q_seq (q_region (q_x (v := (.int .i64 0)) hF hS (ex_assign rfl) rfl rfl fun a hF => q_end (n_sq (q_seq (q_block ?_)))))))))
 obtain ⟨d_7, hl1, hr⟩ := bindS hr
 refine q_loop (fun (s : Int × Int) a w => ∃ i_3, ∃ d_4, s = (i_3, d_4) ∧ Fr a 16 [(1, (.int .i64 i_3)), (2, (.pointer (some ⟨b2, 0, none⟩))), (5, (.int .i64 d_4))] ∧ St [] w0 w m [[⟨b2, [s1.v], 26⟩]]) (fun (d_7 : Int) e a w => e = .exit 0 ∧ Fr a 16 [(5, (.int .i64 d_7))] ∧ St [] w0 w m []) hl1 ⟨_, _, rfl, hF.sub ⟨rfl, rfl, rfl, trivial⟩, hS⟩ ?_ ?_
 ·clear hF hS
  rintro s a w st ⟨i_3, d_4, rfl, hF, hS⟩ hb1
  unfold impl_depthOf_l1 at hb1
  refine q_seq (q_seq (q_region (q_x (v := (.int .i64 i_3)) hF hS (ex_move rfl) rfl rfl fun a hF => q_x (v := (.bool (decide (0 < i_3)))) hF hS (ex_ibin rfl rfl rfl) rfl rfl fun a hF => q_end (n_sq ?_))))
  rcases bcase (decide (0 < i_3)) with hc2 | hc2
  ·have hb1 := cond_f hc2 hb1
   refine q_cond_f hF rfl hc2 (q_exit (x_sq ?_))
   obtain rfl := someI hb1
   exact ⟨nofun, .inl ⟨rfl, hF.sub ⟨rfl, trivial⟩, hS.mask [false]⟩⟩
  ·have hb1 := cond_t hc2 hb1
   refine q_cond_t hF rfl hc2 (q_skipc (n_sq (q_block (q_seq (q_region (q_x (v := (.pointer (some ⟨b2, 0, none⟩))) hF hS (ex_fieldAddr Try.underlying26 rfl sz24 rfl rfl) rfl rfl fun a hF => q_x (v := s1.v) hF hS (ex_load1 0 0 Try.underlying24 rfl rfl rfl rfl) rfl rfl fun a hF => q_x (v := (.int .i64 i_3)) hF hS (ex_move rfl) rfl rfl fun a hF => ?_))))))
   obtain ⟨e_5, he_5, hb1⟩ := bindS hb1
   obtain ⟨vs6, at6, d6⟩ := h1.at he_5 1 rfl
   obtain rfl : vs6 = [(.int .i64 e_5)] := d6
   refine q_x (v := (elP s1 (i_3.toNat * 1))) hF hS (ex_indexAddr Try.underlying24 sz3 rfl rfl (h1.idx he_5)) rfl rfl fun a hF => q_x (v := (.int .i64 e_5)) hF hS (ex_loadE1 0 Try.underlying3 rfl rfl ((at6).at) rfl rfl) rfl rfl fun a hF => q_x (v := (.int .i64 e_5)) hF hS (ex_assign rfl) rfl rfl fun a hF => q_end (n_sq (q_region (q_x (v := (.int .i64 d_4)) hF hS (ex_move rfl) rfl rfl fun a hF => q_x (v := (.int .i64 (w64 (d_4 + 1)))) hF hS (ex_ibin rfl rfl rfl) rfl rfl fun a hF => q_x (v := (.int .i64 (w64 (d_4 + 1)))) hF hS (ex_assign rfl) rfl rfl fun a hF => q_end (n_ib ?_))))
   obtain rfl := someI hb1
   exact ⟨rfl, _, _, rfl, hF.sub ⟨rfl, rfl, rfl, trivial⟩, hS⟩
 ·rintro e a w ⟨rfl, hF, hS⟩
  refine x_ib (n_sq ?_)
  refine q_seq (q_region (q_x (v := (.int .i64 d_7)) hF hS (ex_move rfl) rfl rfl fun a hF => q_x (v := (.int .i64 d_7)) hF hS (ex_assign rfl) rfl rfl fun a hF => q_end (n_sq (q_ret ?_))))
  obtain rfl := someI hr
  exact ret_of hF hS rfl (.tmp rfl .nil) rfl

theorem c_impl_areasAt (p_g : impl_Geo) (p_level : Int) (r : (List Int)) (hr : impl_areasAt p_g p_level = some r) (w0 : World) (m : Mem) (hv : Vis m w0) (s1 : Sl) (h1 : Rd m s1 p_g.Parents) :
  Ret Try.prog 80 [(.agg #[s1.v]), (.int .i64 p_level)] w0 (fun v w => ∃ (q0' : Piece) (s0' : Sl), v = s0'.v ∧ St [] w0 w m [q0'] ∧ OwnL m 3 q0' s0' r) := by
 unfold impl_areasAt at hr
 refine ret_start Try.func80 rfl 24 rfl rfl m hv fun a hF hS => q_seq (q_region (q_box (cs := [s1.v]) hF hS rfl rfl rfl fun a w b2 hF hS => q_x (v := nilS.v) hF hS (ex_assign rfl) rfl rfl fun a hF => q_end (n_sq (q_seq (q_region (q_x (v := nilS.v) hF hS (ex_assign rfl) rfl rfl fun a hF => q_end (n_sq (q_seq (q_seq (q_region (q_x (v := (.pointer (some ⟨b2, 0, none⟩))) hF hS (ex_fieldAddr Try.underlying26 rfl sz24 rfl rfl) rfl rfl fun a hF => q_x (v := s1.v) hF hS (ex_load1 0 0 Try.underlying24 rfl rfl rfl rfl) rfl rfl fun a hF => q_x (v := (.int .i64 (goLen p_g.Parents))) hF hS (ex_len Try.underlying24 rfl h1.len) rfl rfl fun a hF => q_x (v := (.int .i64 0)) hF hS (ex_move rfl) rfl rfl fun a hF => q_end (n_sq (q_block ?_)))))))))))))
 obtain ⟨list_12, hl1, hr⟩ := bindS hr
 refine q_loop (fun (s : (List Int) × Int) a w => ∃ (q4 : Piece), ∃ (s4 : Sl), ∃ list_3, ∃ t_5, s = (list_3, t_5) ∧ Fr a 24 [(1, (.int .i64 p_level)), (2, (.pointer (some ⟨b2, 0, none⟩))), (5, s4.v), (9, (.int .i64 (goLen p_g.Parents))), (10, (.int .i64 t_5))] ∧ St [] w0 w m [q4, [⟨b2, [s1.v], 26⟩]] ∧ OwnL m 3 q4 s4 list_3) (fun (list_12 : (List Int)) e a w => ∃ (q13 : Piece), ∃ (s13 : Sl), e = .exit 0 ∧ Fr a 24 [(5, s13.v)] ∧ St [] w0 w m [q13] ∧ OwnL m 3 q13 s13 list_12) hl1 ⟨[], nilS, _, _, rfl, hF.sub ⟨rfl, rfl, rfl, rfl, rfl, trivial⟩, hS.sel [1, 0] (by decide), (OwnL.nil (α := Int) m 3)⟩ ?_ ?_
 ·clear hF hS
  rintro s a w st ⟨q4, s4, list_3, t_5, rfl, hF, hS, h4⟩ hb1
  unfold impl_areasAt_l1 at hb1
  refine q_seq (q_region (q_x (v := (.bool (decide (t_5 < (goLen p_g.Parents))))) hF hS (ex_ibin rfl rfl rfl) rfl rfl fun a hF => q_end (n_sq (q_seq ?_))))
  rcases bcase (decide (t_5 < (goLen p_g.Parents))) with hc2 | hc2
  ·have hb1 := cond_f hc2 hb1
   refine q_cond_f hF rfl hc2 (q_exit (x_sq ?_))
   obtain rfl := someI hb1
   exact ⟨nofun, .inl ⟨q4, s4, rfl, hF.sub ⟨rfl, trivial⟩, hS.mask [true, false], h4⟩⟩
  ·have hb1 := cond_t hc2 hb1
   refine q_cond_t hF rfl hc2 (q_skipc (n_sq (q_seq (q_block (q_seq (q_region (q_x (v := (.int .i64 t_5)) hF hS (ex_move rfl) rfl rfl fun a hF => q_x (v := (.int .i64 t_5)) hF hS (ex_assign rfl) rfl rfl fun a hF => q_end (n_sq (q_seq (q_region (q_x (v := (.agg #[s1.v])) hF hS (ex_loadA (vs := [s1.v]) 1 0 Try.underlying26 rfl sz26 rfl rfl rfl rfl) rfl rfl fun a hF => q_x (v := (.int .i64 t_5)) hF hS (ex_move rfl) rfl rfl fun a hF => ?_)))))))))))
   obtain ⟨t_6, ht_6, hb1⟩ := bindS hb1
   refine q_call (vs := [(.agg #[s1.v]), (.int .i64 t_5)]) hF hS Try.func61 (by kernel_rfl) rfl rfl rfl (c_impl_depthOf p_g t_5 t_6 ht_6 _ m hS.vis s1 h1) ?_
   rintro a w _ rfl hF hS
   refine q_x (v := (.int .i64 p_level)) hF hS (ex_move rfl) rfl rfl fun a hF => q_x (v := (.bool (t_6 == p_level))) hF hS (ex_ibin rfl rfl rfl) rfl rfl fun a hF => q_end (n_sq ?_)
   obtain ⟨list_10, hj3, hb1⟩ := bindS hb1
   refine q_join (fun a w => ∃ (q11 : Piece), ∃ (s11 : Sl), Fr a 24 [(1, (.int .i64 p_level)), (2, (.pointer (some ⟨b2, 0, none⟩))), (5, s11.v), (9, (.int .i64 (goLen p_g.Parents))), (10, (.int .i64 t_5))] ∧ St [] w0 w m [q11, [⟨b2, [s1.v], 26⟩]] ∧ OwnL m 3 q11 s11 list_10) ?_ ?_
   ·rcases bcase (t_6 == p_level) with hc4 | hc4
    ·have hj3 := cond_f hc4 hj3
     refine q_cond_f hF rfl hc4 (q_skipc (n_jn ?_))
     obtain rfl := someI hj3
     exact ⟨q4, s4, hF.sub ⟨rfl, rfl, rfl, rfl, rfl, trivial⟩, hS, h4⟩
    ·have hj3 := cond_t hc4 hj3
     refine q_cond_t hF rfl hc4 (q_region (q_x (v := s4.v) hF hS (ex_move rfl) rfl rfl fun a hF => q_x (v := (.int .i64 t_5)) hF hS (ex_move rfl) rfl rfl fun a hF => q_do rfl fun _ hK => wp_buildSlice' (l := ([t_5] : List Int)) (cells := [(.int .i64 t_5)]) hF hS Try.underlying24 inf3 rfl rfl (by kernel_rfl) rfl rfl rfl ⟨rfl, rfl⟩ rfl rfl fun a w q7 s7 hF hS h7 _ => hK _ _ ?_))
     have hS : St _ _ _ _ [q4, q7, [⟨b2, [s1.v], 26⟩]] := hS.sel [1, 0, 2] (by decide)
     obtain ⟨l_8, hl_8, hj3⟩ := bindS hj3
     refine q_do rfl fun _ hK => wp_append hF hS h4 Try.underlying24 inf3 rfl rfl rfl rfl (h7.vw hS (j := 1) rfl) rfl (by decide) hl_8 rfl fun a w q9 s9 hF hS h9 => hK _ _ (q_x (v := s9.v) hF hS (ex_assign rfl) rfl rfl fun a hF => q_end (n_jn ?_))
     obtain rfl := someI hj3
     exact ⟨q9, s9, hF.sub ⟨rfl, rfl, rfl, rfl, rfl, trivial⟩, hS.mask [true, false, true], h9⟩
   ·rintro a w ⟨q11, s11, hF, hS, h11⟩
    refine n_ib (n_sq ?_)
    refine q_region (q_x (v := (.int .i64 (w64 (t_5 + 1)))) hF hS (ex_ibin rfl rfl rfl) rfl rfl fun a hF => q_x (v := (.int .i64 (w64 (t_5 + 1)))) hF hS (ex_move rfl) rfl rfl fun a hF => q_end ?_)
    obtain rfl := someI hb1
    exact ⟨rfl, q11, s11, _, _, rfl, hF.sub ⟨rfl, rfl, rfl, rfl, rfl, trivial⟩, hS, h11⟩
 ·rintro e a w ⟨q13, s13, rfl, hF, hS, h13⟩
  refine x_ib (n_sq ?_)
  refine q_seq (q_region (q_x (v := s13.v) hF hS (ex_move rfl) rfl rfl fun a hF => q_x (v := s13.v) hF hS (ex_assign rfl) rfl rfl fun a hF => q_end (n_sq (q_ret ?_))))
  obtain rfl := someI hr
  exact ret_of hF hS rfl (.tmp rfl .nil) ⟨q13, s13, rfl, hS.sel [0] (by decide), h13⟩

theorem c_impl_crossed (p_s : List impl_Variable) (p_t : impl_Table) (r : (List impl_Variable)) (hr : impl_crossed p_s p_t = some r) (w0 : World) (m : Mem) (hv : Vis m w0) (s1 : Sl) (h1 : Rd m s1 p_s) (s2 : Sl) (h2 : Rd m s2 p_t.Vars) (s3 : Sl) (h3 : Rd m s3 p_t.Where) :
  Ret Try.prog 82 [s1.v, (.agg #[(.int .i64 p_t.Level), s2.v, s3.v, (.int .i64 p_t.Sum)])] w0 (fun v w => ∃ (q0' : Piece) (s0' : Sl), v = s0'.v ∧ St [] w0 w m [q0'] ∧ OwnL m 58 q0' s0' r) := by
 unfold impl_crossed at hr
 refine ret_start Try.func82 rfl 29 rfl rfl m hv fun a hF hS => q_seq (q_region (q_box (cs := [(.int .i64 p_t.Level), s2.v, s3.v, (.int .i64 p_t.Sum)]) hF hS rfl rfl rfl fun a w b4 hF hS => q_x (v := nilS.v) hF hS (ex_assign rfl) rfl rfl fun a hF => q_end (n_sq (q_seq (q_region (q_x (v := (.pointer (some ⟨b4, 1, none⟩))) hF hS (ex_fieldAddr Try.underlying29 rfl sz24 rfl rfl) rfl rfl fun a hF => q_x (v := s2.v) hF hS (ex_load1 0 0 Try.underlying24 rfl rfl rfl rfl) rfl rfl fun a hF => q_x (v := (.int .i64 (goLen p_t.Vars))) hF hS (ex_len Try.underlying24 rfl h2.len) rfl rfl fun a hF => ?_))))))
 obtain ⟨l_5, hl_5, hr⟩ := bindS hr
 refine q_do rfl fun _ hK => wp_make (z := ((impl_Variable.mk ([] : List UInt8) 0) : impl_Variable)) hF hS Try.underlying27 inf58 rfl rfl rfl rfl rfl (by decide) hl_5 rfl fun a w q6 s6 hF hS h6 _ => hK _ _ (q_x (v := s6.v) hF hS (ex_assign rfl) rfl rfl fun a hF => q_end (n_sq (q_seq (q_seq (q_region (q_x (v := (.pointer (some ⟨b4, 1, none⟩))) hF hS (ex_fieldAddr Try.underlying29 rfl sz24 rfl rfl) rfl rfl fun a hF => q_x (v := s2.v) hF hS (ex_load1 1 0 Try.underlying24 rfl rfl rfl rfl) rfl rfl fun a hF => q_x (v := (.int .i64 (goLen p_t.Vars))) hF hS (ex_len Try.underlying24 rfl h2.len) rfl rfl fun a hF => q_x (v := (.int .i64 0)) hF hS (ex_move rfl) rfl rfl fun a hF => q_end (n_sq (q_block ?_))))))))
 obtain ⟨out_17, hl1, hr⟩ := bindS hr
 refine q_loop (fun (s : (List impl_Variable) × Int) a w => ∃ (q8 : Piece), ∃ out_7, ∃ t_9, s = (out_7, t_9) ∧ Fr a 29 [(0, s1.v), (5, s6.v), (13, s2.v), (14, (.int .i64 (goLen p_t.Vars))), (15, (.int .i64 t_9))] ∧ St [] w0 w m [q8] ∧ OwnL m 58 q8 s6 out_7) (fun (out_17 : (List impl_Variable)) e a w => ∃ (q18 : Piece), e = .exit 0 ∧ Fr a 29 [(5, s6.v)] ∧ St [] w0 w m [q18] ∧ OwnL m 58 q18 s6 out_17) hl1 ⟨q6, _, _, rfl, hF.sub ⟨rfl, rfl, rfl, rfl, rfl, trivial⟩, hS.mask [true, false], h6⟩ ?_ ?_
 ·clear hF hS
  rintro s a w st ⟨q8, out_7, t_9, rfl, hF, hS, h8⟩ hb1
  unfold impl_crossed_l1 at hb1
  refine q_seq (q_region (q_x (v := (.bool (decide (t_9 < (goLen p_t.Vars))))) hF hS (ex_ibin rfl rfl rfl) rfl rfl fun a hF => q_end (n_sq (q_seq ?_))))
  rcases bcase (decide (t_9 < (goLen p_t.Vars))) with hc2 | hc2
  ·have hb1 := cond_f hc2 hb1
   refine q_cond_f hF rfl hc2 (q_exit (x_sq ?_))
   obtain rfl := someI hb1
   exact ⟨nofun, .inl ⟨q8, rfl, hF.sub ⟨rfl, trivial⟩, hS, h8⟩⟩
  ·have hb1 := cond_t hc2 hb1
   refine q_cond_t hF rfl hc2 (q_skipc (n_sq (q_seq (q_block (q_seq (q_region (q_x (v := (.int .i64 t_9)) hF hS (ex_move rfl) rfl rfl fun a hF => ?_)))))))
   obtain ⟨e_10, he_10, hb1⟩ := bindS hb1
   obtain ⟨vs11, at11, d11⟩ := h2.at he_10 1 rfl
   obtain rfl : vs11 = [(.int .i64 e_10)] := d11
   refine q_x (v := (elP s2 (t_9.toNat * 1))) hF hS (ex_indexAddr Try.underlying24 sz3 rfl rfl (h2.idx he_10)) rfl rfl fun a hF => q_x (v := (.int .i64 e_10)) hF hS (ex_loadE1 0 Try.underlying3 rfl rfl ((at11).at) rfl rfl) rfl rfl fun a hF => q_x (v := (.int .i64 t_9)) hF hS (ex_assign rfl) rfl rfl fun a hF => q_x (v := (.int .i64 e_10)) hF hS (ex_assign rfl) rfl rfl fun a hF => q_end (n_sq (q_region (q_x (v := s6.v) hF hS (ex_move rfl) rfl rfl fun a hF => q_x (v := (.int .i64 t_9)) hF hS (ex_move rfl) rfl rfl fun a hF => q_x (v := s1.v) hF hS (ex_move rfl) rfl rfl fun a hF => q_x (v := (.int .i64 e_10)) hF hS (ex_move rfl) rfl rfl fun a hF => ?_)))
   obtain ⟨e_12, he_12, hb1⟩ := bindS hb1
   obtain ⟨vs13, at13, d13⟩ := h1.at he_12 2 rfl
   obtain rfl : vs13 = [(strV e_12.Name), (.int .i64 e_12.Levels)] := d13
   refine q_x (v := (elP s1 (e_10.toNat * 2))) hF hS (ex_indexAddr Try.underlying27 sz58 rfl rfl (h1.idx he_12)) rfl rfl fun a hF => q_x (v := (.agg #[(strV e_12.Name), (.int .i64 e_12.Levels)])) hF hS (ex_loadEA (us := [(strV e_12.Name), (.int .i64 e_12.Levels)]) 0 Try.underlying58 rfl sz58 rfl ((at13).at) rfl rfl rfl) rfl rfl fun a hF => ?_
   obtain ⟨e_14, he_14, hb1⟩ := bindS hb1
   obtain ⟨vs15, at15, d15⟩ := h8.at he_14 2 rfl
   obtain rfl : vs15 = [(strV e_14.Name), (.int .i64 e_14.Levels)] := d15
   refine q_x (v := (elP s6 (t_9.toNat * 2))) hF hS (ex_indexAddr Try.underlying27 sz58 rfl rfl (h8.idx he_14)) rfl rfl fun a hF => q_do rfl fun _ hK => wp_storeE (e' := e_12) (us := [(strV e_12.Name), (.int .i64 e_12.Levels)]) (vs := [(strV e_14.Name), (.int .i64 e_14.Levels)]) 0 hF hS h8 sz58 rfl rfl rfl rfl rfl rfl rfl he_14 at15 rfl rfl rfl fun w q16 hS h16 => hK _ _ (q_end (n_ib (n_sq (q_region (q_x (v := (.int .i64 (w64 (t_9 + 1)))) hF hS (ex_ibin rfl rfl rfl) rfl rfl fun a hF => q_x (v := (.int .i64 (w64 (t_9 + 1)))) hF hS (ex_move rfl) rfl rfl fun a hF => q_end ?_)))))
   obtain rfl := someI hb1
   exact ⟨rfl, q16, _, _, rfl, hF.sub ⟨rfl, rfl, rfl, rfl, rfl, trivial⟩, hS, h16⟩
 ·rintro e a w ⟨q18, rfl, hF, hS, h18⟩
  refine x_ib (n_sq ?_)
  refine q_seq (q_region (q_x (v := s6.v) hF hS (ex_move rfl) rfl rfl fun a hF => q_x (v := s6.v) hF hS (ex_assign rfl) rfl rfl fun a hF => q_end (n_sq (q_ret ?_))))
  obtain rfl := someI hr
  exact ret_of hF hS rfl (.tmp rfl .nil) ⟨q18, s6, rfl, hS.sel [0] (by decide), h18⟩

theorem c_impl_combinations (p_s : List impl_Variable) (r : Int) (hr : impl_combinations p_s = some r) (w0 : World) (m : Mem) (hv : Vis m w0) (s1 : Sl) (h1 : Rd m s1 p_s) :
  Ret Try.prog 81 [s1.v] w0 (fun v _ => v = (.int .i64 r)) := by
 unfold impl_combinations at hr
 refine ret_start Try.func81 rfl 18 rfl rfl m hv fun a hF hS => q_seq (q_region (q_x (v := (.int .i64 0)) hF hS (ex_assign rfl) rfl rfl fun a hF => q_end (n_sq (q_seq (q_region (q_x (v := (.int .i64 1)) hF hS (ex_assign rfl) rfl rfl fun a hF => q_end (n_sq (q_seq (q_seq (q_region (q_x (v := s1.v) hF hS (ex_move rfl) rfl rfl fun a hF => q_x (v := (.int .i64 (goLen p_s))) hF hS (ex_len Try.underlying27 rfl h1.len) rfl rfl fun a hF => q_x (v := (.int .i64 0)) hF hS (ex_move rfl) rfl rfl fun a hF => q_end (n_sq (q_block ?_)))))))))))))
 obtain ⟨n_7, hl1, hr⟩ := bindS hr
 refine q_loop (fun (s : Int × Int) a w => ∃ n_2, ∃ t_3, s = (n_2, t_3) ∧ Fr a 18 [(3, (.int .i64 n_2)), (6, s1.v), (7, (.int .i64 (goLen p_s))), (8, (.int .i64 t_3))] ∧ St [] w0 w m []) (fun (n_7 : Int) e a w => e = .exit 0 ∧ Fr a 18 [(3, (.int .i64 n_7))] ∧ St [] w0 w m []) hl1 ⟨_, _, rfl, hF.sub ⟨rfl, rfl, rfl, rfl, trivial⟩, hS⟩ ?_ ?_
 ·clear hF hS
  rintro s a w st ⟨n_2, t_3, rfl, hF, hS⟩ hb1
  unfold impl_combinations_l1 at hb1
  refine q_seq (q_region (q_x (v := (.bool (decide (t_3 < (goLen p_s))))) hF hS (ex_ibin rfl rfl rfl) rfl rfl fun a hF => q_end (n_sq (q_seq ?_))))
  rcases bcase (decide (t_3 < (goLen p_s))) with hc2 | hc2
  ·have hb1 := cond_f hc2 hb1
   refine q_cond_f hF rfl hc2 (q_exit (x_sq ?_))
   obtain rfl := someI hb1
   exact ⟨nofun, .inl ⟨rfl, hF.sub ⟨rfl, trivial⟩, hS⟩⟩
  ·have hb1 := cond_t hc2 hb1
   refine q_cond_t hF rfl hc2 (q_skipc (n_sq (q_seq (q_block (q_seq (q_region ?_))))))
   obtain ⟨e_4, he_4, hb1⟩ := bindS hb1
   obtain ⟨vs5, at5, d5⟩ := h1.at he_4 2 rfl
   obtain rfl : vs5 = [(strV e_4.Name), (.int .i64 e_4.Levels)] := d5
   refine q_x (v := (elP s1 (t_3.toNat * 2))) hF hS (ex_indexAddr Try.underlying27 sz58 rfl rfl (h1.idx he_4)) rfl rfl fun a hF => q_x (v := (.agg #[(strV e_4.Name), (.int .i64 e_4.Levels)])) hF hS (ex_loadEA (us := [(strV e_4.Name), (.int .i64 e_4.Levels)]) 0 Try.underlying58 rfl sz58 rfl ((at5).at) rfl rfl rfl) rfl rfl fun a hF => q_alloc (cs := [(strV ([] : List UInt8)), (.int .i64 0)]) hF hS rfl rfl rfl fun a w b6 hF hS => q_store (vs := [(strV e_4.Name), (.int .i64 e_4.Levels)]) (cs' := [(strV e_4.Name), (.int .i64 e_4.Levels)]) 0 0 hF hS sz58 rfl rfl rfl rfl rfl rfl rfl rfl fun a w hF hS => q_end (n_sq (q_region (q_x (v := (.int .i64 n_2)) hF hS (ex_move rfl) rfl rfl fun a hF => q_x (v := (.pointer (some ⟨b6, 1, none⟩))) hF hS (ex_fieldAddr Try.underlying58 rfl sz3 rfl rfl) rfl rfl fun a hF => q_x (v := (.int .i64 e_4.Levels)) hF hS (ex_load1 0 0 Try.underlying3 rfl rfl rfl rfl) rfl rfl fun a hF => q_x (v := (.int .i64 (w64 (n_2 * e_4.Levels)))) hF hS (ex_ibin rfl rfl rfl) rfl rfl fun a hF => q_x (v := (.int .i64 (w64 (n_2 * e_4.Levels)))) hF hS (ex_assign rfl) rfl rfl fun a hF => q_end (n_ib (n_sq (q_region (q_x (v := (.int .i64 (w64 (t_3 + 1)))) hF hS (ex_ibin rfl rfl rfl) rfl rfl fun a hF => q_x (v := (.int .i64 (w64 (t_3 + 1)))) hF hS (ex_move rfl) rfl rfl fun a hF => q_end ?_)))))))
   obtain rfl := someI hb1
   exact ⟨rfl, _, _, rfl, hF.sub ⟨rfl, rfl, rfl, rfl, trivial⟩, hS.mask [false]⟩
 ·rintro e a w ⟨rfl, hF, hS⟩
  refine x_ib (n_sq ?_)
  refine q_seq (q_region (q_x (v := (.int .i64 n_7)) hF hS (ex_move rfl) rfl rfl fun a hF => q_x (v := (.int .i64 n_7)) hF hS (ex_assign rfl) rfl rfl fun a hF => q_end (n_sq (q_ret ?_))))
  obtain rfl := someI hr
  exact ret_of hF hS rfl (.tmp rfl .nil) rfl

theorem c_impl_cellCount (p_g : impl_Geo) (p_s : List impl_Variable) (p_t : impl_Table) (r : Int) (hr : impl_cellCount p_g p_s p_t = some r) (w0 : World) (m : Mem) (hv : Vis m w0) (s1 : Sl) (h1 : Rd m s1 p_g.Parents) (s2 : Sl) (h2 : Rd m s2 p_s) (s3 : Sl) (h3 : Rd m s3 p_t.Vars) (s4 : Sl) (h4 : Rd m s4 p_t.Where) :
  Ret Try.prog 46 [(.agg #[s1.v]), s2.v, (.agg #[(.int .i64 p_t.Level), s3.v, s4.v, (.int .i64 p_t.Sum)])] w0 (fun v _ => v = (.int .i64 r)) := by
 unfold impl_cellCount at hr
 refine ret_start Try.func46 rfl 17 rfl rfl m hv fun a hF hS => q_seq (q_region (q_box (cs := [s1.v]) hF hS rfl rfl rfl fun a w b5 hF hS => q_box (cs := [(.int .i64 p_t.Level), s3.v, s4.v, (.int .i64 p_t.Sum)]) hF hS rfl rfl rfl fun a w b6 hF hS => q_x (v := (.int .i64 0)) hF hS (ex_assign rfl) rfl rfl fun a hF => q_end (n_sq (q_seq (e_region ⟨[], []⟩ mixed fun w' hw' => ?_)))))
 have hS := hS.below hw'
 refine e_x (v := (.agg #[s1.v])) 0 hF hS rfl (ex_loadA (vs := [s1.v]) 1 0 Try.underlying26 rfl sz26 rfl rfl rfl rfl) rfl rfl (by kernel_rfl) (by kernel_rfl) (by kernel_rfl) (by kernel_rfl) fun a hF => e_p (v := (.pointer (some ⟨b6, 0, none⟩))) 1 hF rfl (ex_fieldAddr Try.underlying29 rfl sz3 rfl rfl) rfl rfl (by kernel_rfl) (by kernel_rfl) (by kernel_rfl) fun a hF => e_x (v := (.int .i64 p_t.Level)) 2 hF hS rfl (ex_load1 0 0 Try.underlying3 rfl rfl rfl rfl) rfl rfl (by kernel_rfl) (by kernel_rfl) (by kernel_rfl) (by kernel_rfl) fun a hF => e_p (v := s2.v) 5 hF rfl (ex_move rfl) rfl rfl (by kernel_rfl) (by kernel_rfl) (by kernel_rfl) fun a hF => e_x (v := (.agg #[(.int .i64 p_t.Level), s3.v, s4.v, (.int .i64 p_t.Sum)])) 6 hF hS rfl (ex_loadA (vs := [(.int .i64 p_t.Level), s3.v, s4.v, (.int .i64 p_t.Sum)]) 0 0 Try.underlying29 rfl sz29 rfl rfl rfl rfl) rfl rfl (by kernel_rfl) (by kernel_rfl) (by kernel_rfl) (by kernel_rfl) fun a hF => e_one 3 (by kernel_rfl) ?_
 obtain ⟨t_13, ht_13, hr⟩ := bindS hr
 refine e_call (vs := [(.agg #[s1.v]), (.int .i64 p_t.Level)]) hF hS rfl Try.func80 (by kernel_rfl) rfl rfl rfl (c_impl_areasAt p_g p_t.Level t_13 ht_13 _ m hS.vis s1 h1) ?_
 rintro a w _ ⟨q15, s15, rfl, hR14, h15⟩ hF hS2
 have hS : St _ _ _ _ [q15, [⟨b6, [(.int .i64 p_t.Level), s3.v, s4.v, (.int .i64 p_t.Sum)], 29⟩], [⟨b5, [s1.v], 26⟩]] := hS.joinF hR14
 refine e_p (v := (.int .i64 (goLen t_13))) 4 hF rfl (ex_len Try.underlying24 rfl h15.len) rfl rfl (by kernel_rfl) (by kernel_rfl) (by kernel_rfl) fun a hF => e_one 7 (by kernel_rfl) ?_
 obtain ⟨t_16, ht_16, hr⟩ := bindS hr
 refine e_call (vs := [s2.v, (.agg #[(.int .i64 p_t.Level), s3.v, s4.v, (.int .i64 p_t.Sum)])]) hF hS rfl Try.func82 (by kernel_rfl) rfl rfl rfl (c_impl_crossed p_s p_t t_16 ht_16 _ m hS.vis s2 h2 s3 h3 s4 h4) ?_
 rintro a w _ ⟨q18, s18, rfl, hR17, h18⟩ hF hS2
 have hS : St _ _ _ _ [q18, q15, [⟨b6, [(.int .i64 p_t.Level), s3.v, s4.v, (.int .i64 p_t.Sum)], 29⟩], [⟨b5, [s1.v], 26⟩]] := hS.joinF hR17
 refine e_one 8 (by kernel_rfl) ?_
 obtain ⟨m20, hl20, hv20, hz20⟩ := hS.lend
 obtain ⟨t_19, ht_19, hr⟩ := bindS hr
 refine e_call (vs := [s18.v]) hF hS rfl Try.func81 (by kernel_rfl) rfl rfl rfl (c_impl_combinations t_16 t_19 ht_19 _ m20 hv20 s18 (h18.froz hl20 (hz20 0 _ rfl))) ?_
 rintro a w _ rfl hF hS
 refine e_p (v := (.int .i64 (w64 ((goLen t_13) * t_19)))) 9 hF rfl (ex_ibin rfl rfl rfl) rfl rfl (by kernel_rfl) (by kernel_rfl) (by kernel_rfl) fun a hF => e_p (v := (.int .i64 (w64 ((goLen t_13) * t_19)))) 10 hF rfl (ex_assign rfl) rfl rfl (by kernel_rfl) (by kernel_rfl) (by kernel_rfl) fun a hF => e_end (by kernel_rfl) (n_sq (q_ret ?_)) _
 obtain rfl := someI hr
 exact ret_of hF hS rfl (.tmp rfl .nil) rfl

theorem c_impl_isTable (p_g : impl_Geo) (p_s : List impl_Variable) (p_t : impl_Table) (r : Bool) (hr : impl_isTable p_g p_s p_t = some r) (w0 : World) (m : Mem) (hv : Vis m w0) (s1 : Sl) (h1 : Rd m s1 p_g.Parents) (s2 : Sl) (h2 : Rd m s2 p_s) (s3 : Sl) (h3 : Rd m s3 p_t.Vars) (s4 : Sl) (h4 : Rd m s4 p_t.Where) :
  Ret Try.prog 30 [(.agg #[s1.v]), s2.v, (.agg #[(.int .i64 p_t.Level), s3.v, s4.v, (.int .i64 p_t.Sum)])] w0 (fun v _ => v = (.bool r)) := by
 unfold impl_isTable at hr
 refine ret_start Try.func30 rfl 42 rfl rfl m hv fun a hF hS => q_seq (q_region (q_box (cs := [s1.v]) hF hS rfl rfl rfl fun a w b5 hF hS => q_box (cs := [(.int .i64 p_t.Level), s3.v, s4.v, (.int .i64 p_t.Sum)]) hF hS rfl rfl rfl fun a w b6 hF hS => q_x (v := (.bool false)) hF hS (ex_assign rfl) rfl rfl fun a hF => q_end (n_sq (q_seq (q_seq ?_)))))
 obtain ⟨t_9, hj1, hr⟩ := bindS hr
 refine q_join (fun a w => Fr a 42 [(1, s2.v), (3, (.pointer (some ⟨b5, 0, none⟩))), (5, (.pointer (some ⟨b6, 0, none⟩))), (31, (.bool t_9))] ∧ St [] w0 w m [[⟨b6, [(.int .i64 p_t.Level), s3.v, s4.v, (.int .i64 p_t.Sum)], 29⟩], [⟨b5, [s1.v], 26⟩]]) ?_ ?_
 ·refine q_region (q_x (v := s2.v) hF hS (ex_move rfl) rfl rfl fun a hF => q_x (v := (.pointer (some ⟨b6, 1, none⟩))) hF hS (ex_fieldAddr Try.underlying29 rfl sz24 rfl rfl) rfl rfl fun a hF => q_x (v := s3.v) hF hS (ex_load1 0 0 Try.underlying24 rfl rfl rfl rfl) rfl rfl fun a hF => ?_)
  obtain ⟨t_7, ht_7, hj1⟩ := bindS hj1
  refine q_call (vs := [s2.v, s3.v]) hF hS Try.func57 (by kernel_rfl) rfl rfl rfl (c_impl_areVars p_s p_t.Vars t_7 ht_7 _ m hS.vis s2 h2 s3 h3) ?_
  rintro a w _ rfl hF hS
  refine q_x (v := (.bool (!t_7))) hF hS (ex_not rfl) rfl rfl fun a hF => q_x (v := (.bool (!t_7))) hF hS (ex_move rfl) rfl rfl fun a hF => ?_
  rcases bcase (!t_7) with hc2 | hc2
  ·have hj1 := cond_f hc2 hj1
   refine q_xg (v := s2.v) hF hS (ex_move rfl) (wanted_t hF rfl rfl rfl hc2) rfl fun a hF => q_xg (v := (.pointer (some ⟨b6, 2, none⟩))) hF hS (ex_fieldAddr Try.underlying29 rfl sz24 rfl rfl) (wanted_t hF rfl rfl rfl hc2) rfl fun a hF => q_xg (v := s4.v) hF hS (ex_load1 0 0 Try.underlying24 rfl rfl rfl rfl) (wanted_t hF rfl rfl rfl hc2) rfl fun a hF => ?_
   obtain ⟨t_8, ht_8, hj1⟩ := bindS hj1
   refine q_callg (vs := [s2.v, s4.v]) hF hS (wanted_t hF rfl rfl rfl hc2) Try.func58 (by kernel_rfl) rfl rfl rfl (c_impl_isWhere p_s p_t.Where t_8 ht_8 _ m hS.vis s2 h2 s4 h4) ?_
   rintro a w _ rfl hF hS
   refine q_xg (v := (.bool (!t_8))) hF hS (ex_not rfl) (wanted_t hF rfl rfl rfl hc2) rfl fun a hF => q_x (v := (.bool (!t_8))) hF hS (ex_pick_f rfl rfl hc2) rfl rfl fun a hF => q_x (v := (.bool (!t_8))) hF hS (ex_move rfl) rfl rfl fun a hF => ?_
   rcases bcase (!t_8) with hc3 | hc3
   ·have hj1 := cond_f hc3 hj1
    refine q_xg (v := (.pointer (some ⟨b6, 3, none⟩))) hF hS (ex_fieldAddr Try.underlying29 rfl sz3 rfl rfl) (wanted_t hF rfl rfl rfl hc3) rfl fun a hF => q_xg (v := (.int .i64 p_t.Sum)) hF hS (ex_load1 0 0 Try.underlying3 rfl rfl rfl rfl) (wanted_t hF rfl rfl rfl hc3) rfl fun a hF => q_xg (v := (.bool (decide (p_t.Sum < (-1))))) hF hS (ex_ibin rfl rfl rfl) (wanted_t hF rfl rfl rfl hc3) rfl fun a hF => q_x (v := (.bool (decide (p_t.Sum < (-1))))) hF hS (ex_pick_f rfl rfl hc3) rfl rfl fun a hF => q_x (v := (.bool (decide (p_t.Sum < (-1))))) hF hS (ex_move rfl) rfl rfl fun a hF => ?_
    rcases bcase (decide (p_t.Sum < (-1))) with hc4 | hc4
    ·have hj1 := cond_f hc4 hj1
     refine q_xg (v := (.pointer (some ⟨b6, 3, none⟩))) hF hS (ex_fieldAddr Try.underlying29 rfl sz3 rfl rfl) (wanted_t hF rfl rfl rfl hc4) rfl fun a hF => q_xg (v := (.int .i64 p_t.Sum)) hF hS (ex_load1 0 0 Try.underlying3 rfl rfl rfl rfl) (wanted_t hF rfl rfl rfl hc4) rfl fun a hF => q_xg (v := s2.v) hF hS (ex_move rfl) (wanted_t hF rfl rfl rfl hc4) rfl fun a hF => q_xg (v := (.int .i64 (goLen p_s))) hF hS (ex_len Try.underlying27 rfl h2.len) (wanted_t hF rfl rfl rfl hc4) rfl fun a hF => q_xg (v := (.bool (decide ((goLen p_s) ≤ p_t.Sum)))) hF hS (ex_ibin rfl rfl rfl) (wanted_t hF rfl rfl rfl hc4) rfl fun a hF => q_x (v := (.bool (decide ((goLen p_s) ≤ p_t.Sum)))) hF hS (ex_pick_f rfl rfl hc4) rfl rfl fun a hF => q_end (n_jn ?_)
     obtain rfl := someI hj1
     exact ⟨hF.sub ⟨rfl, rfl, rfl, rfl, trivial⟩, hS⟩
    ·have hj1 := cond_t hc4 hj1
     refine q_skip hF (wanted_f hF rfl rfl rfl hc4 rfl) rfl fun a hF => q_skip hF (wanted_f hF rfl rfl rfl hc4 rfl) rfl fun a hF => q_skip hF (wanted_f hF rfl rfl rfl hc4 rfl) rfl fun a hF => q_skip hF (wanted_f hF rfl rfl rfl hc4 rfl) rfl fun a hF => q_skip hF (wanted_f hF rfl rfl rfl hc4 rfl) rfl fun a hF => q_x (v := (.bool true)) hF hS (ex_pick_t rfl rfl hc4) rfl rfl fun a hF => q_end (n_jn ?_)
     obtain rfl := someI hj1
     exact ⟨hF.sub ⟨rfl, rfl, rfl, rfl, trivial⟩, hS⟩
   ·have hj1 := cond_t hc3 hj1
    refine q_skip hF (wanted_f hF rfl rfl rfl hc3 rfl) rfl fun a hF => q_skip hF (wanted_f hF rfl rfl rfl hc3 rfl) rfl fun a hF => q_skip hF (wanted_f hF rfl rfl rfl hc3 rfl) rfl fun a hF => q_x (v := (.bool true)) hF hS (ex_pick_t rfl rfl hc3) rfl rfl fun a hF => q_x (v := (.bool true)) hF hS (ex_move rfl) rfl rfl fun a hF => q_skip hF (wanted_f hF rfl rfl rfl rfl rfl) rfl fun a hF => q_skip hF (wanted_f hF rfl rfl rfl rfl rfl) rfl fun a hF => q_skip hF (wanted_f hF rfl rfl rfl rfl rfl) rfl fun a hF => q_skip hF (wanted_f hF rfl rfl rfl rfl rfl) rfl fun a hF => q_skip hF (wanted_f hF rfl rfl rfl rfl rfl) rfl fun a hF => q_x (v := (.bool true)) hF hS (ex_pick_t rfl rfl rfl) rfl rfl fun a hF => q_end (n_jn ?_)
    obtain rfl := someI hj1
    exact ⟨hF.sub ⟨rfl, rfl, rfl, rfl, trivial⟩, hS⟩
  ·have hj1 := cond_t hc2 hj1
   refine q_skip hF (wanted_f hF rfl rfl rfl hc2 rfl) rfl fun a hF => q_skip hF (wanted_f hF rfl rfl rfl hc2 rfl) rfl fun a hF => q_skip hF (wanted_f hF rfl rfl rfl hc2 rfl) rfl fun a hF => q_skip hF (wanted_f hF rfl rfl rfl hc2 rfl) rfl fun a hF => q_skip hF (wanted_f hF rfl rfl rfl hc2 rfl) rfl fun a hF => q_x (v := (.bool true)) hF hS (ex_pick_t rfl rfl hc2) rfl rfl fun a hF => q_x (v := (.bool true)) hF hS (ex_move rfl) rfl rfl fun a hF => q_skip hF (wanted_f hF rfl rfl rfl rfl rfl) rfl fun a hF => q_skip hF (wanted_f hF rfl rfl rfl rfl rfl) rfl fun a hF => q_skip hF (wanted_f hF rfl rfl rfl rfl rfl) rfl fun a hF => q_x (v := (.bool true)) hF hS (ex_pick_t rfl rfl rfl) rfl rfl fun a hF => q_x (v := (.bool true)) hF hS (ex_move rfl) rfl rfl fun a hF => q_skip hF (wanted_f hF rfl rfl rfl rfl rfl) rfl fun a hF => q_skip hF (wanted_f hF rfl rfl rfl rfl rfl) rfl fun a hF => q_skip hF (wanted_f hF rfl rfl rfl rfl rfl) rfl fun a hF => q_skip hF (wanted_f hF rfl rfl rfl rfl rfl) rfl fun a hF => q_skip hF (wanted_f hF rfl rfl rfl rfl rfl) rfl fun a hF => q_x (v := (.bool true)) hF hS (ex_pick_t rfl rfl rfl) rfl rfl fun a hF => q_end (n_jn ?_)
   obtain rfl := someI hj1
   exact ⟨hF.sub ⟨rfl, rfl, rfl, rfl, trivial⟩, hS⟩
 ·rintro a w ⟨hF, hS⟩
  refine n_sq ?_
  rcases bcase (t_9) with hc5 | hc5
  ·have hr := cond_f hc5 hr
   refine q_cond_f hF rfl hc5 (q_skipc (n_sq (q_seq (q_region (q_x (v := (.agg #[s1.v])) hF hS (ex_loadA (vs := [s1.v]) 1 0 Try.underlying26 rfl sz26 rfl rfl rfl rfl) rfl rfl fun a hF => q_x (v := s2.v) hF hS (ex_move rfl) rfl rfl fun a hF => q_x (v := (.agg #[(.int .i64 p_t.Level), s3.v, s4.v, (.int .i64 p_t.Sum)])) hF hS (ex_loadA (vs := [(.int .i64 p_t.Level), s3.v, s4.v, (.int .i64 p_t.Sum)]) 0 0 Try.underlying29 rfl sz29 rfl rfl rfl rfl) rfl rfl fun a hF => ?_)))))
   obtain ⟨t_10, ht_10, hr⟩ := bindS hr
   refine q_call (vs := [(.agg #[s1.v]), s2.v, (.agg #[(.int .i64 p_t.Level), s3.v, s4.v, (.int .i64 p_t.Sum)])]) hF hS Try.func46 (by kernel_rfl) rfl rfl rfl (c_impl_cellCount p_g p_s p_t t_10 ht_10 _ m hS.vis s1 h1 s2 h2 s3 h3 s4 h4) ?_
   rintro a w _ rfl hF hS
   refine q_x (v := (.int .i64 t_10)) hF hS (ex_assign rfl) rfl rfl fun a hF => q_end (n_sq (q_seq ?_))
   obtain ⟨t_11, hj6, hr⟩ := bindS hr
   refine q_join (fun a w => Fr a 42 [(6, (.bool t_11))] ∧ St [] w0 w m []) ?_ ?_
   ·refine q_region (q_x (v := (.int .i64 t_10)) hF hS (ex_move rfl) rfl rfl fun a hF => q_x (v := (.bool (decide (0 < t_10)))) hF hS (ex_ibin rfl rfl rfl) rfl rfl fun a hF => q_x (v := (.bool (decide (0 < t_10)))) hF hS (ex_move rfl) rfl rfl fun a hF => ?_)
    rcases bcase (decide (0 < t_10)) with hc7 | hc7
    ·have hj6 := cond_f hc7 hj6
     refine q_skip hF (wanted_f hF rfl rfl rfl hc7 rfl) rfl fun a hF => q_skip hF (wanted_f hF rfl rfl rfl hc7 rfl) rfl fun a hF => q_x (v := (.bool false)) hF hS (ex_pick_f rfl rfl hc7) rfl rfl fun a hF => q_x (v := (.bool false)) hF hS (ex_assign rfl) rfl rfl fun a hF => q_end (n_jn ?_)
     obtain rfl := someI hj6
     exact ⟨hF.sub ⟨rfl, trivial⟩, hS.mask [false, false]⟩
    ·have hj6 := cond_t hc7 hj6
     refine q_xg (v := (.int .i64 t_10)) hF hS (ex_move rfl) (wanted_t hF rfl rfl rfl hc7) rfl fun a hF => q_xg (v := (.bool (decide (t_10 ≤ 600)))) hF hS (ex_ibin rfl rfl rfl) (wanted_t hF rfl rfl rfl hc7) rfl fun a hF => q_x (v := (.bool (decide (t_10 ≤ 600)))) hF hS (ex_pick_t rfl rfl hc7) rfl rfl fun a hF => q_x (v := (.bool (decide (t_10 ≤ 600)))) hF hS (ex_assign rfl) rfl rfl fun a hF => q_end (n_jn ?_)
     obtain rfl := someI hj6
     exact ⟨hF.sub ⟨rfl, trivial⟩, hS.mask [false, false]⟩
   ·rintro a w ⟨hF, hS⟩
    refine n_sq (q_ret ?_)
    obtain rfl := someI hr
    exact ret_of hF hS rfl (.tmp rfl .nil) rfl
  ·have hr := cond_t hc5 hr
   refine q_cond_t hF rfl hc5 (q_seq (q_region (q_x (v := (.bool false)) hF hS (ex_assign rfl) rfl rfl fun a hF => q_end (n_sq (q_ret (r_sq ?_))))))
   obtain rfl := someI hr
   exact ret_of hF hS rfl (.tmp rfl .nil) rfl

theorem c_impl_isPlan (p_g : impl_Geo) (p_s : List impl_Variable) (p_l : List impl_Table) (r : Bool) (hr : impl_isPlan p_g p_s p_l = some r) (w0 : World) (m : Mem) (hv : Vis m w0) (s1 : Sl) (h1 : Rd m s1 p_g.Parents) (s2 : Sl) (h2 : Rd m s2 p_s) (s3 : Sl) (h3 : Rd m s3 p_l) :
  Ret Try.prog 42 [(.agg #[s1.v]), s2.v, s3.v] w0 (fun v _ => v = (.bool r)) := by
 unfold impl_isPlan at hr
 refine ret_start Try.func42 rfl 34 rfl rfl m hv fun a hF hS => q_seq (q_region (q_box (cs := [s1.v]) hF hS rfl rfl rfl fun a w b4 hF hS => q_x (v := (.bool false)) hF hS (ex_assign rfl) rfl rfl fun a hF => q_end (n_sq (q_seq (q_seq ?_)))))
 obtain ⟨t_7, hj1, hr⟩ := bindS hr
 refine q_join (fun a w => Fr a 34 [(1, s2.v), (2, s3.v), (3, (.pointer (some ⟨b4, 0, none⟩))), (21, (.bool t_7))] ∧ St [] w0 w m [[⟨b4, [s1.v], 26⟩]]) ?_ ?_
 ·refine q_region (q_x (v := (.agg #[s1.v])) hF hS (ex_loadA (vs := [s1.v]) 0 0 Try.underlying26 rfl sz26 rfl rfl rfl rfl) rfl rfl fun a hF => ?_)
  obtain ⟨t_5, ht_5, hj1⟩ := bindS hj1
  refine q_call (vs := [(.agg #[s1.v])]) hF hS Try.func55 (by kernel_rfl) rfl rfl rfl (c_impl_IsGeo p_g t_5 ht_5 _ m hS.vis s1 h1) ?_
  rintro a w _ rfl hF hS
  refine q_x (v := (.bool (!t_5))) hF hS (ex_not rfl) rfl rfl fun a hF => q_x (v := (.bool (!t_5))) hF hS (ex_move rfl) rfl rfl fun a hF => ?_
  rcases bcase (!t_5) with hc2 | hc2
  ·have hj1 := cond_f hc2 hj1
   refine q_xg (v := s2.v) hF hS (ex_move rfl) (wanted_t hF rfl rfl rfl hc2) rfl fun a hF => ?_
   obtain ⟨t_6, ht_6, hj1⟩ := bindS hj1
   refine q_callg (vs := [s2.v]) hF hS (wanted_t hF rfl rfl rfl hc2) Try.func56 (by kernel_rfl) rfl rfl rfl (c_impl_IsSchema p_s t_6 ht_6 _ m hS.vis s2 h2) ?_
   rintro a w _ rfl hF hS
   refine q_xg (v := (.bool (!t_6))) hF hS (ex_not rfl) (wanted_t hF rfl rfl rfl hc2) rfl fun a hF => q_x (v := (.bool (!t_6))) hF hS (ex_pick_f rfl rfl hc2) rfl rfl fun a hF => q_x (v := (.bool (!t_6))) hF hS (ex_move rfl) rfl rfl fun a hF => ?_
   rcases bcase (!t_6) with hc3 | hc3
   ·have hj1 := cond_f hc3 hj1
    refine q_xg (v := s3.v) hF hS (ex_move rfl) (wanted_t hF rfl rfl rfl hc3) rfl fun a hF => q_xg (v := (.int .i64 (goLen p_l))) hF hS (ex_len Try.underlying37 rfl h3.len) (wanted_t hF rfl rfl rfl hc3) rfl fun a hF => q_xg (v := (.bool (decide (20 < (goLen p_l))))) hF hS (ex_ibin rfl rfl rfl) (wanted_t hF rfl rfl rfl hc3) rfl fun a hF => q_x (v := (.bool (decide (20 < (goLen p_l))))) hF hS (ex_pick_f rfl rfl hc3) rfl rfl fun a hF => q_end (n_jn ?_)
    obtain rfl := someI hj1
    exact ⟨hF.sub ⟨rfl, rfl, rfl, rfl, trivial⟩, hS⟩
   ·have hj1 := cond_t hc3 hj1
    refine q_skip hF (wanted_f hF rfl rfl rfl hc3 rfl) rfl fun a hF => q_skip hF (wanted_f hF rfl rfl rfl hc3 rfl) rfl fun a hF => q_skip hF (wanted_f hF rfl rfl rfl hc3 rfl) rfl fun a hF => q_x (v := (.bool true)) hF hS (ex_pick_t rfl rfl hc3) rfl rfl fun a hF => q_end (n_jn ?_)
    obtain rfl := someI hj1
    exact ⟨hF.sub ⟨rfl, rfl, rfl, rfl, trivial⟩, hS⟩
  ·have hj1 := cond_t hc2 hj1
   refine q_skip hF (wanted_f hF rfl rfl rfl hc2 rfl) rfl fun a hF => q_skip hF (wanted_f hF rfl rfl rfl hc2 rfl) rfl fun a hF => q_skip hF (wanted_f hF rfl rfl rfl hc2 rfl) rfl fun a hF => q_x (v := (.bool true)) hF hS (ex_pick_t rfl rfl hc2) rfl rfl fun a hF => q_x (v := (.bool true)) hF hS (ex_move rfl) rfl rfl fun a hF => q_skip hF (wanted_f hF rfl rfl rfl rfl rfl) rfl fun a hF => q_skip hF (wanted_f hF rfl rfl rfl rfl rfl) rfl fun a hF => q_skip hF (wanted_f hF rfl rfl rfl rfl rfl) rfl fun a hF => q_x (v := (.bool true)) hF hS (ex_pick_t rfl rfl rfl) rfl rfl fun a hF => q_end (n_jn ?_)
   obtain rfl := someI hj1
   exact ⟨hF.sub ⟨rfl, rfl, rfl, rfl, trivial⟩, hS⟩
 ·rintro a w ⟨hF, hS⟩
  refine n_sq ?_
  rcases bcase (t_7) with hc4 | hc4
  ·have hr := cond_f hc4 hr
   refine q_cond_f hF rfl hc4 (q_skipc (n_sq (q_seq (q_seq (q_region (q_x (v := s3.v) hF hS (ex_move rfl) rfl rfl fun a hF => q_x (v := (.int .i64 (goLen p_l))) hF hS (ex_len Try.underlying37 rfl h3.len) rfl rfl fun a hF => q_x (v := (.int .i64 0)) hF hS (ex_move rfl) rfl rfl fun a hF => q_end (n_sq (q_block ?_))))))))
   obtain ⟨o5, hl5, hr⟩ := bindS hr
   refine q_loop (fun (t_8 : Int) a w => Fr a 34 [(1, s2.v), (3, (.pointer (some ⟨b4, 0, none⟩))), (22, s3.v), (23, (.int .i64 (goLen p_l))), (24, (.int .i64 t_8))] ∧ St [] w0 w m [[⟨b4, [s1.v], 26⟩]]) (fun (o : (Unit) ⊕ (Bool)) e a w => o = .inl () ∧ e = .exit 0 ∧ Fr a 34 [] ∧ St [] w0 w m []) hl5 ⟨hF.sub ⟨rfl, rfl, rfl, rfl, rfl, trivial⟩, hS⟩ ?_ ?_
   ·clear hF hS
    rintro t_8 a w st ⟨hF, hS⟩ hb5
    unfold impl_isPlan_l1 at hb5
    refine q_seq (q_region (q_x (v := (.bool (decide (t_8 < (goLen p_l))))) hF hS (ex_ibin rfl rfl rfl) rfl rfl fun a hF => q_end (n_sq (q_seq ?_))))
    rcases bcase (decide (t_8 < (goLen p_l))) with hc6 | hc6
    ·have hb5 := cond_f hc6 hb5
     refine q_cond_f hF rfl hc6 (q_exit (x_sq ?_))
     obtain rfl := someI hb5
     exact ⟨nofun, .inl ⟨rfl, rfl, hF.sub trivial, hS.mask [false]⟩⟩
    ·have hb5 := cond_t hc6 hb5
     refine q_cond_t hF rfl hc6 (q_skipc (n_sq (q_seq (q_block (q_seq (q_region ?_))))))
     obtain ⟨e_9, he_9, hb5⟩ := bindS hb5
     obtain ⟨vs10, at10, d10⟩ := h3.at he_9 4 rfl
     obtain ⟨s11, s12, rfl, h11, h12⟩ : ∃ s11 s12 : Sl, vs10 = [(.int .i64 e_9.Level), s11.v, s12.v, (.int .i64 e_9.Sum)] ∧ Rd m s11 e_9.Vars ∧ Rd m s12 e_9.Where := d10
     refine q_x (v := (elP s3 (t_8.toNat * 4))) hF hS (ex_indexAddr Try.underlying37 sz29 rfl rfl (h3.idx he_9)) rfl rfl fun a hF => q_x (v := (.agg #[(.int .i64 e_9.Level), s11.v, s12.v, (.int .i64 e_9.Sum)])) hF hS (ex_loadEA (us := [(.int .i64 e_9.Level), s11.v, s12.v, (.int .i64 e_9.Sum)]) 0 Try.underlying29 rfl sz29 rfl ((at10).at) rfl rfl rfl) rfl rfl fun a hF => q_alloc (cs := [(.int .i64 0), nilS.v, nilS.v, (.int .i64 0)]) hF hS rfl rfl rfl fun a w b13 hF hS => q_store (vs := [(.int .i64 e_9.Level), s11.v, s12.v, (.int .i64 e_9.Sum)]) (cs' := [(.int .i64 e_9.Level), s11.v, s12.v, (.int .i64 e_9.Sum)]) 0 0 hF hS sz29 rfl rfl rfl rfl rfl rfl rfl rfl fun a w hF hS => q_end (n_sq (q_seq (q_region (q_x (v := (.agg #[s1.v])) hF hS (ex_loadA (vs := [s1.v]) 1 0 Try.underlying26 rfl sz26 rfl rfl rfl rfl) rfl rfl fun a hF => q_x (v := s2.v) hF hS (ex_move rfl) rfl rfl fun a hF => q_x (v := (.agg #[(.int .i64 e_9.Level), s11.v, s12.v, (.int .i64 e_9.Sum)])) hF hS (ex_loadA (vs := [(.int .i64 e_9.Level), s11.v, s12.v, (.int .i64 e_9.Sum)]) 0 0 Try.underlying29 rfl sz29 rfl rfl rfl rfl) rfl rfl fun a hF => ?_))))
     obtain ⟨t_14, ht_14, hb5⟩ := bindS hb5
     refine q_call (vs := [(.agg #[s1.v]), s2.v, (.agg #[(.int .i64 e_9.Level), s11.v, s12.v, (.int .i64 e_9.Sum)])]) hF hS Try.func30 (by kernel_rfl) rfl rfl rfl (c_impl_isTable p_g p_s e_9 t_14 ht_14 _ m hS.vis s1 h1 s2 h2 s11 h11 s12 h12) ?_
     rintro a w _ rfl hF hS
     refine q_x (v := (.bool (!t_14))) hF hS (ex_not rfl) rfl rfl fun a hF => q_end (n_sq ?_)
     rcases bcase (!t_14) with hc7 | hc7
     ·have hb5 := cond_f hc7 hb5
      refine q_cond_f hF rfl hc7 (q_skipc (n_ib (n_sq (q_region (q_x (v := (.int .i64 (w64 (t_8 + 1)))) hF hS (ex_ibin rfl rfl rfl) rfl rfl fun a hF => q_x (v := (.int .i64 (w64 (t_8 + 1)))) hF hS (ex_move rfl) rfl rfl fun a hF => q_end ?_)))))
      obtain rfl := someI hb5
      exact ⟨rfl, hF.sub ⟨rfl, rfl, rfl, rfl, rfl, trivial⟩, hS.mask [false, true]⟩
     ·have hb5 := cond_t hc7 hb5
      refine q_cond_t hF rfl hc7 (q_seq (q_region (q_x (v := (.bool false)) hF hS (ex_assign rfl) rfl rfl fun a hF => q_end (n_sq (q_ret (r_ib (r_sq ?_)))))))
      obtain rfl := someI hb5
      refine ⟨nofun, .inr fun ho => ?_⟩
      subst ho
      refine r_ib (r_sq ?_)
      obtain rfl := someI hr
      exact ret_of hF hS rfl (.tmp rfl .nil) rfl
   ·rintro e a w ⟨rfl, rfl, hF, hS⟩
    refine x_ib (n_sq ?_)
    refine q_seq (q_region (q_x (v := (.bool true)) hF hS (ex_assign rfl) rfl rfl fun a hF => q_end (n_sq (q_ret ?_))))
    obtain rfl := someI hr
    exact ret_of hF hS rfl (.tmp rfl .nil) rfl
  ·have hr := cond_t hc4 hr
   refine q_cond_t hF rfl hc4 (q_seq (q_region (q_x (v := (.bool false)) hF hS (ex_assign rfl) rfl rfl fun a hF => q_end (n_sq (q_ret (r_sq ?_))))))
   obtain rfl := someI hr
   exact ret_of hF hS rfl (.tmp rfl .nil) rfl

theorem c_slices_Index_int_int (p_s : List Int) (p_v : Int) (r : Int) (hr : slices_Index_int_int p_s p_v = some r) (w0 : World) (m : Mem) (hv : Vis m w0) (s1 : Sl) (h1 : Rd m s1 p_s) :
  Ret Try.prog 59 [s1.v, (.int .i64 p_v)] w0 (fun v _ => v = (.int .i64 r)) := by
 unfold slices_Index_int_int at hr
 refine ret_start Try.func59 rfl 19 rfl rfl m hv fun a hF hS => q_seq (q_region (q_x (v := (.int .i64 0)) hF hS (ex_assign rfl) rfl rfl fun a hF => q_end (n_sq (q_seq (q_seq (q_region (q_x (v := s1.v) hF hS (ex_move rfl) rfl rfl fun a hF => q_x (v := (.int .i64 (goLen p_s))) hF hS (ex_len Try.underlying24 rfl h1.len) rfl rfl fun a hF => q_x (v := (.int .i64 0)) hF hS (ex_move rfl) rfl rfl fun a hF => q_end (n_sq (q_block ?_)))))))))
 obtain ⟨o1, hl1, hr⟩ := bindS hr
 refine q_loop (fun (t_2 : Int) a w => Fr a 19 [(0, s1.v), (1, (.int .i64 p_v)), (7, (.int .i64 (goLen p_s))), (8, (.int .i64 t_2))] ∧ St [] w0 w m []) (fun (o : (Unit) ⊕ (Int)) e a w => o = .inl () ∧ e = .exit 0 ∧ Fr a 19 [] ∧ St [] w0 w m []) hl1 ⟨hF.sub ⟨rfl, rfl, rfl, rfl, trivial⟩, hS⟩ ?_ ?_
 ·clear hF hS
  rintro t_2 a w st ⟨hF, hS⟩ hb1
  unfold slices_Index_int_int_l1 at hb1
  refine q_seq (q_region (q_x (v := (.bool (decide (t_2 < (goLen p_s))))) hF hS (ex_ibin rfl rfl rfl) rfl rfl fun a hF => q_end (n_sq (q_seq ?_))))
  rcases bcase (decide (t_2 < (goLen p_s))) with hc2 | hc2
  ·have hb1 := cond_f hc2 hb1
   refine q_cond_f hF rfl hc2 (q_exit (x_sq ?_))
   obtain rfl := someI hb1
   exact ⟨nofun, .inl ⟨rfl, rfl, hF.sub trivial, hS⟩⟩
  ·have hb1 := cond_t hc2 hb1
   refine q_cond_t hF rfl hc2 (q_skipc (n_sq (q_seq (q_block (q_seq (q_region (q_x (v := (.int .i64 t_2)) hF hS (ex_move rfl) rfl rfl fun a hF => q_x (v := (.int .i64 t_2)) hF hS (ex_assign rfl) rfl rfl fun a hF => q_end (n_sq (q_seq (q_region (q_x (v := (.int .i64 p_v)) hF hS (ex_move rfl) rfl rfl fun a hF => q_x (v := s1.v) hF hS (ex_move rfl) rfl rfl fun a hF => q_x (v := (.int .i64 t_2)) hF hS (ex_move rfl) rfl rfl fun a hF => ?_)))))))))))
   obtain ⟨e_3, he_3, hb1⟩ := bindS hb1
   obtain ⟨vs4, at4, d4⟩ := h1.at he_3 1 rfl
   obtain rfl : vs4 = [(.int .i64 e_3)] := d4
   refine q_x (v := (elP s1 (t_2.toNat * 1))) hF hS (ex_indexAddr Try.underlying24 sz3 rfl rfl (h1.idx he_3)) rfl rfl fun a hF => q_x (v := (.int .i64 e_3)) hF hS (ex_loadE1 0 Try.underlying3 rfl rfl ((at4).at) rfl rfl) rfl rfl fun a hF => q_x (v := (.bool (p_v == e_3))) hF hS (ex_ibin rfl rfl rfl) rfl rfl fun a hF => q_end (n_sq ?_)
   rcases bcase (p_v == e_3) with hc3 | hc3
   ·have hb1 := cond_f hc3 hb1
    refine q_cond_f hF rfl hc3 (q_skipc (n_ib (n_sq (q_region (q_x (v := (.int .i64 (w64 (t_2 + 1)))) hF hS (ex_ibin rfl rfl rfl) rfl rfl fun a hF => q_x (v := (.int .i64 (w64 (t_2 + 1)))) hF hS (ex_move rfl) rfl rfl fun a hF => q_end ?_)))))
    obtain rfl := someI hb1
    exact ⟨rfl, hF.sub ⟨rfl, rfl, rfl, rfl, trivial⟩, hS⟩
   ·have hb1 := cond_t hc3 hb1
    refine q_cond_t hF rfl hc3 (q_seq (q_region (q_x (v := (.int .i64 t_2)) hF hS (ex_move rfl) rfl rfl fun a hF => q_x (v := (.int .i64 t_2)) hF hS (ex_assign rfl) rfl rfl fun a hF => q_end (n_sq (q_ret (r_ib (r_sq ?_)))))))
    obtain rfl := someI hb1
    refine ⟨nofun, .inr fun ho => ?_⟩
    subst ho
    refine r_ib (r_sq ?_)
    obtain rfl := someI hr
    exact ret_of hF hS rfl (.tmp rfl .nil) rfl
 ·rintro e a w ⟨rfl, rfl, hF, hS⟩
  refine x_ib (n_sq ?_)
  refine q_seq (q_region (q_x (v := (.int .i64 (-1))) hF hS (ex_assign rfl) rfl rfl fun a hF => q_end (n_sq (q_ret ?_))))
  obtain rfl := someI hr
  exact ret_of hF hS rfl (.tmp rfl .nil) rfl

theorem c_slices_Contains_int_int (p_s : List Int) (p_v : Int) (r : Bool) (hr : slices_Contains_int_int p_s p_v = some r) (w0 : World) (m : Mem) (hv : Vis m w0) (s1 : Sl) (h1 : Rd m s1 p_s) :
  Ret Try.prog 33 [s1.v, (.int .i64 p_v)] w0 (fun v _ => v = (.bool r)) := by
 unfold slices_Contains_int_int at hr
 refine ret_start Try.func33 rfl 9 rfl rfl m hv fun a hF hS => q_seq (q_region (q_x (v := (.bool false)) hF hS (ex_assign rfl) rfl rfl fun a hF => q_end (n_sq (q_seq (q_region (q_x (v := s1.v) hF hS (ex_move rfl) rfl rfl fun a hF => q_x (v := (.int .i64 p_v)) hF hS (ex_move rfl) rfl rfl fun a hF => ?_))))))
 obtain ⟨t_2, ht_2, hr⟩ := bindS hr
 refine q_call (vs := [s1.v, (.int .i64 p_v)]) hF hS Try.func59 (by kernel_rfl) rfl rfl rfl (c_slices_Index_int_int p_s p_v t_2 ht_2 _ m hS.vis s1 h1) ?_
 rintro a w _ rfl hF hS
 refine q_x (v := (.bool (decide (0 ≤ t_2)))) hF hS (ex_ibin rfl rfl rfl) rfl rfl fun a hF => q_x (v := (.bool (decide (0 ≤ t_2)))) hF hS (ex_assign rfl) rfl rfl fun a hF => q_end (n_sq (q_ret ?_))
 obtain rfl := someI hr
 exact ret_of hF hS rfl (.tmp rfl .nil) rfl

theorem c_impl_isLeaf (p_g : impl_Geo) (p_i : Int) (r : Bool) (hr : impl_isLeaf p_g p_i = some r) (w0 : World) (m : Mem) (hv : Vis m w0) (s1 : Sl) (h1 : Rd m s1 p_g.Parents) :
  Ret Try.prog 91 [(.agg #[s1.v]), (.int .i64 p_i)] w0 (fun v _ => v = (.bool r)) := by
 unfold impl_isLeaf at hr
 refine ret_start Try.func91 rfl 10 rfl rfl m hv fun a hF hS => q_seq (q_region (q_box (cs := [s1.v]) hF hS rfl rfl rfl fun a w b2 hF hS => q_x (v := (.bool false)) hF hS (ex_assign rfl) rfl rfl fun a hF => q_end (n_sq (q_seq (q_region (q_x (v := (.pointer (some ⟨b2, 0, none⟩))) hF hS (ex_fieldAddr Try.underlying26 rfl sz24 rfl rfl) rfl rfl fun a hF => q_x (v := s1.v) hF hS (ex_load1 0 0 Try.underlying24 rfl rfl rfl rfl) rfl rfl fun a hF => q_x (v := (.int .i64 p_i)) hF hS (ex_move rfl) rfl rfl fun a hF => ?_))))))
 obtain ⟨t_3, ht_3, hr⟩ := bindS hr
 refine q_call (vs := [s1.v, (.int .i64 p_i)]) hF hS Try.func33 (by kernel_rfl) rfl rfl rfl (c_slices_Contains_int_int p_g.Parents p_i t_3 ht_3 _ m hS.vis s1 h1) ?_
 rintro a w _ rfl hF hS
 refine q_x (v := (.bool (!t_3))) hF hS (ex_not rfl) rfl rfl fun a hF => q_x (v := (.bool (!t_3))) hF hS (ex_assign rfl) rfl rfl fun a hF => q_end (n_sq (q_ret ?_))
 obtain rfl := someI hr
 exact ret_of hF hS rfl (.tmp rfl .nil) rfl

theorem c_impl_leavesOf (p_g : impl_Geo) (r : (List Int)) (hr : impl_leavesOf p_g = some r) (w0 : World) (m : Mem) (hv : Vis m w0) (s1 : Sl) (h1 : Rd m s1 p_g.Parents) :
  Ret Try.prog 60 [(.agg #[s1.v])] w0 (fun v w => ∃ (q0' : Piece) (s0' : Sl), v = s0'.v ∧ St [] w0 w m [q0'] ∧ OwnL m 3 q0' s0' r) := by
 unfold impl_leavesOf at hr
 refine ret_start Try.func60 rfl 20 rfl rfl m hv fun a hF hS => q_seq (q_region (q_box (cs := [s1.v]) hF hS rfl rfl rfl fun a w b2 hF hS => q_x (v := nilS.v) hF hS (ex_assign rfl) rfl rfl fun a hF => q_end (n_sq (q_seq (q_region (q_x (v := nilS.v) hF hS (ex_assign rfl) rfl rfl fun a hF => q_end (n_sq (q_seq (q_seq (q_region (q_x (v := (.pointer (some ⟨b2, 0, none⟩))) hF hS (ex_fieldAddr Try.underlying26 rfl sz24 rfl rfl) rfl rfl fun a hF => q_x (v := s1.v) hF hS (ex_load1 0 0 Try.underlying24 rfl rfl rfl rfl) rfl rfl fun a hF => q_x (v := (.int .i64 (goLen p_g.Parents))) hF hS (ex_len Try.underlying24 rfl h1.len) rfl rfl fun a hF => q_x (v := (.int .i64 0)) hF hS (ex_move rfl) rfl rfl fun a hF => q_end (n_sq (q_block ?_)))))))))))))
 obtain ⟨list_12, hl1, hr⟩ := bindS hr
 refine q_loop (fun (s : (List Int) × Int) a w => ∃ (q4 : Piece), ∃ (s4 : Sl), ∃ list_3, ∃ t_5, s = (list_3, t_5) ∧ Fr a 20 [(1, (.pointer (some ⟨b2, 0, none⟩))), (3, s4.v), (7, (.int .i64 (goLen p_g.Parents))), (8, (.int .i64 t_5))] ∧ St [] w0 w m [q4, [⟨b2, [s1.v], 26⟩]] ∧ OwnL m 3 q4 s4 list_3) (fun (list_12 : (List Int)) e a w => ∃ (q13 : Piece), ∃ (s13 : Sl), e = .exit 0 ∧ Fr a 20 [(3, s13.v)] ∧ St [] w0 w m [q13] ∧ OwnL m 3 q13 s13 list_12) hl1 ⟨[], nilS, _, _, rfl, hF.sub ⟨rfl, rfl, rfl, rfl, trivial⟩, hS.sel [1, 0] (by decide), (OwnL.nil (α := Int) m 3)⟩ ?_ ?_
 ·clear hF hS
  rintro s a w st ⟨q4, s4, list_3, t_5, rfl, hF, hS, h4⟩ hb1
  unfold impl_leavesOf_l1 at hb1
  refine q_seq (q_region (q_x (v := (.bool (decide (t_5 < (goLen p_g.Parents))))) hF hS (ex_ibin rfl rfl rfl) rfl rfl fun a hF => q_end (n_sq (q_seq ?_))))
  rcases bcase (decide (t_5 < (goLen p_g.Parents))) with hc2 | hc2
  ·have hb1 := cond_f hc2 hb1
   refine q_cond_f hF rfl hc2 (q_exit (x_sq ?_))
   obtain rfl := someI hb1
   exact ⟨nofun, .inl ⟨q4, s4, rfl, hF.sub ⟨rfl, trivial⟩, hS.mask [true, false], h4⟩⟩
  ·have hb1 := cond_t hc2 hb1
   refine q_cond_t hF rfl hc2 (q_skipc (n_sq (q_seq (q_block (q_seq (q_region (q_x (v := (.int .i64 t_5)) hF hS (ex_move rfl) rfl rfl fun a hF => q_x (v := (.int .i64 t_5)) hF hS (ex_assign rfl) rfl rfl fun a hF => q_end (n_sq (q_seq (q_region (q_x (v := (.agg #[s1.v])) hF hS (ex_loadA (vs := [s1.v]) 1 0 Try.underlying26 rfl sz26 rfl rfl rfl rfl) rfl rfl fun a hF => q_x (v := (.int .i64 t_5)) hF hS (ex_move rfl) rfl rfl fun a hF => ?_)))))))))))
   obtain ⟨t_6, ht_6, hb1⟩ := bindS hb1
   refine q_call (vs := [(.agg #[s1.v]), (.int .i64 t_5)]) hF hS Try.func91 (by kernel_rfl) rfl rfl rfl (c_impl_isLeaf p_g t_5 t_6 ht_6 _ m hS.vis s1 h1) ?_
   rintro a w _ rfl hF hS
   refine q_end (n_sq ?_)
   obtain ⟨list_10, hj3, hb1⟩ := bindS hb1
   refine q_join (fun a w => ∃ (q11 : Piece), ∃ (s11 : Sl), Fr a 20 [(1, (.pointer (some ⟨b2, 0, none⟩))), (3, s11.v), (7, (.int .i64 (goLen p_g.Parents))), (8, (.int .i64 t_5))] ∧ St [] w0 w m [q11, [⟨b2, [s1.v], 26⟩]] ∧ OwnL m 3 q11 s11 list_10) ?_ ?_
   ·rcases bcase (t_6) with hc4 | hc4
    ·have hj3 := cond_f hc4 hj3
     refine q_cond_f hF rfl hc4 (q_skipc (n_jn ?_))
     obtain rfl := someI hj3
     exact ⟨q4, s4, hF.sub ⟨rfl, rfl, rfl, rfl, trivial⟩, hS, h4⟩
    ·have hj3 := cond_t hc4 hj3
     refine q_cond_t hF rfl hc4 (q_region (q_x (v := s4.v) hF hS (ex_move rfl) rfl rfl fun a hF => q_x (v := (.int .i64 t_5)) hF hS (ex_move rfl) rfl rfl fun a hF => q_do rfl fun _ hK => wp_buildSlice' (l := ([t_5] : List Int)) (cells := [(.int .i64 t_5)]) hF hS Try.underlying24 inf3 rfl rfl (by kernel_rfl) rfl rfl rfl ⟨rfl, rfl⟩ rfl rfl fun a w q7 s7 hF hS h7 _ => hK _ _ ?_))
     have hS : St _ _ _ _ [q4, q7, [⟨b2, [s1.v], 26⟩]] := hS.sel [1, 0, 2] (by decide)
     obtain ⟨l_8, hl_8, hj3⟩ := bindS hj3
     refine q_do rfl fun _ hK => wp_append hF hS h4 Try.underlying24 inf3 rfl rfl rfl rfl (h7.vw hS (j := 1) rfl) rfl (by decide) hl_8 rfl fun a w q9 s9 hF hS h9 => hK _ _ (q_x (v := s9.v) hF hS (ex_assign rfl) rfl rfl fun a hF => q_end (n_jn ?_))
     obtain rfl := someI hj3
     exact ⟨q9, s9, hF.sub ⟨rfl, rfl, rfl, rfl, trivial⟩, hS.mask [true, false, true], h9⟩
   ·rintro a w ⟨q11, s11, hF, hS, h11⟩
    refine n_ib (n_sq ?_)
    refine q_region (q_x (v := (.int .i64 (w64 (t_5 + 1)))) hF hS (ex_ibin rfl rfl rfl) rfl rfl fun a hF => q_x (v := (.int .i64 (w64 (t_5 + 1)))) hF hS (ex_move rfl) rfl rfl fun a hF => q_end ?_)
    obtain rfl := someI hb1
    exact ⟨rfl, q11, s11, _, _, rfl, hF.sub ⟨rfl, rfl, rfl, rfl, trivial⟩, hS, h11⟩
 ·rintro e a w ⟨q13, s13, rfl, hF, hS, h13⟩
  refine x_ib (n_sq ?_)
  refine q_seq (q_region (q_x (v := s13.v) hF hS (ex_move rfl) rfl rfl fun a hF => q_x (v := s13.v) hF hS (ex_assign rfl) rfl rfl fun a hF => q_end (n_sq (q_ret ?_))))
  obtain rfl := someI hr
  exact ret_of hF hS rfl (.tmp rfl .nil) ⟨q13, s13, rfl, hS.sel [0] (by decide), h13⟩

theorem c_impl_conditionOf (p_s : List impl_Variable) (p_t : impl_Table) (p_v : Int) (r : Int) (hr : impl_conditionOf p_s p_t p_v = some r) (w0 : World) (m : Mem) (hv : Vis m w0) (s1 : Sl) (h1 : Rd m s1 p_s) (s2 : Sl) (h2 : Rd m s2 p_t.Vars) (s3 : Sl) (h3 : Rd m s3 p_t.Where) :
  Ret Try.prog 31 [s1.v, (.agg #[(.int .i64 p_t.Level), s2.v, s3.v, (.int .i64 p_t.Sum)]), (.int .i64 p_v)] w0 (fun v _ => v = (.int .i64 r)) := by
 unfold impl_conditionOf at hr
 refine ret_start Try.func31 rfl 23 rfl rfl m hv fun a hF hS => q_seq (q_region (q_box (cs := [(.int .i64 p_t.Level), s2.v, s3.v, (.int .i64 p_t.Sum)]) hF hS rfl rfl rfl fun a w b4 hF hS => q_x (v := (.int .i64 0)) hF hS (ex_assign rfl) rfl rfl fun a hF => q_end (n_sq (q_seq (q_seq (q_region (q_x (v := (.pointer (some ⟨b4, 2, none⟩))) hF hS (ex_fieldAddr Try.underlying29 rfl sz24 rfl rfl) rfl rfl fun a hF => q_x (v := s3.v) hF hS (ex_load1 0 0 Try.underlying24 rfl rfl rfl rfl) rfl rfl fun a hF => q_x (v := (.int .i64 p_v)) hF hS (ex_move rfl) rfl rfl fun a hF => ?_)))))))
 obtain ⟨e_5, he_5, hr⟩ := bindS hr
 obtain ⟨vs6, at6, d6⟩ := h3.at he_5 1 rfl
 obtain rfl : vs6 = [(.int .i64 e_5)] := d6
 refine q_x (v := (elP s3 (p_v.toNat * 1))) hF hS (ex_indexAddr Try.underlying24 sz3 rfl rfl (h3.idx he_5)) rfl rfl fun a hF => q_x (v := (.int .i64 e_5)) hF hS (ex_loadE1 0 Try.underlying3 rfl rfl ((at6).at) rfl rfl) rfl rfl fun a hF => q_x (v := (.bool (e_5 == 0))) hF hS (ex_ibin rfl rfl rfl) rfl rfl fun a hF => q_end (n_sq ?_)
 rcases bcase (e_5 == 0) with hc1 | hc1
 ·have hr := cond_f hc1 hr
  refine q_cond_f hF rfl hc1 (q_skipc (n_sq (q_seq (q_region (q_x (v := (.pointer (some ⟨b4, 2, none⟩))) hF hS (ex_fieldAddr Try.underlying29 rfl sz24 rfl rfl) rfl rfl fun a hF => q_x (v := s3.v) hF hS (ex_load1 0 0 Try.underlying24 rfl rfl rfl rfl) rfl rfl fun a hF => q_x (v := (.int .i64 p_v)) hF hS (ex_move rfl) rfl rfl fun a hF => ?_)))))
  obtain ⟨e_7, he_7, hr⟩ := bindS hr
  obtain ⟨vs8, at8, d8⟩ := h3.at he_7 1 rfl
  obtain rfl : vs8 = [(.int .i64 e_7)] := d8
  refine q_x (v := (elP s3 (p_v.toNat * 1))) hF hS (ex_indexAddr Try.underlying24 sz3 rfl rfl (h3.idx he_7)) rfl rfl fun a hF => q_x (v := (.int .i64 e_7)) hF hS (ex_loadE1 0 Try.underlying3 rfl rfl ((at8).at) rfl rfl) rfl rfl fun a hF => q_x (v := (.int .i64 e_7)) hF hS (ex_assign rfl) rfl rfl fun a hF => q_end (n_sq (q_ret ?_))
  obtain rfl := someI hr
  exact ret_of hF hS rfl (.tmp rfl .nil) rfl
 ·have hr := cond_t hc1 hr
  refine q_cond_t hF rfl hc1 (q_seq (q_region (q_x (v := s1.v) hF hS (ex_move rfl) rfl rfl fun a hF => q_x (v := (.int .i64 p_v)) hF hS (ex_move rfl) rfl rfl fun a hF => ?_)))
  obtain ⟨e_9, he_9, hr⟩ := bindS hr
  obtain ⟨vs10, at10, d10⟩ := h1.at he_9 2 rfl
  obtain rfl : vs10 = [(strV e_9.Name), (.int .i64 e_9.Levels)] := d10
  refine q_x (v := (elP s1 (p_v.toNat * 2))) hF hS (ex_indexAddr Try.underlying27 sz58 rfl rfl (h1.idx he_9)) rfl rfl fun a hF => q_x (v := (.agg #[(strV e_9.Name), (.int .i64 e_9.Levels)])) hF hS (ex_loadEA (us := [(strV e_9.Name), (.int .i64 e_9.Levels)]) 0 Try.underlying58 rfl sz58 rfl ((at10).at) rfl rfl rfl) rfl rfl fun a hF => ?_
  obtain ⟨t_11, ht_11, hr⟩ := bindS hr
  refine q_call (vs := [(.agg #[(strV e_9.Name), (.int .i64 e_9.Levels)])]) hF hS Try.func32 (by kernel_rfl) rfl rfl rfl (c_impl_fullSet e_9 t_11 ht_11 _ m hS.vis) ?_
  rintro a w _ rfl hF hS
  refine q_x (v := (.int .i64 t_11)) hF hS (ex_assign rfl) rfl rfl fun a hF => q_end (n_sq (q_ret (r_sq ?_)))
  obtain rfl := someI hr
  exact ret_of hF hS rfl (.tmp rfl .nil) rfl

end Go.Proofs.Ytnmimeojimfogaa
