/- The walks of the functions: each returns what its plain function says. -/
import Derived.Test.YtebjhiflnemkhaaGreatKWalks2
namespace Go.Proofs.YtebjhiflnemkhaaGreat
open Go.Gx Go.Gx.F Go.RowKit
set_option linter.all false
set_option maxRecDepth 10000


theorem c_spec_SwapPlan (p_s : List impl_Variable) (p_l : List impl_Record) (p_vars : List Int) (p_most : Int) (p_seed : Int) (r : (List (List Int)) × Bool) (hr : spec_SwapPlan p_s p_l p_vars p_most p_seed = some r) (w0 : World) (m : Mem) (hv : Vis m w0) (s1 : Sl) (h1 : Rd m s1 p_s) (s2 : Sl) (h2 : Rd m s2 p_l) (s3 : Sl) (h3 : Rd m s3 p_vars) :
  Ret Tryz.prog 84 [s1.v, s2.v, s3.v, (.int .i64 p_most), (.int .i64 p_seed)] w0 (fun v w => ∃ (m' : Mem) (q0' : Piece) (s0' : Sl), v = (.tuple #[s0'.v, (.bool r.2)]) ∧ MLe [] w0.heap.size m m' ∧ St [] w0 w m' [q0'] ∧ OwnL m' 26 q0' s0' r.1) := by
 unfold spec_SwapPlan at hr
 refine ret_start Tryz.func84 rfl 117 rfl rfl m hv fun a hF hS => q_seq (q_region (q_x (v := nilS.v) hF hS (ex_assign rfl) rfl rfl fun a hF => q_x (v := (.bool false)) hF hS (ex_assign rfl) rfl rfl fun a hF => q_end (n_sq (q_seq (q_seq ?_)))))
 obtain ⟨t_9, hj1, hr⟩ := bindS hr
 refine q_join (fun a w => Fr a 117 [(0, s1.v), (1, s2.v), (2, s3.v), (3, (.int .i64 p_most)), (4, (.int .i64 p_seed)), (39, (.bool t_9))] ∧ St [] w0 w m []) ?_ ?_
 ·refine q_region (q_x (v := s1.v) hF hS (ex_move rfl) rfl rfl fun a hF => q_x (v := s2.v) hF hS (ex_move rfl) rfl rfl fun a hF => q_x (v := s3.v) hF hS (ex_move rfl) rfl rfl fun a hF => ?_)
  obtain ⟨t_4, ht_4, hj1⟩ := bindS hj1
  refine q_call (vs := [s1.v, s2.v, s3.v]) hF hS Tryz.func19 (by kernel_rfl) rfl rfl rfl (c_spec_swInput p_s p_l p_vars t_4 ht_4 _ m hS.vis s1 h1 s2 h2 s3 h3) ?_
  rintro a w _ rfl hF hS
  refine q_x (v := (.bool (!t_4))) hF hS (ex_not rfl) rfl rfl fun a hF => q_x (v := (.bool (!t_4))) hF hS (ex_move rfl) rfl rfl fun a hF => ?_
  rcases bcase (!t_4) with hc2 | hc2
  ·have hj1 := cond_f hc2 hj1
   refine q_xg (v := (.int .i64 p_most)) hF hS (ex_move rfl) (wanted_t hF rfl rfl rfl hc2) rfl fun a hF => ?_
   obtain ⟨t_5, ht_5, hj1⟩ := bindS hj1
   refine q_callg (vs := [(.int .i64 p_most), (.int .i64 0), (.int .i64 20)]) hF hS (wanted_t hF rfl rfl rfl hc2) Tryz.func65 (by kernel_rfl) rfl rfl rfl (c_spec_l1In p_most 0 20 t_5 ht_5 _ m hS.vis) ?_
   rintro a w _ rfl hF hS
   refine q_xg (v := (.bool (!t_5))) hF hS (ex_not rfl) (wanted_t hF rfl rfl rfl hc2) rfl fun a hF => q_x (v := (.bool (!t_5))) hF hS (ex_pick_f rfl rfl hc2) rfl rfl fun a hF => q_x (v := (.bool (!t_5))) hF hS (ex_move rfl) rfl rfl fun a hF => ?_
   rcases bcase (!t_5) with hc3 | hc3
   ·have hj1 := cond_f hc3 hj1
    refine q_xg (v := (.int .i64 p_seed)) hF hS (ex_move rfl) (wanted_t hF rfl rfl rfl hc3) rfl fun a hF => q_dog (wanted_t hF rfl rfl rfl hc3) fun _ hK => wp_buildSlice' (l := ([p_seed] : List Int)) (cells := [(.int .i64 p_seed)]) hF hS Tryz.underlying26 inf3 rfl rfl (by kernel_rfl) rfl rfl rfl ⟨rfl, rfl⟩ rfl rfl fun a w q6 s6 hF hS h6 _ => hK _ _ ?_
    obtain ⟨m8, hl8, hv8, hz8⟩ := hS.lend
    obtain ⟨t_7, ht_7, hj1⟩ := bindS hj1
    refine q_callg (vs := [s6.v]) hF hS (wanted_t hF rfl rfl rfl hc3) Tryz.func95 (by kernel_rfl) rfl rfl rfl (c_spec_hDigest ([p_seed] : List Int) t_7 ht_7 _ m8 hv8 s6 (h6.froz hl8 (hz8 0 _ rfl))) ?_
    rintro a w _ rfl hF hS
    refine q_xg (v := (.bool (!t_7))) hF hS (ex_not rfl) (wanted_t hF rfl rfl rfl hc3) rfl fun a hF => q_x (v := (.bool (!t_7))) hF hS (ex_pick_f rfl rfl hc3) rfl rfl fun a hF => q_end (n_jn ?_)
    obtain rfl := someI hj1
    exact ⟨hF.sub ⟨rfl, rfl, rfl, rfl, rfl, rfl, trivial⟩, hS.mask [false]⟩
   ·have hj1 := cond_t hc3 hj1
    refine q_skip hF (wanted_f hF rfl rfl rfl hc3 rfl) rfl fun a hF => q_skip hF (wanted_f hF rfl rfl rfl hc3 rfl) rfl fun a hF => q_skip hF (wanted_f hF rfl rfl rfl hc3 rfl) rfl fun a hF => q_skip hF (wanted_f hF rfl rfl rfl hc3 rfl) rfl fun a hF => q_x (v := (.bool true)) hF hS (ex_pick_t rfl rfl hc3) rfl rfl fun a hF => q_end (n_jn ?_)
    obtain rfl := someI hj1
    exact ⟨hF.sub ⟨rfl, rfl, rfl, rfl, rfl, rfl, trivial⟩, hS⟩
  ·have hj1 := cond_t hc2 hj1
   refine q_skip hF (wanted_f hF rfl rfl rfl hc2 rfl) rfl fun a hF => q_skip hF (wanted_f hF rfl rfl rfl hc2 rfl) rfl fun a hF => q_skip hF (wanted_f hF rfl rfl rfl hc2 rfl) rfl fun a hF => q_x (v := (.bool true)) hF hS (ex_pick_t rfl rfl hc2) rfl rfl fun a hF => q_x (v := (.bool true)) hF hS (ex_move rfl) rfl rfl fun a hF => q_skip hF (wanted_f hF rfl rfl rfl rfl rfl) rfl fun a hF => q_skip hF (wanted_f hF rfl rfl rfl rfl rfl) rfl fun a hF => q_skip hF (wanted_f hF rfl rfl rfl rfl rfl) rfl fun a hF => q_skip hF (wanted_f hF rfl rfl rfl rfl rfl) rfl fun a hF => q_x (v := (.bool true)) hF hS (ex_pick_t rfl rfl rfl) rfl rfl fun a hF => q_end (n_jn ?_)
   obtain rfl := someI hj1
   exact ⟨hF.sub ⟨rfl, rfl, rfl, rfl, rfl, rfl, trivial⟩, hS⟩
 ·rintro a w ⟨hF, hS⟩
  refine n_sq ?_
  rcases bcase (t_9) with hc4 | hc4
  ·have hr := cond_f hc4 hr
   refine q_cond_f hF rfl hc4 (q_skipc (n_sq (q_seq (q_region (q_x (v := s1.v) hF hS (ex_move rfl) rfl rfl fun a hF => q_x (v := s2.v) hF hS (ex_move rfl) rfl rfl fun a hF => q_x (v := s3.v) hF hS (ex_move rfl) rfl rfl fun a hF => ?_)))))
   obtain ⟨t_10, ht_10, hr⟩ := bindS hr
   refine q_call (vs := [s1.v, s2.v, s3.v]) hF hS Tryz.func27 (by kernel_rfl) rfl rfl rfl (c_spec_swCandidates p_s p_l p_vars t_10 ht_10 _ m hS.vis s1 h1 s2 h2 s3 h3) ?_
   have hT := hS
   rintro a w _ ⟨m11, q12, s12, rfl, hm11, hR11, h12⟩ hF hS2
   have hS : St _ _ _ _ [q12] := hS.join hR11 hm11
   have hm11 := MLe.weakX (O0 := []) hT hm11
   refine q_x (v := s12.v) hF hS (ex_assign rfl) rfl rfl fun a hF => q_end (n_sq (q_seq (q_seq (q_region (q_x (v := s12.v) hF hS (ex_move rfl) rfl rfl fun a hF => q_x (v := (.int .i64 (goLen t_10))) hF hS (ex_len Tryz.underlying29 rfl h12.len) rfl rfl fun a hF => q_x (v := (.bool (decide (60 < (goLen t_10))))) hF hS (ex_ibin rfl rfl rfl) rfl rfl fun a hF => q_end (n_sq ?_))))))
   rcases bcase (decide (60 < (goLen t_10))) with hc5 | hc5
   ·have hr := cond_f hc5 hr
    refine q_cond_f hF rfl hc5 (q_skipc (n_sq (q_seq (q_region (q_x (v := (.int .i64 p_seed)) hF hS (ex_move rfl) rfl rfl fun a hF => q_x (v := (.agg #[(.int .i64 p_seed), (.int .i64 0)])) hF hS (ex_build (cells := [(.int .i64 p_seed), (.int .i64 0)]) rfl (by kernel_rfl)) rfl rfl fun a hF => q_kOpen (cs := [(.int .i64 p_seed), (.int .i64 0), (.bool true)]) hF hS rfl rfl rfl fun a w b13 hF hS => q_x (v := (.pointer (some ⟨b13, 0, none⟩))) hF hS (ex_assign rfl) rfl rfl fun a hF => q_end (n_sq (q_seq (q_region (q_x (v := (.pointer (some ⟨b13, 0, none⟩))) hF hS (ex_move rfl) rfl rfl fun a hF => q_x (v := s12.v) hF hS (ex_move rfl) rfl rfl fun a hF => q_x (v := (.int .i64 (goLen t_10))) hF hS (ex_len Tryz.underlying29 rfl h12.len) rfl rfl fun a hF => ?_)))))))))
    have hS14 : St _ _ _ _ ([[⟨b13, [(.int .i64 p_seed), (.int .i64 0), (.bool true)], 126⟩]] ++ [q12]) := hS
    have hE14 := hS14.enter
    obtain ⟨t_15, ht_15, hr⟩ := bindS hr
    refine q_do rfl fun _ hK => wp_callX (vs := [(.pointer (some ⟨b13, 0, none⟩)), (.int .i64 (goLen t_10))]) hF Tryz.func97 (by kernel_rfl) rfl rfl rfl (c_spec_kReader_shuffle (spec_kReader.mk (impl_Stream.mk p_seed 0) true) (goLen t_10) t_15 ht_15 _ m11 b13 _ hE14) fun a w _ hR hF => hK _ _ ?_
    obtain ⟨q16, s16, rfl, hR14, h16⟩ := hR
    have hS : St _ _ _ _ [[⟨b13, [(.int .i64 t_15.2.s_.Seed), (.int .i64 t_15.2.s_.At), (.bool t_15.2.ok)], 126⟩], q16, q12] := hS14.leaveF hR14
    refine q_x (v := s16.v) hF hS (ex_assign rfl) rfl rfl fun a hF => q_end (n_sq (q_seq (q_seq (q_region (q_x (v := (.pointer (some ⟨b13, 0, none⟩))) hF hS (ex_move rfl) rfl rfl fun a hF => q_x (v := (.pointer (some ⟨b13, 0, none⟩))) hF hS (ex_nilCheck rfl) rfl rfl fun a hF => q_x (v := (.pointer (some ⟨b13, 2, none⟩))) hF hS (ex_fieldAddr Tryz.underlying126 rfl sz4 rfl rfl) rfl rfl fun a hF => q_x (v := (.bool t_15.2.ok)) hF hS (ex_load1 0 0 Tryz.underlying4 rfl rfl rfl rfl) rfl rfl fun a hF => q_x (v := (.bool (!t_15.2.ok))) hF hS (ex_not rfl) rfl rfl fun a hF => q_end (n_sq ?_))))))
    rcases bcase (!t_15.2.ok) with hc6 | hc6
    ·have hr := cond_f hc6 hr
     refine q_cond_f hF rfl hc6 (q_skipc (n_sq (q_seq (q_region (q_x (v := nilS.v) hF hS (ex_assign rfl) rfl rfl fun a hF => q_end (n_sq (q_seq (q_region (q_x (v := s12.v) hF hS (ex_move rfl) rfl rfl fun a hF => q_x (v := (.int .i64 (goLen t_10))) hF hS (ex_len Tryz.underlying29 rfl h12.len) rfl rfl fun a hF => ?_)))))))))
     obtain ⟨l_17, hl_17, hr⟩ := bindS hr
     refine q_do rfl fun _ hK => wp_make (z := (false : Bool)) hF hS Tryz.underlying127 inf4 rfl rfl rfl rfl rfl (by decide) hl_17 rfl fun a w q18 s18 hF hS h18 _ => hK _ _ (q_x (v := s18.v) hF hS (ex_assign rfl) rfl rfl fun a hF => q_end (n_sq (q_seq (q_region (q_x (v := (.int .i64 0)) hF hS (ex_assign rfl) rfl rfl fun a hF => q_end (n_sq (q_seq (q_seq (q_region (q_x (v := s16.v) hF hS (ex_move rfl) rfl rfl fun a hF => q_x (v := (.int .i64 (goLen t_15.1))) hF hS (ex_len Tryz.underlying26 rfl h16.len) rfl rfl fun a hF => q_x (v := (.int .i64 0)) hF hS (ex_move rfl) rfl rfl fun a hF => q_end (n_sq (q_block ?_))))))))))))
     obtain ⟨chosen_49, hl7, hr⟩ := bindS hr
     refine q_loop (fun (s : (List Int) × (List Bool) × Int × Int) a w => ∃ (q20 : Piece), ∃ (s20 : Sl), ∃ (q22 : Piece), ∃ used_19, ∃ chosen_21, ∃ n_23, ∃ t_24, s = (used_19, chosen_21, n_23, t_24) ∧ Fr a 117 [(3, (.int .i64 p_most)), (12, s12.v), (15, s20.v), (16, s18.v), (17, (.int .i64 n_23)), (62, s16.v), (63, (.int .i64 (goLen t_15.1))), (64, (.int .i64 t_24))] ∧ St [] w0 w m11 [q20, q22, q16, q12] ∧ OwnL m11 3 q20 s20 used_19 ∧ OwnL m11 4 q22 s18 chosen_21) (fun (chosen_49 : (List Bool)) e a w => ∃ (q50 : Piece), e = .exit 0 ∧ Fr a 117 [(12, s12.v), (16, s18.v)] ∧ St [] w0 w m11 [q12, q50] ∧ OwnL m11 4 q50 s18 chosen_49) hl7 ⟨[], nilS, q18, _, _, _, _, rfl, hF.sub ⟨rfl, rfl, rfl, rfl, rfl, rfl, rfl, rfl, trivial⟩, hS.sel [4, 0, 2, 3] (by decide), (OwnL.nil (α := Int) m11 3), h18⟩ ?_ ?_
     ·clear hF hS
      rintro s a w st ⟨q20, s20, q22, used_19, chosen_21, n_23, t_24, rfl, hF, hS, h20, h22⟩ hb7
      unfold spec_SwapPlan_l1 at hb7
      refine q_seq (q_region (q_x (v := (.bool (decide (t_24 < (goLen t_15.1))))) hF hS (ex_ibin rfl rfl rfl) rfl rfl fun a hF => q_end (n_sq (q_seq ?_))))
      rcases bcase (decide (t_24 < (goLen t_15.1))) with hc8 | hc8
      ·have hb7 := cond_f hc8 hb7
       refine q_cond_f hF rfl hc8 (q_exit (x_sq ?_))
       obtain rfl := someI hb7
       exact ⟨nofun, .inl ⟨q22, rfl, hF.sub ⟨rfl, rfl, trivial⟩, hS.sel [3, 1] (by decide), h22⟩⟩
      ·have hb7 := cond_t hc8 hb7
       refine q_cond_t hF rfl hc8 (q_skipc (n_sq (q_seq (q_block (q_seq (q_region ?_))))))
       obtain ⟨e_25, he_25, hb7⟩ := bindS hb7
       obtain ⟨vs26, at26, d26⟩ := h16.at he_25 1 rfl
       obtain rfl : vs26 = [(.int .i64 e_25)] := d26
       refine q_x (v := (elP s16 (t_24.toNat * 1))) hF hS (ex_indexAddr Tryz.underlying26 sz3 rfl rfl (h16.idx he_25)) rfl rfl fun a hF => q_x (v := (.int .i64 e_25)) hF hS (ex_loadE1 0 Tryz.underlying3 rfl rfl (at26.at 2 rfl) rfl rfl) rfl rfl fun a hF => q_x (v := (.int .i64 e_25)) hF hS (ex_assign rfl) rfl rfl fun a hF => q_end (n_sq (q_seq (q_region (q_x (v := s12.v) hF hS (ex_move rfl) rfl rfl fun a hF => q_x (v := (.int .i64 e_25)) hF hS (ex_move rfl) rfl rfl fun a hF => ?_))))
       obtain ⟨e_27, he_27, hb7⟩ := bindS hb7
       obtain ⟨vs28, at28, d28⟩ := h12.at he_27 1 rfl
       obtain ⟨s29, rfl, h29⟩ : ∃ s29 : Sl, vs28 = [s29.v] ∧ Rd m11 s29 e_27 := d28
       refine q_x (v := (elP s12 (e_25.toNat * 1))) hF hS (ex_indexAddr Tryz.underlying29 sz26 rfl rfl (h12.idx he_27)) rfl rfl fun a hF => q_x (v := s29.v) hF hS (ex_loadE1 0 Tryz.underlying26 rfl rfl (at28.at 3 rfl) rfl rfl) rfl rfl fun a hF => q_x (v := s29.v) hF hS (ex_assign rfl) rfl rfl fun a hF => q_end (n_sq (q_seq ?_))
       obtain ⟨t_38, hj9, hb7⟩ := bindS hb7
       refine q_join (fun a w => Fr a 117 [(3, (.int .i64 p_most)), (12, s12.v), (15, s20.v), (16, s18.v), (17, (.int .i64 n_23)), (19, (.int .i64 e_25)), (20, s29.v), (62, s16.v), (63, (.int .i64 (goLen t_15.1))), (64, (.int .i64 t_24)), (90, (.bool t_38))] ∧ St [] w0 w m11 [q12, q20, q22, q16]) ?_ ?_
       ·refine q_region (q_x (v := (.int .i64 n_23)) hF hS (ex_move rfl) rfl rfl fun a hF => q_x (v := (.int .i64 p_most)) hF hS (ex_move rfl) rfl rfl fun a hF => q_x (v := (.bool (decide (n_23 < p_most)))) hF hS (ex_ibin rfl rfl rfl) rfl rfl fun a hF => q_x (v := (.bool (decide (n_23 < p_most)))) hF hS (ex_move rfl) rfl rfl fun a hF => ?_)
        rcases bcase (decide (n_23 < p_most)) with hc10 | hc10
        ·have hj9 := cond_f hc10 hj9
         refine q_skip hF (wanted_f hF rfl rfl rfl hc10 rfl) rfl fun a hF => q_skip hF (wanted_f hF rfl rfl rfl hc10 rfl) rfl fun a hF => q_skip hF (wanted_f hF rfl rfl rfl hc10 rfl) rfl fun a hF => q_skip hF (wanted_f hF rfl rfl rfl hc10 rfl) rfl fun a hF => q_skip hF (wanted_f hF rfl rfl rfl hc10 rfl) rfl fun a hF => q_skip hF (wanted_f hF rfl rfl rfl hc10 rfl) rfl fun a hF => q_x (v := (.bool false)) hF hS (ex_pick_f rfl rfl hc10) rfl rfl fun a hF => q_x (v := (.bool false)) hF hS (ex_move rfl) rfl rfl fun a hF => q_skip hF (wanted_f hF rfl rfl rfl rfl rfl) rfl fun a hF => q_skip hF (wanted_f hF rfl rfl rfl rfl rfl) rfl fun a hF => q_skip hF (wanted_f hF rfl rfl rfl rfl rfl) rfl fun a hF => q_skip hF (wanted_f hF rfl rfl rfl rfl rfl) rfl fun a hF => q_skip hF (wanted_f hF rfl rfl rfl rfl rfl) rfl fun a hF => q_skip hF (wanted_f hF rfl rfl rfl rfl rfl) rfl fun a hF => q_x (v := (.bool false)) hF hS (ex_pick_f rfl rfl rfl) rfl rfl fun a hF => q_end (n_jn ?_)
         obtain rfl := someI hj9
         exact ⟨hF.sub ⟨rfl, rfl, rfl, rfl, rfl, rfl, rfl, rfl, rfl, rfl, rfl, trivial⟩, hS.sel [3, 0, 1, 2] (by decide)⟩
        ·have hj9 := cond_t hc10 hj9
         refine q_xg (v := s20.v) hF hS (ex_move rfl) (wanted_t hF rfl rfl rfl hc10) rfl fun a hF => q_xg (v := s29.v) hF hS (ex_move rfl) (wanted_t hF rfl rfl rfl hc10) rfl fun a hF => ?_
         obtain ⟨e_30, he_30, hj9⟩ := bindS hj9
         obtain ⟨vs31, at31, d31⟩ := h29.at he_30 1 rfl
         obtain rfl : vs31 = [(.int .i64 e_30)] := d31
         refine q_xg (v := (elP s29 ((0 : Int).toNat * 1))) hF hS (ex_indexAddr Tryz.underlying26 sz3 rfl rfl (h29.idx he_30)) (wanted_t hF rfl rfl rfl hc10) rfl fun a hF => q_xg (v := (.int .i64 e_30)) hF hS (ex_loadE1 0 Tryz.underlying3 rfl rfl ((at31).at) rfl rfl) (wanted_t hF rfl rfl rfl hc10) rfl fun a hF => ?_
         obtain ⟨m33, hl33, hv33, hz33⟩ := hS.lend
         obtain ⟨t_32, ht_32, hj9⟩ := bindS hj9
         refine q_callg (vs := [s20.v, (.int .i64 e_30)]) hF hS (wanted_t hF rfl rfl rfl hc10) Tryz.func98 (by kernel_rfl) rfl rfl rfl (c_spec_l1Has used_19 e_30 t_32 ht_32 _ m33 hv33 s20 (h20.froz hl33 (hz33 0 _ rfl))) ?_
         rintro a w _ rfl hF hS
         refine q_xg (v := (.bool (!t_32))) hF hS (ex_not rfl) (wanted_t hF rfl rfl rfl hc10) rfl fun a hF => q_x (v := (.bool (!t_32))) hF hS (ex_pick_t rfl rfl hc10) rfl rfl fun a hF => q_x (v := (.bool (!t_32))) hF hS (ex_move rfl) rfl rfl fun a hF => ?_
         rcases bcase (!t_32) with hc11 | hc11
         ·have hj9 := cond_f hc11 hj9
          refine q_skip hF (wanted_f hF rfl rfl rfl hc11 rfl) rfl fun a hF => q_skip hF (wanted_f hF rfl rfl rfl hc11 rfl) rfl fun a hF => q_skip hF (wanted_f hF rfl rfl rfl hc11 rfl) rfl fun a hF => q_skip hF (wanted_f hF rfl rfl rfl hc11 rfl) rfl fun a hF => q_skip hF (wanted_f hF rfl rfl rfl hc11 rfl) rfl fun a hF => q_skip hF (wanted_f hF rfl rfl rfl hc11 rfl) rfl fun a hF => q_x (v := (.bool false)) hF hS (ex_pick_f rfl rfl hc11) rfl rfl fun a hF => q_end (n_jn ?_)
          obtain rfl := someI hj9
          exact ⟨hF.sub ⟨rfl, rfl, rfl, rfl, rfl, rfl, rfl, rfl, rfl, rfl, rfl, trivial⟩, hS.sel [3, 0, 1, 2] (by decide)⟩
         ·have hj9 := cond_t hc11 hj9
          refine q_xg (v := s20.v) hF hS (ex_move rfl) (wanted_t hF rfl rfl rfl hc11) rfl fun a hF => q_xg (v := s29.v) hF hS (ex_move rfl) (wanted_t hF rfl rfl rfl hc11) rfl fun a hF => ?_
          obtain ⟨e_34, he_34, hj9⟩ := bindS hj9
          obtain ⟨vs35, at35, d35⟩ := h29.at he_34 1 rfl
          obtain rfl : vs35 = [(.int .i64 e_34)] := d35
          refine q_xg (v := (elP s29 ((1 : Int).toNat * 1))) hF hS (ex_indexAddr Tryz.underlying26 sz3 rfl rfl (h29.idx he_34)) (wanted_t hF rfl rfl rfl hc11) rfl fun a hF => q_xg (v := (.int .i64 e_34)) hF hS (ex_loadE1 0 Tryz.underlying3 rfl rfl ((at35).at) rfl rfl) (wanted_t hF rfl rfl rfl hc11) rfl fun a hF => ?_
          obtain ⟨m37, hl37, hv37, hz37⟩ := hS.lend
          obtain ⟨t_36, ht_36, hj9⟩ := bindS hj9
          refine q_callg (vs := [s20.v, (.int .i64 e_34)]) hF hS (wanted_t hF rfl rfl rfl hc11) Tryz.func98 (by kernel_rfl) rfl rfl rfl (c_spec_l1Has used_19 e_34 t_36 ht_36 _ m37 hv37 s20 (h20.froz hl37 (hz37 0 _ rfl))) ?_
          rintro a w _ rfl hF hS
          refine q_xg (v := (.bool (!t_36))) hF hS (ex_not rfl) (wanted_t hF rfl rfl rfl hc11) rfl fun a hF => q_x (v := (.bool (!t_36))) hF hS (ex_pick_t rfl rfl hc11) rfl rfl fun a hF => q_end (n_jn ?_)
          obtain rfl := someI hj9
          exact ⟨hF.sub ⟨rfl, rfl, rfl, rfl, rfl, rfl, rfl, rfl, rfl, rfl, rfl, trivial⟩, hS.sel [3, 0, 1, 2] (by decide)⟩
       ·rintro a w ⟨hF, hS⟩
        refine n_sq ?_
        obtain ⟨j12, hj12, hb7⟩ := bindS hb7
        refine q_join (fun a w => ∃ (q45 : Piece), ∃ (s45 : Sl), ∃ (q47 : Piece), ∃ used_44, ∃ chosen_46, ∃ n_48, j12 = (used_44, chosen_46, n_48) ∧ Fr a 117 [(3, (.int .i64 p_most)), (12, s12.v), (15, s45.v), (16, s18.v), (17, (.int .i64 n_48)), (62, s16.v), (63, (.int .i64 (goLen t_15.1))), (64, (.int .i64 t_24))] ∧ St [] w0 w m11 [q12, q45, q47, q16] ∧ OwnL m11 3 q45 s45 used_44 ∧ OwnL m11 4 q47 s18 chosen_46) ?_ ?_
        ·rcases bcase (t_38) with hc13 | hc13
         ·have hj12 := cond_f hc13 hj12
          refine q_cond_f hF rfl hc13 (q_skipc (n_jn ?_))
          obtain rfl := someI hj12
          exact ⟨q20, s20, q22, _, _, _, rfl, hF.sub ⟨rfl, rfl, rfl, rfl, rfl, rfl, rfl, rfl, trivial⟩, hS, h20, h22⟩
         ·have hj12 := cond_t hc13 hj12
          refine q_cond_t hF rfl hc13 (q_seq (q_region (q_x (v := s20.v) hF hS (ex_move rfl) rfl rfl fun a hF => q_x (v := s29.v) hF hS (ex_move rfl) rfl rfl fun a hF => ?_)))
          have hS : St _ _ _ _ [q20, q12, q22, q16] := hS.sel [1, 0, 2, 3] (by decide)
          obtain ⟨l_39, hl_39, hj12⟩ := bindS hj12
          refine q_do rfl fun _ hK => wp_append hF hS h20 Tryz.underlying26 inf3 rfl rfl rfl rfl (h29.vw hS.vis) rfl (by decide) hl_39 rfl fun a w q40 s40 hF hS h40 => hK _ _ (q_x (v := s40.v) hF hS (ex_assign rfl) rfl rfl fun a hF => q_end (n_sq (q_seq (q_region (q_x (v := s18.v) hF hS (ex_move rfl) rfl rfl fun a hF => q_x (v := (.int .i64 e_25)) hF hS (ex_move rfl) rfl rfl fun a hF => ?_)))))
          obtain ⟨e_41, he_41, hj12⟩ := bindS hj12
          obtain ⟨vs42, at42, d42⟩ := h22.at he_41 1 rfl
          obtain rfl : vs42 = [(.bool e_41)] := d42
          refine q_x (v := (elP s18 (e_25.toNat * 1))) hF hS (ex_indexAddr Tryz.underlying127 sz4 rfl rfl (h22.idx he_41)) rfl rfl fun a hF => ?_
          have hS : St _ _ _ _ [q22, q40, q12, q16] := hS.sel [2, 0, 1, 3] (by decide)
          refine q_do rfl fun _ hK => wp_storeE (e' := true) (us := [(.bool true)]) (vs := [(.bool e_41)]) 0 hF hS h22 sz4 rfl rfl rfl rfl rfl rfl rfl he_41 at42 rfl rfl rfl fun w q43 hS h43 => hK _ _ (q_end (n_sq (q_region (q_x (v := (.int .i64 n_23)) hF hS (ex_move rfl) rfl rfl fun a hF => q_x (v := (.int .i64 (w64 (n_23 + 1)))) hF hS (ex_ibin rfl rfl rfl) rfl rfl fun a hF => q_x (v := (.int .i64 (w64 (n_23 + 1)))) hF hS (ex_assign rfl) rfl rfl fun a hF => q_end (n_jn ?_)))))
          obtain rfl := someI hj12
          exact ⟨q40, s40, q43, _, _, _, rfl, hF.sub ⟨rfl, rfl, rfl, rfl, rfl, rfl, rfl, rfl, trivial⟩, hS.sel [2, 1, 0, 3] (by decide), h40, h43⟩
        ·rintro a w ⟨q45, s45, q47, used_44, chosen_46, n_48, rfl, hF, hS, h45, h47⟩
         refine n_ib (n_sq ?_)
         refine q_region (q_x (v := (.int .i64 (w64 (t_24 + 1)))) hF hS (ex_ibin rfl rfl rfl) rfl rfl fun a hF => q_x (v := (.int .i64 (w64 (t_24 + 1)))) hF hS (ex_move rfl) rfl rfl fun a hF => q_end ?_)
         obtain rfl := someI hb7
         exact ⟨rfl, q45, s45, q47, _, _, _, _, rfl, hF.sub ⟨rfl, rfl, rfl, rfl, rfl, rfl, rfl, rfl, trivial⟩, hS.sel [1, 2, 3, 0] (by decide), h45, h47⟩
     ·rintro e a w ⟨q50, rfl, hF, hS, h50⟩
      refine x_ib (n_sq ?_)
      refine q_seq (q_region (q_x (v := nilS.v) hF hS (ex_assign rfl) rfl rfl fun a hF => q_end (n_sq (q_seq (q_seq (q_region (q_x (v := s12.v) hF hS (ex_move rfl) rfl rfl fun a hF => q_x (v := (.int .i64 (goLen t_10))) hF hS (ex_len Tryz.underlying29 rfl h12.len) rfl rfl fun a hF => q_x (v := (.int .i64 0)) hF hS (ex_move rfl) rfl rfl fun a hF => q_end (n_sq (q_block ?_)))))))))
      obtain ⟨out_64, hl14, hr⟩ := bindS hr
      refine q_loop (fun (s : (List (List Int)) × Int) a w => ∃ (q52 : Piece), ∃ (s52 : Sl), ∃ out_51, ∃ t_53, s = (out_51, t_53) ∧ Fr a 117 [(16, s18.v), (21, s52.v), (100, s12.v), (101, (.int .i64 (goLen t_10))), (102, (.int .i64 t_53))] ∧ St [] w0 w m11 [q52, q12, q50] ∧ OwnL m11 26 q52 s52 out_51) (fun (out_64 : (List (List Int))) e a w => ∃ (q65 : Piece), ∃ (s65 : Sl), e = .exit 2 ∧ Fr a 117 [(21, s65.v)] ∧ St [] w0 w m11 [q65] ∧ OwnL m11 26 q65 s65 out_64) hl14 ⟨[], nilS, _, _, rfl, hF.sub ⟨rfl, rfl, rfl, rfl, rfl, trivial⟩, hS.sel [2, 0, 1] (by decide), (OwnL.nil (α := List Int) m11 26)⟩ ?_ ?_
      ·clear hF hS
       rintro s a w st ⟨q52, s52, out_51, t_53, rfl, hF, hS, h52⟩ hb14
       unfold spec_SwapPlan_l2 at hb14
       refine q_seq (q_region (q_x (v := (.bool (decide (t_53 < (goLen t_10))))) hF hS (ex_ibin rfl rfl rfl) rfl rfl fun a hF => q_end (n_sq (q_seq ?_))))
       rcases bcase (decide (t_53 < (goLen t_10))) with hc15 | hc15
       ·have hb14 := cond_f hc15 hb14
        refine q_cond_f hF rfl hc15 (q_exit (x_sq ?_))
        obtain rfl := someI hb14
        exact ⟨nofun, .inl ⟨q52, s52, rfl, hF.sub ⟨rfl, trivial⟩, hS.mask [true, false, false], h52⟩⟩
       ·have hb14 := cond_t hc15 hb14
        refine q_cond_t hF rfl hc15 (q_skipc (n_sq (q_seq (q_block (q_seq (q_region (q_x (v := (.int .i64 t_53)) hF hS (ex_move rfl) rfl rfl fun a hF => ?_)))))))
        obtain ⟨e_54, he_54, hb14⟩ := bindS hb14
        obtain ⟨vs55, at55, d55⟩ := h12.at he_54 1 rfl
        obtain ⟨s56, rfl, h56⟩ : ∃ s56 : Sl, vs55 = [s56.v] ∧ Rd m11 s56 e_54 := d55
        refine q_x (v := (elP s12 (t_53.toNat * 1))) hF hS (ex_indexAddr Tryz.underlying29 sz26 rfl rfl (h12.idx he_54)) rfl rfl fun a hF => q_x (v := s56.v) hF hS (ex_loadE1 0 Tryz.underlying26 rfl rfl (at55.at 1 rfl) rfl rfl) rfl rfl fun a hF => q_x (v := (.int .i64 t_53)) hF hS (ex_assign rfl) rfl rfl fun a hF => q_x (v := s56.v) hF hS (ex_assign rfl) rfl rfl fun a hF => q_end (n_sq (q_seq (q_region (q_x (v := s18.v) hF hS (ex_move rfl) rfl rfl fun a hF => q_x (v := (.int .i64 t_53)) hF hS (ex_move rfl) rfl rfl fun a hF => ?_))))
        obtain ⟨e_57, he_57, hb14⟩ := bindS hb14
        obtain ⟨vs58, at58, d58⟩ := h50.at he_57 1 rfl
        obtain rfl : vs58 = [(.bool e_57)] := d58
        refine q_x (v := (elP s18 (t_53.toNat * 1))) hF hS (ex_indexAddr Tryz.underlying127 sz4 rfl rfl (h50.idx he_57)) rfl rfl fun a hF => q_x (v := (.bool e_57)) hF hS (ex_loadE1 0 Tryz.underlying4 rfl rfl (at58.at 2 rfl) rfl rfl) rfl rfl fun a hF => q_end (n_sq ?_)
        obtain ⟨out_62, hj16, hb14⟩ := bindS hb14
        refine q_join (fun a w => ∃ (q63 : Piece), ∃ (s63 : Sl), Fr a 117 [(16, s18.v), (21, s63.v), (100, s12.v), (101, (.int .i64 (goLen t_10))), (102, (.int .i64 t_53))] ∧ St [] w0 w m11 [q50, q63, q12] ∧ OwnL m11 26 q63 s63 out_62) ?_ ?_
        ·rcases bcase (e_57) with hc17 | hc17
         ·have hj16 := cond_f hc17 hj16
          refine q_cond_f hF rfl hc17 (q_skipc (n_jn ?_))
          obtain rfl := someI hj16
          exact ⟨q52, s52, hF.sub ⟨rfl, rfl, rfl, rfl, rfl, trivial⟩, hS.sel [2, 0, 1] (by decide), h52⟩
         ·have hj16 := cond_t hc17 hj16
          refine q_cond_t hF rfl hc17 (q_region (q_x (v := s52.v) hF hS (ex_move rfl) rfl rfl fun a hF => q_x (v := s56.v) hF hS (ex_move rfl) rfl rfl fun a hF => q_do rfl fun _ hK => wp_buildSlice' (l := ([e_54] : List (List Int))) (cells := [s56.v]) hF hS Tryz.underlying29 inf26 rfl rfl (by kernel_rfl) rfl rfl rfl ⟨⟨s56, rfl, h56⟩, rfl⟩ rfl rfl fun a w q59 s59 hF hS h59 _ => hK _ _ ?_))
          have hS : St _ _ _ _ [q52, q59, q12, q50] := hS.sel [1, 0, 2, 3] (by decide)
          obtain ⟨l_60, hl_60, hj16⟩ := bindS hj16
          refine q_do rfl fun _ hK => wp_append hF hS h52 Tryz.underlying29 inf26 rfl rfl rfl rfl (h59.vw hS (j := 1) rfl) rfl (by decide) hl_60 rfl fun a w q61 s61 hF hS h61 => hK _ _ (q_x (v := s61.v) hF hS (ex_assign rfl) rfl rfl fun a hF => q_end (n_jn ?_))
          obtain rfl := someI hj16
          exact ⟨q61, s61, hF.sub ⟨rfl, rfl, rfl, rfl, rfl, trivial⟩, hS.sel [3, 0, 2] (by decide), h61⟩
        ·rintro a w ⟨q63, s63, hF, hS, h63⟩
         refine n_ib (n_sq ?_)
         refine q_region (q_x (v := (.int .i64 (w64 (t_53 + 1)))) hF hS (ex_ibin rfl rfl rfl) rfl rfl fun a hF => q_x (v := (.int .i64 (w64 (t_53 + 1)))) hF hS (ex_move rfl) rfl rfl fun a hF => q_end ?_)
         obtain rfl := someI hb14
         exact ⟨rfl, q63, s63, _, _, rfl, hF.sub ⟨rfl, rfl, rfl, rfl, rfl, trivial⟩, hS.sel [1, 2, 0] (by decide), h63⟩
      ·rintro e a w ⟨q65, s65, rfl, hF, hS, h65⟩
       refine x_ib (n_sq ?_)
       refine q_seq (q_region (q_x (v := s65.v) hF hS (ex_move rfl) rfl rfl fun a hF => q_x (v := s65.v) hF hS (ex_assign rfl) rfl rfl fun a hF => q_x (v := (.bool true)) hF hS (ex_assign rfl) rfl rfl fun a hF => q_end (n_sq (q_ret ?_))))
       obtain rfl := someI hr
       exact ret_of hF hS rfl (.tmp rfl (.tmp rfl .nil)) ⟨m11, q65, s65, rfl, hm11, hS.sel [0] (by decide), h65⟩
    ·have hr := cond_t hc6 hr
     refine q_cond_t hF rfl hc6 (q_seq (q_region (q_x (v := nilS.v) hF hS (ex_assign rfl) rfl rfl fun a hF => q_x (v := (.bool false)) hF hS (ex_assign rfl) rfl rfl fun a hF => q_end (n_sq (q_ret (r_sq ?_))))))
     obtain rfl := someI hr
     exact ret_of hF hS rfl (.tmp rfl (.tmp rfl .nil)) ⟨m11, [], nilS, rfl, hm11, hS.sel [3] (by decide), (OwnL.nil (α := List Int) m11 26)⟩
   ·have hr := cond_t hc5 hr
    refine q_cond_t hF rfl hc5 (q_seq (q_region (q_x (v := nilS.v) hF hS (ex_assign rfl) rfl rfl fun a hF => q_x (v := (.bool false)) hF hS (ex_assign rfl) rfl rfl fun a hF => q_end (n_sq (q_ret (r_sq ?_))))))
    obtain rfl := someI hr
    exact ret_of hF hS rfl (.tmp rfl (.tmp rfl .nil)) ⟨m11, [], nilS, rfl, hm11, hS.sel [1] (by decide), (OwnL.nil (α := List Int) m11 26)⟩
  ·have hr := cond_t hc4 hr
   refine q_cond_t hF rfl hc4 (q_seq (q_region (q_x (v := nilS.v) hF hS (ex_assign rfl) rfl rfl fun a hF => q_x (v := (.bool false)) hF hS (ex_assign rfl) rfl rfl fun a hF => q_end (n_sq (q_ret (r_sq ?_))))))
   obtain rfl := someI hr
   exact ret_of hF hS rfl (.tmp rfl (.tmp rfl .nil)) ⟨m, [], nilS, rfl, (MLe.refl _ _), hS.sel [0] (by decide), (OwnL.nil (α := List Int) m 26)⟩

theorem c_spec_l1Cur_swaps (p_c : spec_l1Cur) (p_n : Int) (r : (List (List Int)) × spec_l1Cur) (hr : spec_l1Cur_swaps p_c p_n = some r) (w0 : World) (m : Mem) (b_p_c : Nat) (s1 : Sl) (h1 : Rd m s1 p_c.code) (X : List Nat) (hS : St X w0 w0 m [[⟨b_p_c, [s1.v, (.int .i64 p_c.at_), (.int .u64 p_c.seed.v)], 44⟩]]) :
  RetX Tryz.prog 85 [(.pointer (some ⟨b_p_c, 0, none⟩)), (.int .i64 p_n)] w0 (fun v w => ∃ (m' : Mem) (q0' : Piece) (s0' : Sl), v = s0'.v ∧ MLe X w0.heap.size m m' ∧ St X w0 w m' [[⟨b_p_c, [s1.v, (.int .i64 r.2.at_), (.int .u64 r.2.seed.v)], 44⟩], q0'] ∧ OwnL m' 26 q0' s0' r.1 ∧ r.2.code = p_c.code) := by
 unfold spec_l1Cur_swaps at hr
 refine ret_startX Tryz.func85 rfl 68 rfl rfl fun a hF => q_seq (q_region (q_x (v := nilS.v) hF hS (ex_assign rfl) rfl rfl fun a hF => q_end (n_sq (q_seq (q_region (q_x (v := nilS.v) hF hS (ex_assign rfl) rfl rfl fun a hF => q_end (n_sq (q_seq (q_seq (q_region (q_x (v := (.pointer (some ⟨b_p_c, 0, none⟩))) hF hS (ex_move rfl) rfl rfl fun a hF => ?_)))))))))))
 have hS2 : St _ _ _ _ ([[⟨b_p_c, [s1.v, (.int .i64 p_c.at_), (.int .u64 p_c.seed.v)], 44⟩]] ++ []) := hS
 have hE2 := hS2.enter
 obtain ⟨t_3, ht_3, hr⟩ := bindS hr
 refine q_do rfl fun _ hK => wp_callX (vs := [(.pointer (some ⟨b_p_c, 0, none⟩)), (.int .i64 4)]) hF Tryz.func51 (by kernel_rfl) rfl rfl rfl (c_spec_l1Cur_pick p_c 4 t_3 ht_3 _ m b_p_c s1 h1 _ hE2) fun a w _ hR hF => hK _ _ ?_
 obtain ⟨rfl, hR2, hk4⟩ := hR
 have hS : St _ _ _ _ [[⟨b_p_c, [s1.v, (.int .i64 t_3.2.at_), (.int .u64 t_3.2.seed.v)], 44⟩]] := hS2.leaveF hR2
 have h4 : Rd m s1 t_3.2.code := by rw [hk4]; exact h1
 refine q_x (v := (.int .i64 t_3.1)) hF hS (ex_assign rfl) rfl rfl fun a hF => q_end (n_sq (q_block ?_))
 obtain ⟨o1, hl1, hr⟩ := bindS hr
 refine q_loop (fun (s : (List (List Int)) × Int × spec_l1Cur) a w => ∃ (m10 : Mem), ∃ (q6 : Piece), ∃ (s6 : Sl), ∃ out_5, ∃ k_7, ∃ p_c_8, s = (out_5, k_7, p_c_8) ∧ Fr a 68 [(0, (.pointer (some ⟨b_p_c, 0, none⟩))), (1, (.int .i64 p_n)), (5, s6.v), (6, (.int .i64 k_7))] ∧ St X w0 w m10 [q6, [⟨b_p_c, [s1.v, (.int .i64 p_c_8.at_), (.int .u64 p_c_8.seed.v)], 44⟩]] ∧ MLe X w0.heap.size m m10 ∧ OwnL m10 26 q6 s6 out_5 ∧ Rd m10 s1 p_c_8.code ∧ p_c_8.code = p_c.code) (fun (o : (List (List Int)) × spec_l1Cur) e a w => ∃ (m27 : Mem), ∃ (q24 : Piece), ∃ (s24 : Sl), ∃ out_23, ∃ p_c_25, o = (out_23, p_c_25) ∧ e = .exit 0 ∧ Fr a 68 [(0, (.pointer (some ⟨b_p_c, 0, none⟩))), (1, (.int .i64 p_n)), (5, s24.v)] ∧ St X w0 w m27 [q24, [⟨b_p_c, [s1.v, (.int .i64 p_c_25.at_), (.int .u64 p_c_25.seed.v)], 44⟩]] ∧ MLe X w0.heap.size m m27 ∧ OwnL m27 26 q24 s24 out_23 ∧ Rd m27 s1 p_c_25.code ∧ p_c_25.code = p_c.code) hl1 ⟨m, [], nilS, _, _, _, rfl, hF.sub ⟨rfl, rfl, rfl, rfl, trivial⟩, hS.sel [1, 0] (by decide), (MLe.refl _ _), (OwnL.nil (α := List Int) m 26), h4, hk4⟩ ?_ ?_
 ·clear hF hS
  rintro s a w st ⟨m10, q6, s6, out_5, k_7, p_c_8, rfl, hF, hS, hm10, h6, h9, h9k⟩ hb1
  unfold spec_l1Cur_swaps_l1 at hb1
  refine q_seq (q_seq ?_)
  obtain ⟨t_11, hj2, hb1⟩ := bindS hb1
  refine q_join (fun a w => Fr a 68 [(0, (.pointer (some ⟨b_p_c, 0, none⟩))), (1, (.int .i64 p_n)), (5, s6.v), (6, (.int .i64 k_7)), (15, (.bool t_11))] ∧ St X w0 w m10 [q6, [⟨b_p_c, [s1.v, (.int .i64 p_c_8.at_), (.int .u64 p_c_8.seed.v)], 44⟩]]) ?_ ?_
  ·refine q_region (q_x (v := (.int .i64 k_7)) hF hS (ex_move rfl) rfl rfl fun a hF => q_x (v := (.bool (decide (0 < k_7)))) hF hS (ex_ibin rfl rfl rfl) rfl rfl fun a hF => q_x (v := (.bool (decide (0 < k_7)))) hF hS (ex_move rfl) rfl rfl fun a hF => ?_)
   rcases bcase (decide (0 < k_7)) with hc3 | hc3
   ·have hj2 := cond_f hc3 hj2
    refine q_skip hF (wanted_f hF rfl rfl rfl hc3 rfl) rfl fun a hF => q_skip hF (wanted_f hF rfl rfl rfl hc3 rfl) rfl fun a hF => q_x (v := (.bool false)) hF hS (ex_pick_f rfl rfl hc3) rfl rfl fun a hF => q_end (n_jn ?_)
    obtain rfl := someI hj2
    exact ⟨hF.sub ⟨rfl, rfl, rfl, rfl, rfl, trivial⟩, hS⟩
   ·have hj2 := cond_t hc3 hj2
    refine q_xg (v := (.int .i64 p_n)) hF hS (ex_move rfl) (wanted_t hF rfl rfl rfl hc3) rfl fun a hF => q_xg (v := (.bool (decide (1 < p_n)))) hF hS (ex_ibin rfl rfl rfl) (wanted_t hF rfl rfl rfl hc3) rfl fun a hF => q_x (v := (.bool (decide (1 < p_n)))) hF hS (ex_pick_t rfl rfl hc3) rfl rfl fun a hF => q_end (n_jn ?_)
    obtain rfl := someI hj2
    exact ⟨hF.sub ⟨rfl, rfl, rfl, rfl, rfl, trivial⟩, hS⟩
  ·rintro a w ⟨hF, hS⟩
   refine n_sq ?_
   rcases bcase (t_11) with hc4 | hc4
   ·have hb1 := cond_f hc4 hb1
    refine q_cond_f hF rfl hc4 (q_exit (x_sq ?_))
    obtain rfl := someI hb1
    exact ⟨nofun, .inl ⟨m10, q6, s6, _, _, rfl, rfl, hF.sub ⟨rfl, rfl, rfl, trivial⟩, hS, hm10, h6, h9, h9k⟩⟩
   ·have hb1 := cond_t hc4 hb1
    refine q_cond_t hF rfl hc4 (q_skipc (n_sq (q_seq (q_block (q_seq (q_region (q_x (v := (.pointer (some ⟨b_p_c, 0, none⟩))) hF hS (ex_move rfl) rfl rfl fun a hF => q_x (v := (.int .i64 p_n)) hF hS (ex_move rfl) rfl rfl fun a hF => q_x (v := (.int .i64 (w64 (p_n - 1)))) hF hS (ex_ibin rfl rfl rfl) rfl rfl fun a hF => ?_)))))))
    have hS : St _ _ _ _ [[⟨b_p_c, [s1.v, (.int .i64 p_c_8.at_), (.int .u64 p_c_8.seed.v)], 44⟩], q6] := hS.sel [1, 0] (by decide)
    have hS12 : St _ _ _ _ ([[⟨b_p_c, [s1.v, (.int .i64 p_c_8.at_), (.int .u64 p_c_8.seed.v)], 44⟩]] ++ [q6]) := hS
    have hE12 := hS12.enter
    obtain ⟨t_13, ht_13, hb1⟩ := bindS hb1
    refine q_do rfl fun _ hK => wp_callX (vs := [(.pointer (some ⟨b_p_c, 0, none⟩)), (.int .i64 (w64 (p_n - 1)))]) hF Tryz.func51 (by kernel_rfl) rfl rfl rfl (c_spec_l1Cur_pick p_c_8 (w64 (p_n - 1)) t_13 ht_13 _ m10 b_p_c s1 h9 _ hE12) fun a w _ hR hF => hK _ _ ?_
    obtain ⟨rfl, hR12, hk14⟩ := hR
    have hS : St _ _ _ _ [[⟨b_p_c, [s1.v, (.int .i64 t_13.2.at_), (.int .u64 t_13.2.seed.v)], 44⟩], q6] := hS12.leaveF hR12
    have h14 : Rd m10 s1 t_13.2.code := by rw [hk14]; exact h9
    refine q_x (v := (.int .i64 t_13.1)) hF hS (ex_assign rfl) rfl rfl fun a hF => q_end (n_sq (q_region (q_x (v := s6.v) hF hS (ex_move rfl) rfl rfl fun a hF => q_x (v := (.int .i64 t_13.1)) hF hS (ex_move rfl) rfl rfl fun a hF => q_x (v := (.int .i64 t_13.1)) hF hS (ex_move rfl) rfl rfl fun a hF => q_x (v := (.int .i64 (w64 (t_13.1 + 1)))) hF hS (ex_ibin rfl rfl rfl) rfl rfl fun a hF => q_x (v := (.pointer (some ⟨b_p_c, 0, none⟩))) hF hS (ex_move rfl) rfl rfl fun a hF => q_x (v := (.int .i64 p_n)) hF hS (ex_move rfl) rfl rfl fun a hF => q_x (v := (.int .i64 (w64 (p_n - 1)))) hF hS (ex_ibin rfl rfl rfl) rfl rfl fun a hF => q_x (v := (.int .i64 t_13.1)) hF hS (ex_move rfl) rfl rfl fun a hF => q_x (v := (.int .i64 (w64 ((w64 (p_n - 1)) - t_13.1)))) hF hS (ex_ibin rfl rfl rfl) rfl rfl fun a hF => ?_)))
    have hS15 : St _ _ _ _ ([[⟨b_p_c, [s1.v, (.int .i64 t_13.2.at_), (.int .u64 t_13.2.seed.v)], 44⟩]] ++ [q6]) := hS
    have hE15 := hS15.enter
    obtain ⟨t_16, ht_16, hb1⟩ := bindS hb1
    refine q_do rfl fun _ hK => wp_callX (vs := [(.pointer (some ⟨b_p_c, 0, none⟩)), (.int .i64 (w64 ((w64 (p_n - 1)) - t_13.1)))]) hF Tryz.func51 (by kernel_rfl) rfl rfl rfl (c_spec_l1Cur_pick t_13.2 (w64 ((w64 (p_n - 1)) - t_13.1)) t_16 ht_16 _ m10 b_p_c s1 h14 _ hE15) fun a w _ hR hF => hK _ _ ?_
    obtain ⟨rfl, hR15, hk17⟩ := hR
    have hS : St _ _ _ _ [[⟨b_p_c, [s1.v, (.int .i64 t_16.2.at_), (.int .u64 t_16.2.seed.v)], 44⟩], q6] := hS15.leaveF hR15
    have h17 : Rd m10 s1 t_16.2.code := by rw [hk17]; exact h14
    refine q_x (v := (.int .i64 (w64 ((w64 (t_13.1 + 1)) + t_16.1)))) hF hS (ex_ibin rfl rfl rfl) rfl rfl fun a hF => q_do rfl fun _ hK => wp_buildSlice' (l := ([t_13.1, (w64 ((w64 (t_13.1 + 1)) + t_16.1))] : List Int)) (cells := [(.int .i64 t_13.1), (.int .i64 (w64 ((w64 (t_13.1 + 1)) + t_16.1)))]) hF hS Tryz.underlying26 inf3 rfl rfl (by kernel_rfl) rfl rfl rfl ⟨rfl, rfl, rfl⟩ rfl rfl fun a w q18 s18 hF hS h18 _ => hK _ _ ?_
    obtain ⟨m20, hm20, hS, hz20⟩ := hS.freeze
    have h20 := h18.froz hm20.le hz20
    refine q_do rfl fun _ hK => wp_buildSlice' (l := ([([t_13.1, (w64 ((w64 (t_13.1 + 1)) + t_16.1))] : List Int)] : List (List Int))) (cells := [s18.v]) hF hS Tryz.underlying29 inf26 rfl rfl (by kernel_rfl) rfl rfl rfl ⟨⟨s18, rfl, h20⟩, rfl⟩ rfl rfl fun a w q19 s19 hF hS h19 _ => hK _ _ ?_
    have hS : St _ _ _ _ [q6, q19, [⟨b_p_c, [s1.v, (.int .i64 t_16.2.at_), (.int .u64 t_16.2.seed.v)], 44⟩]] := hS.sel [2, 0, 1] (by decide)
    obtain ⟨l_21, hl_21, hb1⟩ := bindS hb1
    refine q_do rfl fun _ hK => wp_append hF hS (h6.mono hm20.le) Tryz.underlying29 inf26 rfl rfl rfl rfl (h19.vw hS (j := 1) rfl) rfl (by decide) hl_21 rfl fun a w q22 s22 hF hS h22 => hK _ _ (q_x (v := s22.v) hF hS (ex_assign rfl) rfl rfl fun a hF => q_end (n_ib (n_sq (q_region (q_x (v := (.int .i64 k_7)) hF hS (ex_move rfl) rfl rfl fun a hF => q_x (v := (.int .i64 (w64 (k_7 - 1)))) hF hS (ex_ibin rfl rfl rfl) rfl rfl fun a hF => q_x (v := (.int .i64 (w64 (k_7 - 1)))) hF hS (ex_assign rfl) rfl rfl fun a hF => q_end ?_)))))
    obtain rfl := someI hb1
    exact ⟨rfl, m20, q22, s22, _, _, _, rfl, hF.sub ⟨rfl, rfl, rfl, rfl, trivial⟩, hS.mask [true, false, true], (hm10.trans hm20), h22, (h17.mono hm20.le), (hk17.trans (hk14.trans h9k))⟩
 ·rintro e a w ⟨m27, q24, s24, out_23, p_c_25, rfl, rfl, hF, hS, hm27, h24, h26, h26k⟩
  refine x_ib (n_sq ?_)
  refine q_seq (q_seq (q_region (q_x (v := (.pointer (some ⟨b_p_c, 0, none⟩))) hF hS (ex_move rfl) rfl rfl fun a hF => ?_)))
  have hS : St _ _ _ _ [[⟨b_p_c, [s1.v, (.int .i64 p_c_25.at_), (.int .u64 p_c_25.seed.v)], 44⟩], q24] := hS.sel [1, 0] (by decide)
  have hS28 : St _ _ _ _ ([[⟨b_p_c, [s1.v, (.int .i64 p_c_25.at_), (.int .u64 p_c_25.seed.v)], 44⟩]] ++ [q24]) := hS
  have hE28 := hS28.enter
  obtain ⟨t_29, ht_29, hr⟩ := bindS hr
  refine q_do rfl fun _ hK => wp_callX (vs := [(.pointer (some ⟨b_p_c, 0, none⟩)), (.int .i64 24)]) hF Tryz.func51 (by kernel_rfl) rfl rfl rfl (c_spec_l1Cur_pick p_c_25 24 t_29 ht_29 _ m27 b_p_c s1 h26 _ hE28) fun a w _ hR hF => hK _ _ ?_
  obtain ⟨rfl, hR28, hk30⟩ := hR
  have hS : St _ _ _ _ [[⟨b_p_c, [s1.v, (.int .i64 t_29.2.at_), (.int .u64 t_29.2.seed.v)], 44⟩], q24] := hS28.leaveF hR28
  have h30 : Rd m27 s1 t_29.2.code := by rw [hk30]; exact h26
  refine q_end (n_sq (q_block (q_seq (q_region (q_x (v := (.bool (t_29.1 == 0))) hF hS (ex_ibin rfl rfl rfl) rfl rfl fun a hF => q_x (v := (.bool (t_29.1 == 0))) hF hS (ex_assign rfl) rfl rfl fun a hF => q_end (n_sq ?_))))))
  obtain ⟨j5, hj5, hr⟩ := bindS hr
  refine q_join (fun a w => ∃ (m76 : Mem), ∃ (q73 : Piece), ∃ (s73 : Sl), ∃ out_72, ∃ p_c_74, j5 = (out_72, p_c_74) ∧ Fr a 68 [(5, s73.v)] ∧ St X w0 w m76 [q73, [⟨b_p_c, [s1.v, (.int .i64 p_c_74.at_), (.int .u64 p_c_74.seed.v)], 44⟩]] ∧ MLe X w0.heap.size m27 m76 ∧ OwnL m76 26 q73 s73 out_72 ∧ Rd m76 s1 p_c_74.code ∧ p_c_74.code = p_c.code) ?_ ?_
  ·rcases bcase (t_29.1 == 0) with hc6 | hc6
   ·have hj5 := cond_f hc6 hj5
    refine q_cond_f hF rfl hc6 (q_seq (q_region (q_x (v := (.bool (t_29.1 == 1))) hF hS (ex_ibin rfl rfl rfl) rfl rfl fun a hF => q_x (v := (.bool (t_29.1 == 1))) hF hS (ex_assign rfl) rfl rfl fun a hF => q_end (n_sq ?_))))
    obtain ⟨j7, hj7, hj5⟩ := bindS hj5
    refine q_join (fun a w => ∃ (m66 : Mem), ∃ (q63 : Piece), ∃ (s63 : Sl), ∃ out_62, ∃ p_c_64, j7 = (out_62, p_c_64) ∧ Fr a 68 [(5, s63.v)] ∧ St X w0 w m66 [q63, [⟨b_p_c, [s1.v, (.int .i64 p_c_64.at_), (.int .u64 p_c_64.seed.v)], 44⟩]] ∧ MLe X w0.heap.size m27 m66 ∧ OwnL m66 26 q63 s63 out_62 ∧ Rd m66 s1 p_c_64.code ∧ p_c_64.code = p_c.code) ?_ ?_
    ·rcases bcase (t_29.1 == 1) with hc8 | hc8
     ·have hj7 := cond_f hc8 hj7
      refine q_cond_f hF rfl hc8 (q_seq (q_region (q_x (v := (.bool (t_29.1 == 2))) hF hS (ex_ibin rfl rfl rfl) rfl rfl fun a hF => q_x (v := (.bool (t_29.1 == 2))) hF hS (ex_assign rfl) rfl rfl fun a hF => q_end (n_sq ?_))))
      obtain ⟨j9, hj9, hj7⟩ := bindS hj7
      refine q_join (fun a w => ∃ (m56 : Mem), ∃ (q53 : Piece), ∃ (s53 : Sl), ∃ out_52, ∃ p_c_54, j9 = (out_52, p_c_54) ∧ Fr a 68 [(5, s53.v)] ∧ St X w0 w m56 [q53, [⟨b_p_c, [s1.v, (.int .i64 p_c_54.at_), (.int .u64 p_c_54.seed.v)], 44⟩]] ∧ MLe X w0.heap.size m27 m56 ∧ OwnL m56 26 q53 s53 out_52 ∧ Rd m56 s1 p_c_54.code ∧ p_c_54.code = p_c.code) ?_ ?_
      ·rcases bcase (t_29.1 == 2) with hc10 | hc10
       ·have hj9 := cond_f hc10 hj9
        refine q_cond_f hF rfl hc10 (q_skipc (n_jn ?_))
        obtain rfl := someI hj9
        exact ⟨m27, q24, s24, _, _, rfl, hF.sub ⟨rfl, trivial⟩, hS.sel [1, 0] (by decide), (MLe.refl _ _), h24, h30, (hk30.trans h26k)⟩
       ·have hj9 := cond_t hc10 hj9
        refine q_cond_t hF rfl hc10 (q_block ?_)
        obtain ⟨o11, hl11, hj9⟩ := bindS hj9
        refine q_loop (fun (s : (List (List Int)) × spec_l1Cur) a w => ∃ (m35 : Mem), ∃ (q32 : Piece), ∃ (s32 : Sl), ∃ out_31, ∃ p_c_33, s = (out_31, p_c_33) ∧ Fr a 68 [(0, (.pointer (some ⟨b_p_c, 0, none⟩))), (1, (.int .i64 p_n)), (5, s32.v)] ∧ St X w0 w m35 [q32, [⟨b_p_c, [s1.v, (.int .i64 p_c_33.at_), (.int .u64 p_c_33.seed.v)], 44⟩]] ∧ MLe X w0.heap.size m27 m35 ∧ OwnL m35 26 q32 s32 out_31 ∧ Rd m35 s1 p_c_33.code ∧ p_c_33.code = p_c.code) (fun (o : (List (List Int)) × spec_l1Cur) e a w => ∃ (m51 : Mem), ∃ (q48 : Piece), ∃ (s48 : Sl), ∃ out_47, ∃ p_c_49, o = (out_47, p_c_49) ∧ e = .exit 3 ∧ Fr a 68 [(5, s48.v)] ∧ St X w0 w m51 [q48, [⟨b_p_c, [s1.v, (.int .i64 p_c_49.at_), (.int .u64 p_c_49.seed.v)], 44⟩]] ∧ MLe X w0.heap.size m27 m51 ∧ OwnL m51 26 q48 s48 out_47 ∧ Rd m51 s1 p_c_49.code ∧ p_c_49.code = p_c.code) hl11 ⟨m27, q24, s24, _, _, rfl, hF.sub ⟨rfl, rfl, rfl, trivial⟩, hS.sel [1, 0] (by decide), (MLe.refl _ _), h24, h30, (hk30.trans h26k)⟩ ?_ ?_
        ·clear hF hS
         rintro s a w st ⟨m35, q32, s32, out_31, p_c_33, rfl, hF, hS, hm35, h32, h34, h34k⟩ hb11
         unfold spec_l1Cur_swaps_l2 at hb11
         refine q_seq (q_seq ?_)
         obtain ⟨j12, hj12, hb11⟩ := bindS hb11
         refine q_join (fun a w => ∃ t_39, ∃ p_c_40, j12 = (t_39, p_c_40) ∧ Fr a 68 [(0, (.pointer (some ⟨b_p_c, 0, none⟩))), (1, (.int .i64 p_n)), (5, s32.v), (62, (.bool t_39))] ∧ St X w0 w m35 [q32, [⟨b_p_c, [s1.v, (.int .i64 p_c_40.at_), (.int .u64 p_c_40.seed.v)], 44⟩]] ∧ Rd m35 s1 p_c_40.code ∧ p_c_40.code = p_c.code) ?_ ?_
         ·refine q_region (q_x (v := s32.v) hF hS (ex_move rfl) rfl rfl fun a hF => q_x (v := (.int .i64 (goLen out_31))) hF hS (ex_len Tryz.underlying29 rfl h32.len) rfl rfl fun a hF => q_x (v := (.pointer (some ⟨b_p_c, 0, none⟩))) hF hS (ex_move rfl) rfl rfl fun a hF => ?_)
          have hS : St _ _ _ _ [[⟨b_p_c, [s1.v, (.int .i64 p_c_33.at_), (.int .u64 p_c_33.seed.v)], 44⟩], q32] := hS.sel [1, 0] (by decide)
          have hS36 : St _ _ _ _ ([[⟨b_p_c, [s1.v, (.int .i64 p_c_33.at_), (.int .u64 p_c_33.seed.v)], 44⟩]] ++ [q32]) := hS
          have hE36 := hS36.enter
          obtain ⟨t_37, ht_37, hj12⟩ := bindS hj12
          refine q_do rfl fun _ hK => wp_callX (vs := [(.pointer (some ⟨b_p_c, 0, none⟩)), (.int .i64 2)]) hF Tryz.func51 (by kernel_rfl) rfl rfl rfl (c_spec_l1Cur_pick p_c_33 2 t_37 ht_37 _ m35 b_p_c s1 h34 _ hE36) fun a w _ hR hF => hK _ _ ?_
          obtain ⟨rfl, hR36, hk38⟩ := hR
          have hS : St _ _ _ _ [[⟨b_p_c, [s1.v, (.int .i64 t_37.2.at_), (.int .u64 t_37.2.seed.v)], 44⟩], q32] := hS36.leaveF hR36
          have h38 : Rd m35 s1 t_37.2.code := by rw [hk38]; exact h34
          refine q_x (v := (.int .i64 (w64 (20 + t_37.1)))) hF hS (ex_ibin rfl rfl rfl) rfl rfl fun a hF => q_x (v := (.bool (decide ((goLen out_31) < (w64 (20 + t_37.1)))))) hF hS (ex_ibin rfl rfl rfl) rfl rfl fun a hF => q_x (v := (.bool (decide ((goLen out_31) < (w64 (20 + t_37.1)))))) hF hS (ex_move rfl) rfl rfl fun a hF => ?_
          rcases bcase (decide ((goLen out_31) < (w64 (20 + t_37.1)))) with hc13 | hc13
          ·have hj12 := cond_f hc13 hj12
           refine q_skip hF (wanted_f hF rfl rfl rfl hc13 rfl) rfl fun a hF => q_skip hF (wanted_f hF rfl rfl rfl hc13 rfl) rfl fun a hF => q_x (v := (.bool false)) hF hS (ex_pick_f rfl rfl hc13) rfl rfl fun a hF => q_end (n_jn ?_)
           obtain rfl := someI hj12
           exact ⟨_, _, rfl, hF.sub ⟨rfl, rfl, rfl, rfl, trivial⟩, hS.sel [1, 0] (by decide), h38, (hk38.trans h34k)⟩
          ·have hj12 := cond_t hc13 hj12
           refine q_xg (v := (.int .i64 p_n)) hF hS (ex_move rfl) (wanted_t hF rfl rfl rfl hc13) rfl fun a hF => q_xg (v := (.bool (decide (1 < p_n)))) hF hS (ex_ibin rfl rfl rfl) (wanted_t hF rfl rfl rfl hc13) rfl fun a hF => q_x (v := (.bool (decide (1 < p_n)))) hF hS (ex_pick_t rfl rfl hc13) rfl rfl fun a hF => q_end (n_jn ?_)
           obtain rfl := someI hj12
           exact ⟨_, _, rfl, hF.sub ⟨rfl, rfl, rfl, rfl, trivial⟩, hS.sel [1, 0] (by decide), h38, (hk38.trans h34k)⟩
         ·rintro a w ⟨t_39, p_c_40, rfl, hF, hS, h41, h41k⟩
          refine n_sq ?_
          rcases bcase (t_39) with hc14 | hc14
          ·have hb11 := cond_f hc14 hb11
           refine q_cond_f hF rfl hc14 (q_exit (x_sq ?_))
           obtain rfl := someI hb11
           exact ⟨nofun, .inl ⟨m35, q32, s32, _, _, rfl, rfl, hF.sub ⟨rfl, trivial⟩, hS, hm35, h32, h41, h41k⟩⟩
          ·have hb11 := cond_t hc14 hb11
           refine q_cond_t hF rfl hc14 (q_skipc (n_sq (q_block (q_region (q_x (v := s32.v) hF hS (ex_move rfl) rfl rfl fun a hF => q_do rfl fun _ hK => wp_buildSlice' (l := ([0, 1] : List Int)) (cells := [(.int .i64 0), (.int .i64 1)]) hF hS Tryz.underlying26 inf3 rfl rfl (by kernel_rfl) rfl rfl rfl ⟨rfl, rfl, rfl⟩ rfl rfl fun a w q42 s42 hF hS h42 _ => hK _ _ ?_)))))
           obtain ⟨m44, hm44, hS, hz44⟩ := hS.freeze
           have h44 := h42.froz hm44.le hz44
           refine q_do rfl fun _ hK => wp_buildSlice' (l := ([([0, 1] : List Int)] : List (List Int))) (cells := [s42.v]) hF hS Tryz.underlying29 inf26 rfl rfl (by kernel_rfl) rfl rfl rfl ⟨⟨s42, rfl, h44⟩, rfl⟩ rfl rfl fun a w q43 s43 hF hS h43 _ => hK _ _ ?_
           have hS : St _ _ _ _ [q32, q43, [⟨b_p_c, [s1.v, (.int .i64 p_c_40.at_), (.int .u64 p_c_40.seed.v)], 44⟩]] := hS.sel [1, 0, 2] (by decide)
           obtain ⟨l_45, hl_45, hb11⟩ := bindS hb11
           refine q_do rfl fun _ hK => wp_append hF hS (h32.mono hm44.le) Tryz.underlying29 inf26 rfl rfl rfl rfl (h43.vw hS (j := 1) rfl) rfl (by decide) hl_45 rfl fun a w q46 s46 hF hS h46 => hK _ _ (q_x (v := s46.v) hF hS (ex_assign rfl) rfl rfl fun a hF => q_end (n_ib ?_))
           obtain rfl := someI hb11
           exact ⟨rfl, m44, q46, s46, _, _, rfl, hF.sub ⟨rfl, rfl, rfl, trivial⟩, hS.mask [true, false, true], (hm35.trans hm44), h46, (h41.mono hm44.le), h41k⟩
        ·rintro e a w ⟨m51, q48, s48, out_47, p_c_49, rfl, rfl, hF, hS, hm51, h48, h50, h50k⟩
         refine x_ib (n_jn ?_)
         obtain rfl := someI hj9
         exact ⟨m51, q48, s48, _, _, rfl, hF.sub ⟨rfl, trivial⟩, hS, hm51, h48, h50, h50k⟩
      ·rintro a w ⟨m56, q53, s53, out_52, p_c_54, rfl, hF, hS, hm56, h53, h55, h55k⟩
       refine n_jn ?_
       obtain rfl := someI hj7
       exact ⟨m56, q53, s53, _, _, rfl, hF.sub ⟨rfl, trivial⟩, hS, hm56, h53, h55, h55k⟩
     ·have hj7 := cond_t hc8 hj7
      refine q_cond_t hF rfl hc8 (q_region (q_x (v := s24.v) hF hS (ex_move rfl) rfl rfl fun a hF => q_do rfl fun _ hK => wp_buildSlice' (l := ([0] : List Int)) (cells := [(.int .i64 0)]) hF hS Tryz.underlying26 inf3 rfl rfl (by kernel_rfl) rfl rfl rfl ⟨rfl, rfl⟩ rfl rfl fun a w q57 s57 hF hS h57 _ => hK _ _ ?_))
      obtain ⟨m59, hm59, hS, hz59⟩ := hS.freeze
      have h59 := h57.froz hm59.le hz59
      refine q_do rfl fun _ hK => wp_buildSlice' (l := ([([0] : List Int)] : List (List Int))) (cells := [s57.v]) hF hS Tryz.underlying29 inf26 rfl rfl (by kernel_rfl) rfl rfl rfl ⟨⟨s57, rfl, h59⟩, rfl⟩ rfl rfl fun a w q58 s58 hF hS h58 _ => hK _ _ ?_
      have hS : St _ _ _ _ [q24, q58, [⟨b_p_c, [s1.v, (.int .i64 t_29.2.at_), (.int .u64 t_29.2.seed.v)], 44⟩]] := hS.sel [2, 0, 1] (by decide)
      obtain ⟨l_60, hl_60, hj7⟩ := bindS hj7
      refine q_do rfl fun _ hK => wp_append hF hS (h24.mono hm59.le) Tryz.underlying29 inf26 rfl rfl rfl rfl (h58.vw hS (j := 1) rfl) rfl (by decide) hl_60 rfl fun a w q61 s61 hF hS h61 => hK _ _ (q_x (v := s61.v) hF hS (ex_assign rfl) rfl rfl fun a hF => q_end (n_jn ?_))
      obtain rfl := someI hj7
      exact ⟨m59, q61, s61, _, _, rfl, hF.sub ⟨rfl, trivial⟩, hS.mask [true, false, true], hm59, h61, (h30.mono hm59.le), (hk30.trans h26k)⟩
    ·rintro a w ⟨m66, q63, s63, out_62, p_c_64, rfl, hF, hS, hm66, h63, h65, h65k⟩
     refine n_jn ?_
     obtain rfl := someI hj5
     exact ⟨m66, q63, s63, _, _, rfl, hF.sub ⟨rfl, trivial⟩, hS, hm66, h63, h65, h65k⟩
   ·have hj5 := cond_t hc6 hj5
    refine q_cond_t hF rfl hc6 (q_region (q_x (v := s24.v) hF hS (ex_move rfl) rfl rfl fun a hF => q_x (v := (.int .i64 p_n)) hF hS (ex_move rfl) rfl rfl fun a hF => q_do rfl fun _ hK => wp_buildSlice' (l := ([0, p_n] : List Int)) (cells := [(.int .i64 0), (.int .i64 p_n)]) hF hS Tryz.underlying26 inf3 rfl rfl (by kernel_rfl) rfl rfl rfl ⟨rfl, rfl, rfl⟩ rfl rfl fun a w q67 s67 hF hS h67 _ => hK _ _ ?_))
    obtain ⟨m69, hm69, hS, hz69⟩ := hS.freeze
    have h69 := h67.froz hm69.le hz69
    refine q_do rfl fun _ hK => wp_buildSlice' (l := ([([0, p_n] : List Int)] : List (List Int))) (cells := [s67.v]) hF hS Tryz.underlying29 inf26 rfl rfl (by kernel_rfl) rfl rfl rfl ⟨⟨s67, rfl, h69⟩, rfl⟩ rfl rfl fun a w q68 s68 hF hS h68 _ => hK _ _ ?_
    have hS : St _ _ _ _ [q24, q68, [⟨b_p_c, [s1.v, (.int .i64 t_29.2.at_), (.int .u64 t_29.2.seed.v)], 44⟩]] := hS.sel [2, 0, 1] (by decide)
    obtain ⟨l_70, hl_70, hj5⟩ := bindS hj5
    refine q_do rfl fun _ hK => wp_append hF hS (h24.mono hm69.le) Tryz.underlying29 inf26 rfl rfl rfl rfl (h68.vw hS (j := 1) rfl) rfl (by decide) hl_70 rfl fun a w q71 s71 hF hS h71 => hK _ _ (q_x (v := s71.v) hF hS (ex_assign rfl) rfl rfl fun a hF => q_end (n_jn ?_))
    obtain rfl := someI hj5
    exact ⟨m69, q71, s71, _, _, rfl, hF.sub ⟨rfl, trivial⟩, hS.mask [true, false, true], hm69, h71, (h30.mono hm69.le), (hk30.trans h26k)⟩
  ·rintro a w ⟨m76, q73, s73, out_72, p_c_74, rfl, hF, hS, hm76, h73, h75, h75k⟩
   refine n_ib (n_sq ?_)
   refine q_seq (q_region (q_x (v := s73.v) hF hS (ex_move rfl) rfl rfl fun a hF => q_x (v := s73.v) hF hS (ex_assign rfl) rfl rfl fun a hF => q_end (n_sq (q_ret ?_))))
   obtain rfl := someI hr
   exact ret_ofX hF hS rfl (.tmp rfl .nil) ⟨m76, q73, s73, rfl, (hm27.trans hm76), hS.sel [1, 0] (by decide), h73, h75k⟩

theorem c_spec_DrawIsSwapPlan (p_code : List (K .u8)) (r : (List impl_Variable) × (List impl_Record) × (List Int) × (List (List Int))) (hr : spec_DrawIsSwapPlan p_code = some r) (w0 : World) (m : Mem) (hv : Vis m w0) (s1 : Sl) (h1 : Rd m s1 p_code) :
  Ret Tryz.prog 61 [s1.v] w0 (fun v w => ∃ (m' : Mem) (q3' : Piece) (s0' : Sl) (s1' : Sl) (s2' : Sl) (s3' : Sl), v = (.tuple #[s0'.v, s1'.v, s2'.v, s3'.v]) ∧ MLe [] w0.heap.size m m' ∧ St [] w0 w m' [q3'] ∧ Rd m' s0' r.1 ∧ Rd m' s1' r.2.1 ∧ Rd m' s2' r.2.2.1 ∧ OwnL m' 26 q3' s3' r.2.2.2) := by
 unfold spec_DrawIsSwapPlan at hr
 refine ret_start Tryz.func61 rfl 51 rfl rfl m hv fun a hF hS => q_seq (q_region (q_x (v := nilS.v) hF hS (ex_assign rfl) rfl rfl fun a hF => q_x (v := nilS.v) hF hS (ex_assign rfl) rfl rfl fun a hF => q_x (v := nilS.v) hF hS (ex_assign rfl) rfl rfl fun a hF => q_x (v := nilS.v) hF hS (ex_assign rfl) rfl rfl fun a hF => q_end (n_sq (q_seq (q_region (q_x (v := s1.v) hF hS (ex_move rfl) rfl rfl fun a hF => q_x (v := (.agg #[s1.v, (.int .i64 0), (.int .u64 0)])) hF hS (ex_build (cells := [s1.v, (.int .i64 0), (.int .u64 0)]) rfl (by kernel_rfl)) rfl rfl fun a hF => q_box (cs := [s1.v, (.int .i64 0), (.int .u64 0)]) hF hS rfl rfl rfl fun a w b2 hF hS => q_x (v := (.pointer (some ⟨b2, 0, none⟩))) hF hS (ex_assign rfl) rfl rfl fun a hF => q_end (n_sq (q_seq (q_region (q_x (v := s1.v) hF hS (ex_move rfl) rfl rfl fun a hF => ?_))))))))))
 obtain ⟨t_3, ht_3, hr⟩ := bindS hr
 refine q_call (vs := [s1.v]) hF hS Tryz.func83 (by kernel_rfl) rfl rfl rfl (c_spec_DrawSwapPlan p_code t_3 ht_3 _ m hS.vis s1 h1) ?_
 have hT := hS
 rintro a w _ ⟨m4, q6, q7, s5, s6, s7, rfl, hm4, hR4, h5, h6, h7⟩ hF hS2
 have hS : St _ _ _ _ [q6, q7, [⟨b2, [s1.v, (.int .i64 0), (.int .u64 0)], 44⟩]] := hS.join hR4 hm4
 have hm4 := MLe.weakX (O0 := []) hT hm4
 refine q_x (v := (.tuple #[s5.v, s6.v, s7.v, (.int .i64 t_3.2.2.2.1), (.int .i64 t_3.2.2.2.2)])) hF hS (ex_move rfl) rfl rfl fun a hF => q_x (v := s5.v) hF hS (ex_extract rfl rfl) rfl rfl fun a hF => q_x (v := s6.v) hF hS (ex_extract rfl rfl) rfl rfl fun a hF => q_x (v := s7.v) hF hS (ex_extract rfl rfl) rfl rfl fun a hF => q_x (v := (.int .i64 t_3.2.2.2.1)) hF hS (ex_extract rfl rfl) rfl rfl fun a hF => q_x (v := (.int .i64 t_3.2.2.2.2)) hF hS (ex_extract rfl rfl) rfl rfl fun a hF => q_x (v := s5.v) hF hS (ex_assign rfl) rfl rfl fun a hF => q_x (v := s6.v) hF hS (ex_assign rfl) rfl rfl fun a hF => q_x (v := s7.v) hF hS (ex_assign rfl) rfl rfl fun a hF => q_x (v := (.int .i64 t_3.2.2.2.1)) hF hS (ex_assign rfl) rfl rfl fun a hF => q_x (v := (.int .i64 t_3.2.2.2.2)) hF hS (ex_assign rfl) rfl rfl fun a hF => q_end (n_sq (q_seq (q_seq (q_region (q_x (v := s5.v) hF hS (ex_move rfl) rfl rfl fun a hF => q_x (v := s6.v) hF hS (ex_move rfl) rfl rfl fun a hF => q_x (v := s7.v) hF hS (ex_move rfl) rfl rfl fun a hF => q_x (v := (.int .i64 t_3.2.2.2.1)) hF hS (ex_move rfl) rfl rfl fun a hF => q_x (v := (.int .i64 t_3.2.2.2.2)) hF hS (ex_move rfl) rfl rfl fun a hF => ?_)))))
 obtain ⟨m8, hm8, hS, hz8⟩ := hS.freeze
 have h8 := h6.froz hm8.le hz8
 obtain ⟨m9, hm9, hS, hz9⟩ := hS.freeze
 have h9 := (h7.mono hm8.le).froz hm9.le hz9
 obtain ⟨t_10, ht_10, hr⟩ := bindS hr
 refine q_call (vs := [s5.v, s6.v, s7.v, (.int .i64 t_3.2.2.2.1), (.int .i64 t_3.2.2.2.2)]) hF hS Tryz.func84 (by kernel_rfl) rfl rfl rfl (c_spec_SwapPlan t_3.1 t_3.2.1 t_3.2.2.1 t_3.2.2.2.1 t_3.2.2.2.2 t_10 ht_10 _ m9 hS.vis s5 ((h5.mono hm8.le).mono hm9.le) s6 (h8.mono hm9.le) s7 h9) ?_
 have hT := hS
 rintro a w _ ⟨m11, q12, s12, rfl, hm11, hR11, h12⟩ hF hS2
 have hS : St _ _ _ _ [q12, [⟨b2, [s1.v, (.int .i64 0), (.int .u64 0)], 44⟩]] := hS.join hR11 hm11
 have hm11 := MLe.weakX (O0 := []) hT hm11
 refine q_x (v := (.tuple #[s12.v, (.bool t_10.2)])) hF hS (ex_move rfl) rfl rfl fun a hF => q_x (v := s12.v) hF hS (ex_extract rfl rfl) rfl rfl fun a hF => q_x (v := (.bool t_10.2)) hF hS (ex_extract rfl rfl) rfl rfl fun a hF => q_x (v := s12.v) hF hS (ex_assign rfl) rfl rfl fun a hF => q_x (v := (.bool t_10.2)) hF hS (ex_assign rfl) rfl rfl fun a hF => q_end (n_sq (q_seq ?_))
 obtain ⟨j1, hj1, hr⟩ := bindS hr
 refine q_join (fun a w => ∃ t_16, ∃ t_17, j1 = (t_16, t_17) ∧ Fr a 51 [(6, (.pointer (some ⟨b2, 0, none⟩))), (7, s5.v), (8, s6.v), (9, s7.v), (12, s12.v), (39, (.bool t_16))] ∧ St [] w0 w m11 [q12, [⟨b2, [s1.v, (.int .i64 t_17.at_), (.int .u64 t_17.seed.v)], 44⟩]] ∧ Rd m11 s1 t_17.code ∧ t_17.code = p_code) ?_ ?_
 ·refine q_region (q_x (v := (.bool t_10.2)) hF hS (ex_move rfl) rfl rfl fun a hF => q_x (v := (.bool t_10.2)) hF hS (ex_move rfl) rfl rfl fun a hF => ?_)
  rcases bcase (t_10.2) with hc2 | hc2
  ·have hj1 := cond_f hc2 hj1
   refine q_skip hF (wanted_f hF rfl rfl rfl hc2 rfl) rfl fun a hF => q_skip hF (wanted_f hF rfl rfl rfl hc2 rfl) rfl fun a hF => q_skip hF (wanted_f hF rfl rfl rfl hc2 rfl) rfl fun a hF => q_x (v := (.bool false)) hF hS (ex_pick_f rfl rfl hc2) rfl rfl fun a hF => q_end (n_jn ?_)
   obtain rfl := someI hj1
   exact ⟨_, _, rfl, hF.sub ⟨rfl, rfl, rfl, rfl, rfl, rfl, trivial⟩, hS, ((((h1.mono hm4.le).mono hm8.le).mono hm9.le).mono hm11.le), rfl⟩
  ·have hj1 := cond_t hc2 hj1
   refine q_xg (v := (.pointer (some ⟨b2, 0, none⟩))) hF hS (ex_move rfl) (wanted_t hF rfl rfl rfl hc2) rfl fun a hF => ?_
   have hS : St _ _ _ _ [[⟨b2, [s1.v, (.int .i64 0), (.int .u64 0)], 44⟩], q12] := hS.sel [1, 0] (by decide)
   have hS13 : St _ _ _ _ ([[⟨b2, [s1.v, (.int .i64 0), (.int .u64 0)], 44⟩]] ++ [q12]) := hS
   have hE13 := hS13.enter
   obtain ⟨t_14, ht_14, hj1⟩ := bindS hj1
   refine q_dog (wanted_t hF rfl rfl rfl hc2) fun _ hK => wp_callX (vs := [(.pointer (some ⟨b2, 0, none⟩)), (.int .i64 3)]) hF Tryz.func45 (by kernel_rfl) rfl rfl rfl (c_spec_l1Cur_one (spec_l1Cur.mk p_code 0 (⟨0⟩ : K .u64)) 3 t_14 ht_14 _ m11 b2 s1 ((((h1.mono hm4.le).mono hm8.le).mono hm9.le).mono hm11.le) _ hE13) fun a w _ hR hF => hK _ _ ?_
   obtain ⟨rfl, hR13, hk15⟩ := hR
   have hS : St _ _ _ _ [[⟨b2, [s1.v, (.int .i64 t_14.2.at_), (.int .u64 t_14.2.seed.v)], 44⟩], q12] := hS13.leaveF hR13
   have h15 : Rd m11 s1 t_14.2.code := by rw [hk15]; exact ((((h1.mono hm4.le).mono hm8.le).mono hm9.le).mono hm11.le)
   refine q_xg (v := (.bool (!t_14.1))) hF hS (ex_not rfl) (wanted_t hF rfl rfl rfl hc2) rfl fun a hF => q_x (v := (.bool (!t_14.1))) hF hS (ex_pick_t rfl rfl hc2) rfl rfl fun a hF => q_end (n_jn ?_)
   obtain rfl := someI hj1
   exact ⟨_, _, rfl, hF.sub ⟨rfl, rfl, rfl, rfl, rfl, rfl, trivial⟩, hS.sel [1, 0] (by decide), h15, hk15⟩
 ·rintro a w ⟨t_16, t_17, rfl, hF, hS, h18, h18k⟩
  refine n_sq ?_
  rcases bcase (t_16) with hc3 | hc3
  ·have hr := cond_f hc3 hr
   refine q_cond_f hF rfl hc3 (q_skipc (n_sq (q_seq (q_region (q_x (v := s5.v) hF hS (ex_move rfl) rfl rfl fun a hF => q_x (v := s6.v) hF hS (ex_move rfl) rfl rfl fun a hF => q_x (v := s7.v) hF hS (ex_move rfl) rfl rfl fun a hF => q_x (v := (.pointer (some ⟨b2, 0, none⟩))) hF hS (ex_move rfl) rfl rfl fun a hF => q_x (v := s6.v) hF hS (ex_move rfl) rfl rfl fun a hF => q_x (v := (.int .i64 (goLen t_3.2.1))) hF hS (ex_len Tryz.underlying25 rfl ((h8.mono hm9.le).mono hm11.le).len) rfl rfl fun a hF => ?_)))))
   have hS : St _ _ _ _ [[⟨b2, [s1.v, (.int .i64 t_17.at_), (.int .u64 t_17.seed.v)], 44⟩], q12] := hS.sel [1, 0] (by decide)
   have hS19 : St _ _ _ _ ([[⟨b2, [s1.v, (.int .i64 t_17.at_), (.int .u64 t_17.seed.v)], 44⟩]] ++ [q12]) := hS
   have hE19 := hS19.enter
   obtain ⟨t_20, ht_20, hr⟩ := bindS hr
   refine q_do rfl fun _ hK => wp_callX (vs := [(.pointer (some ⟨b2, 0, none⟩)), (.int .i64 (goLen t_3.2.1))]) hF Tryz.func85 (by kernel_rfl) rfl rfl rfl (c_spec_l1Cur_swaps t_17 (goLen t_3.2.1) t_20 ht_20 _ m11 b2 s1 h18 _ hE19) fun a w _ hR hF => hK _ _ ?_
   obtain ⟨m19', q21, s21, rfl, hm19, hR19, h21, hk22⟩ := hR
   have hS : St _ _ _ _ [[⟨b2, [s1.v, (.int .i64 t_20.2.at_), (.int .u64 t_20.2.seed.v)], 44⟩], q21, q12] := hS19.leave hR19 hm19
   have hm19 := MLe.weakX hS19 hm19
   have h22 : Rd m19' s1 t_20.2.code := by rw [hk22]; exact (h18.mono hm19.le)
   refine q_x (v := s5.v) hF hS (ex_assign rfl) rfl rfl fun a hF => q_x (v := s6.v) hF hS (ex_assign rfl) rfl rfl fun a hF => q_x (v := s7.v) hF hS (ex_assign rfl) rfl rfl fun a hF => q_x (v := s21.v) hF hS (ex_assign rfl) rfl rfl fun a hF => q_end (n_sq (q_ret ?_))
   obtain rfl := someI hr
   exact ret_of hF hS rfl (.tmp rfl (.tmp rfl (.tmp rfl (.tmp rfl .nil)))) ⟨m19', q21, s5, s6, s7, s21, rfl, ((((hm4.trans hm8).trans hm9).trans hm11).trans hm19), hS.sel [1] (by decide), ((((h5.mono hm8.le).mono hm9.le).mono hm11.le).mono hm19.le), (((h8.mono hm9.le).mono hm11.le).mono hm19.le), ((h9.mono hm11.le).mono hm19.le), h21⟩
  ·have hr := cond_t hc3 hr
   refine q_cond_t hF rfl hc3 (q_seq (q_region (q_x (v := s5.v) hF hS (ex_move rfl) rfl rfl fun a hF => q_x (v := s6.v) hF hS (ex_move rfl) rfl rfl fun a hF => q_x (v := s7.v) hF hS (ex_move rfl) rfl rfl fun a hF => q_x (v := s12.v) hF hS (ex_move rfl) rfl rfl fun a hF => q_x (v := s5.v) hF hS (ex_assign rfl) rfl rfl fun a hF => q_x (v := s6.v) hF hS (ex_assign rfl) rfl rfl fun a hF => q_x (v := s7.v) hF hS (ex_assign rfl) rfl rfl fun a hF => q_x (v := s12.v) hF hS (ex_assign rfl) rfl rfl fun a hF => q_end (n_sq (q_ret (r_sq ?_))))))
   obtain rfl := someI hr
   exact ret_of hF hS rfl (.tmp rfl (.tmp rfl (.tmp rfl (.tmp rfl .nil)))) ⟨m11, q12, s5, s6, s7, s12, rfl, (((hm4.trans hm8).trans hm9).trans hm11), hS.sel [0] (by decide), (((h5.mono hm8.le).mono hm9.le).mono hm11.le), ((h8.mono hm9.le).mono hm11.le), (h9.mono hm11.le), h12⟩

theorem c_spec_DrawApplySwaps (p_code : List (K .u8)) (r : (List impl_Variable) × (List impl_Record) × (List (List Int))) (hr : spec_DrawApplySwaps p_code = some r) (w0 : World) (m : Mem) (hv : Vis m w0) (s1 : Sl) (h1 : Rd m s1 p_code) :
  Ret Tryz.prog 43 [s1.v] w0 (fun v w => ∃ (m' : Mem) (q2' : Piece) (s0' : Sl) (s1' : Sl) (s2' : Sl), v = (.tuple #[s0'.v, s1'.v, s2'.v]) ∧ MLe [] w0.heap.size m m' ∧ St [] w0 w m' [q2'] ∧ Rd m' s0' r.1 ∧ Rd m' s1' r.2.1 ∧ OwnL m' 26 q2' s2' r.2.2) := by
 unfold spec_DrawApplySwaps at hr
 refine ret_start Tryz.func43 rfl 19 rfl rfl m hv fun a hF hS => q_seq (q_region (q_x (v := nilS.v) hF hS (ex_assign rfl) rfl rfl fun a hF => q_x (v := nilS.v) hF hS (ex_assign rfl) rfl rfl fun a hF => q_x (v := nilS.v) hF hS (ex_assign rfl) rfl rfl fun a hF => q_end (n_sq (q_seq (q_region (q_x (v := s1.v) hF hS (ex_move rfl) rfl rfl fun a hF => ?_))))))
 obtain ⟨t_2, ht_2, hr⟩ := bindS hr
 refine q_call (vs := [s1.v]) hF hS Tryz.func61 (by kernel_rfl) rfl rfl rfl (c_spec_DrawIsSwapPlan p_code t_2 ht_2 _ m hS.vis s1 h1) ?_
 have hT := hS
 rintro a w _ ⟨m3, q7, s4, s5, s6, s7, rfl, hm3, hR3, h4, h5, h6, h7⟩ hF hS2
 have hS : St _ _ _ _ [q7] := hS.join hR3 hm3
 have hm3 := MLe.weakX (O0 := []) hT hm3
 refine q_x (v := (.tuple #[s4.v, s5.v, s6.v, s7.v])) hF hS (ex_move rfl) rfl rfl fun a hF => q_x (v := s4.v) hF hS (ex_extract rfl rfl) rfl rfl fun a hF => q_x (v := s5.v) hF hS (ex_extract rfl rfl) rfl rfl fun a hF => q_x (v := s6.v) hF hS (ex_extract rfl rfl) rfl rfl fun a hF => q_x (v := s7.v) hF hS (ex_extract rfl rfl) rfl rfl fun a hF => q_x (v := s4.v) hF hS (ex_assign rfl) rfl rfl fun a hF => q_x (v := s5.v) hF hS (ex_assign rfl) rfl rfl fun a hF => q_x (v := s6.v) hF hS (ex_assign rfl) rfl rfl fun a hF => q_x (v := s7.v) hF hS (ex_assign rfl) rfl rfl fun a hF => q_end (n_sq (q_seq (q_region (q_x (v := s4.v) hF hS (ex_move rfl) rfl rfl fun a hF => q_x (v := s5.v) hF hS (ex_move rfl) rfl rfl fun a hF => q_x (v := s7.v) hF hS (ex_move rfl) rfl rfl fun a hF => q_x (v := s4.v) hF hS (ex_assign rfl) rfl rfl fun a hF => q_x (v := s5.v) hF hS (ex_assign rfl) rfl rfl fun a hF => q_x (v := s7.v) hF hS (ex_assign rfl) rfl rfl fun a hF => q_end (n_sq (q_ret ?_))))))
 obtain rfl := someI hr
 exact ret_of hF hS rfl (.tmp rfl (.tmp rfl (.tmp rfl .nil))) ⟨m3, q7, s4, s5, s7, rfl, hm3, hS.sel [0] (by decide), h4, h5, h7⟩

theorem c_spec_dInput (p_s : List impl_Variable) (p_l : List impl_Record) (r : Bool) (hr : spec_dInput p_s p_l = some r) (w0 : World) (m : Mem) (hv : Vis m w0) (s1 : Sl) (h1 : Rd m s1 p_s) (s2 : Sl) (h2 : Rd m s2 p_l) :
  Ret Tryz.prog 62 [s1.v, s2.v] w0 (fun v _ => v = (.bool r)) := by
 unfold spec_dInput at hr
 refine ret_start Tryz.func62 rfl 12 rfl rfl m hv fun a hF hS => q_seq (q_region (q_x (v := (.bool false)) hF hS (ex_assign rfl) rfl rfl fun a hF => q_end (n_sq (q_seq ?_))))
 obtain ⟨t_5, hj1, hr⟩ := bindS hr
 refine q_join (fun a w => Fr a 12 [(4, (.bool t_5))] ∧ St [] w0 w m []) ?_ ?_
 ·refine q_region (q_x (v := s1.v) hF hS (ex_move rfl) rfl rfl fun a hF => ?_)
  obtain ⟨t_3, ht_3, hj1⟩ := bindS hj1
  refine q_call (vs := [s1.v]) hF hS Tryz.func59 (by kernel_rfl) rfl rfl rfl (c_spec_sGood p_s t_3 ht_3 _ m hS.vis s1 h1) ?_
  rintro a w _ rfl hF hS
  refine q_x (v := (.bool t_3)) hF hS (ex_move rfl) rfl rfl fun a hF => ?_
  rcases bcase (t_3) with hc2 | hc2
  ·have hj1 := cond_f hc2 hj1
   refine q_skip hF (wanted_f hF rfl rfl rfl hc2 rfl) rfl fun a hF => q_skip hF (wanted_f hF rfl rfl rfl hc2 rfl) rfl fun a hF => q_skip hF (wanted_f hF rfl rfl rfl hc2 rfl) rfl fun a hF => q_x (v := (.bool false)) hF hS (ex_pick_f rfl rfl hc2) rfl rfl fun a hF => q_x (v := (.bool false)) hF hS (ex_assign rfl) rfl rfl fun a hF => q_end (n_jn ?_)
   obtain rfl := someI hj1
   exact ⟨hF.sub ⟨rfl, trivial⟩, hS⟩
  ·have hj1 := cond_t hc2 hj1
   refine q_xg (v := s1.v) hF hS (ex_move rfl) (wanted_t hF rfl rfl rfl hc2) rfl fun a hF => q_xg (v := s2.v) hF hS (ex_move rfl) (wanted_t hF rfl rfl rfl hc2) rfl fun a hF => ?_
   obtain ⟨t_4, ht_4, hj1⟩ := bindS hj1
   refine q_callg (vs := [s1.v, s2.v]) hF hS (wanted_t hF rfl rfl rfl hc2) Tryz.func31 (by kernel_rfl) rfl rfl rfl (c_spec_dGood p_s p_l t_4 ht_4 _ m hS.vis s1 h1 s2 h2) ?_
   rintro a w _ rfl hF hS
   refine q_x (v := (.bool t_4)) hF hS (ex_pick_t rfl rfl hc2) rfl rfl fun a hF => q_x (v := (.bool t_4)) hF hS (ex_assign rfl) rfl rfl fun a hF => q_end (n_jn ?_)
   obtain rfl := someI hj1
   exact ⟨hF.sub ⟨rfl, trivial⟩, hS⟩
 ·rintro a w ⟨hF, hS⟩
  refine n_sq (q_ret ?_)
  obtain rfl := someI hr
  exact ret_of hF hS rfl (.tmp rfl .nil) rfl

theorem c_spec_swPairs (p_pairs : List (List Int)) (p_n : Int) (r : Bool) (hr : spec_swPairs p_pairs p_n = some r) (w0 : World) (m : Mem) (hv : Vis m w0) (s1 : Sl) (h1 : Rd m s1 p_pairs) :
  Ret Tryz.prog 63 [s1.v, (.int .i64 p_n)] w0 (fun v _ => v = (.bool r)) := by
 unfold spec_swPairs at hr
 refine ret_start Tryz.func63 rfl 42 rfl rfl m hv fun a hF hS => q_seq (q_region (q_x (v := (.bool false)) hF hS (ex_assign rfl) rfl rfl fun a hF => q_end (n_sq (q_seq (q_seq (q_region (q_x (v := s1.v) hF hS (ex_move rfl) rfl rfl fun a hF => q_x (v := (.int .i64 (goLen p_pairs))) hF hS (ex_len Tryz.underlying29 rfl h1.len) rfl rfl fun a hF => q_x (v := (.int .i64 0)) hF hS (ex_move rfl) rfl rfl fun a hF => q_end (n_sq (q_block ?_)))))))))
 obtain ⟨o1, hl1, hr⟩ := bindS hr
 refine q_loop (fun (t_2 : Int) a w => Fr a 42 [(0, s1.v), (1, (.int .i64 p_n)), (7, s1.v), (8, (.int .i64 (goLen p_pairs))), (9, (.int .i64 t_2))] ∧ St [] w0 w m []) (fun (o : (Unit) ⊕ (Bool)) e a w => o = .inl () ∧ e = .exit 0 ∧ Fr a 42 [(0, s1.v)] ∧ St [] w0 w m []) hl1 ⟨hF.sub ⟨rfl, rfl, rfl, rfl, rfl, trivial⟩, hS⟩ ?_ ?_
 ·clear hF hS
  rintro t_2 a w st ⟨hF, hS⟩ hb1
  unfold spec_swPairs_l1 at hb1
  refine q_seq (q_region (q_x (v := (.bool (decide (t_2 < (goLen p_pairs))))) hF hS (ex_ibin rfl rfl rfl) rfl rfl fun a hF => q_end (n_sq (q_seq ?_))))
  rcases bcase (decide (t_2 < (goLen p_pairs))) with hc2 | hc2
  ·have hb1 := cond_f hc2 hb1
   refine q_cond_f hF rfl hc2 (q_exit (x_sq ?_))
   obtain rfl := someI hb1
   exact ⟨nofun, .inl ⟨rfl, rfl, hF.sub ⟨rfl, trivial⟩, hS⟩⟩
  ·have hb1 := cond_t hc2 hb1
   refine q_cond_t hF rfl hc2 (q_skipc (n_sq (q_seq (q_block (q_seq (q_region ?_))))))
   obtain ⟨e_3, he_3, hb1⟩ := bindS hb1
   obtain ⟨vs4, at4, d4⟩ := h1.at he_3 1 rfl
   obtain ⟨s5, rfl, h5⟩ : ∃ s5 : Sl, vs4 = [s5.v] ∧ Rd m s5 e_3 := d4
   refine q_x (v := (elP s1 (t_2.toNat * 1))) hF hS (ex_indexAddr Tryz.underlying29 sz26 rfl rfl (h1.idx he_3)) rfl rfl fun a hF => q_x (v := s5.v) hF hS (ex_loadE1 0 Tryz.underlying26 rfl rfl ((at4).at) rfl rfl) rfl rfl fun a hF => q_x (v := s5.v) hF hS (ex_assign rfl) rfl rfl fun a hF => q_end (n_sq (q_seq ?_))
   obtain ⟨t_14, hj3, hb1⟩ := bindS hb1
   refine q_join (fun a w => Fr a 42 [(0, s1.v), (1, (.int .i64 p_n)), (7, s1.v), (8, (.int .i64 (goLen p_pairs))), (9, (.int .i64 t_2)), (37, (.bool t_14))] ∧ St [] w0 w m []) ?_ ?_
   ·refine e_region ⟨[], []⟩ mixed fun w' hw' => ?_
    have hS := hS.below hw'
    refine e_p (v := s5.v) 0 hF rfl (ex_move rfl) rfl rfl (by kernel_rfl) (by kernel_rfl) (by kernel_rfl) fun a hF => e_p (v := (.int .i64 (goLen e_3))) 1 hF rfl (ex_len Tryz.underlying26 rfl h5.len) rfl rfl (by kernel_rfl) (by kernel_rfl) (by kernel_rfl) fun a hF => e_p (v := (.bool ((goLen e_3) != 2))) 2 hF rfl (ex_ibin rfl rfl rfl) rfl rfl (by kernel_rfl) (by kernel_rfl) (by kernel_rfl) fun a hF => e_p (v := (.bool ((goLen e_3) != 2))) 3 hF rfl (ex_move rfl) rfl rfl (by kernel_rfl) (by kernel_rfl) (by kernel_rfl) fun a hF => ?_
    rcases bcase ((goLen e_3) != 2) with hc4 | hc4
    ·have hj3 := cond_f hc4 hj3
     refine e_pg (v := s5.v) 4 hF rfl (ex_move rfl) (wanted_t hF rfl rfl rfl hc4) rfl (by kernel_rfl) (by kernel_rfl) (by kernel_rfl) fun a hF => ?_
     obtain ⟨e_6, he_6, hj3⟩ := bindS hj3
     obtain ⟨vs7, at7, d7⟩ := h5.at he_6 1 rfl
     obtain rfl : vs7 = [(.int .i64 e_6)] := d7
     refine e_pg (v := (elP s5 ((0 : Int).toNat * 1))) 5 hF rfl (ex_indexAddr Tryz.underlying26 sz3 rfl rfl (h5.idx he_6)) (wanted_t hF rfl rfl rfl hc4) rfl (by kernel_rfl) (by kernel_rfl) (by kernel_rfl) fun a hF => e_xg (v := (.int .i64 e_6)) 6 hF hS rfl (ex_loadE1 0 Tryz.underlying3 rfl rfl ((at7).at) rfl rfl) (wanted_t hF rfl rfl rfl hc4) rfl (by kernel_rfl) (by kernel_rfl) (by kernel_rfl) (by kernel_rfl) fun a hF => e_pg (v := (.int .i64 p_n)) 7 hF rfl (ex_move rfl) (wanted_t hF rfl rfl rfl hc4) rfl (by kernel_rfl) (by kernel_rfl) (by kernel_rfl) fun a hF => e_pg (v := (.int .i64 (w64 (p_n - 1)))) 8 hF rfl (ex_ibin rfl rfl rfl) (wanted_t hF rfl rfl rfl hc4) rfl (by kernel_rfl) (by kernel_rfl) (by kernel_rfl) fun a hF => e_one 9 (by kernel_rfl) ?_
     obtain ⟨t_8, ht_8, hj3⟩ := bindS hj3
     refine e_callg (vs := [(.int .i64 e_6), (.int .i64 0), (.int .i64 (w64 (p_n - 1)))]) hF hS rfl (wanted_t hF rfl rfl rfl hc4) Tryz.func65 (by kernel_rfl) rfl rfl rfl (c_spec_l1In e_6 0 (w64 (p_n - 1)) t_8 ht_8 _ m hS.vis) ?_
     rintro a w _ rfl hF hS
     refine e_pg (v := (.bool (!t_8))) 10 hF rfl (ex_not rfl) (wanted_t hF rfl rfl rfl hc4) rfl (by kernel_rfl) (by kernel_rfl) (by kernel_rfl) fun a hF => e_p (v := (.bool (!t_8))) 11 hF rfl (ex_pick_f rfl rfl hc4) rfl rfl (by kernel_rfl) (by kernel_rfl) (by kernel_rfl) fun a hF => e_p (v := (.bool (!t_8))) 12 hF rfl (ex_move rfl) rfl rfl (by kernel_rfl) (by kernel_rfl) (by kernel_rfl) fun a hF => ?_
     rcases bcase (!t_8) with hc5 | hc5
     ·have hj3 := cond_f hc5 hj3
      refine e_pg (v := s5.v) 13 hF rfl (ex_move rfl) (wanted_t hF rfl rfl rfl hc5) rfl (by kernel_rfl) (by kernel_rfl) (by kernel_rfl) fun a hF => ?_
      obtain ⟨e_9, he_9, hj3⟩ := bindS hj3
      obtain ⟨vs10, at10, d10⟩ := h5.at he_9 1 rfl
      obtain rfl : vs10 = [(.int .i64 e_9)] := d10
      refine e_pg (v := (elP s5 ((1 : Int).toNat * 1))) 14 hF rfl (ex_indexAddr Tryz.underlying26 sz3 rfl rfl (h5.idx he_9)) (wanted_t hF rfl rfl rfl hc5) rfl (by kernel_rfl) (by kernel_rfl) (by kernel_rfl) fun a hF => e_xg (v := (.int .i64 e_9)) 15 hF hS rfl (ex_loadE1 0 Tryz.underlying3 rfl rfl ((at10).at) rfl rfl) (wanted_t hF rfl rfl rfl hc5) rfl (by kernel_rfl) (by kernel_rfl) (by kernel_rfl) (by kernel_rfl) fun a hF => e_pg (v := s5.v) 16 hF rfl (ex_move rfl) (wanted_t hF rfl rfl rfl hc5) rfl (by kernel_rfl) (by kernel_rfl) (by kernel_rfl) fun a hF => ?_
      obtain ⟨e_11, he_11, hj3⟩ := bindS hj3
      obtain ⟨vs12, at12, d12⟩ := h5.at he_11 1 rfl
      obtain rfl : vs12 = [(.int .i64 e_11)] := d12
      refine e_pg (v := (elP s5 ((0 : Int).toNat * 1))) 17 hF rfl (ex_indexAddr Tryz.underlying26 sz3 rfl rfl (h5.idx he_11)) (wanted_t hF rfl rfl rfl hc5) rfl (by kernel_rfl) (by kernel_rfl) (by kernel_rfl) fun a hF => e_xg (v := (.int .i64 e_11)) 18 hF hS rfl (ex_loadE1 0 Tryz.underlying3 rfl rfl ((at12).at) rfl rfl) (wanted_t hF rfl rfl rfl hc5) rfl (by kernel_rfl) (by kernel_rfl) (by kernel_rfl) (by kernel_rfl) fun a hF => e_pg (v := (.int .i64 (w64 (e_11 + 1)))) 19 hF rfl (ex_ibin rfl rfl rfl) (wanted_t hF rfl rfl rfl hc5) rfl (by kernel_rfl) (by kernel_rfl) (by kernel_rfl) fun a hF => e_pg (v := (.int .i64 p_n)) 20 hF rfl (ex_move rfl) (wanted_t hF rfl rfl rfl hc5) rfl (by kernel_rfl) (by kernel_rfl) (by kernel_rfl) fun a hF => e_pg (v := (.int .i64 (w64 (p_n - 1)))) 21 hF rfl (ex_ibin rfl rfl rfl) (wanted_t hF rfl rfl rfl hc5) rfl (by kernel_rfl) (by kernel_rfl) (by kernel_rfl) fun a hF => e_one 22 (by kernel_rfl) ?_
      obtain ⟨t_13, ht_13, hj3⟩ := bindS hj3
      refine e_callg (vs := [(.int .i64 e_9), (.int .i64 (w64 (e_11 + 1))), (.int .i64 (w64 (p_n - 1)))]) hF hS rfl (wanted_t hF rfl rfl rfl hc5) Tryz.func65 (by kernel_rfl) rfl rfl rfl (c_spec_l1In e_9 (w64 (e_11 + 1)) (w64 (p_n - 1)) t_13 ht_13 _ m hS.vis) ?_
      rintro a w _ rfl hF hS
      refine e_pg (v := (.bool (!t_13))) 23 hF rfl (ex_not rfl) (wanted_t hF rfl rfl rfl hc5) rfl (by kernel_rfl) (by kernel_rfl) (by kernel_rfl) fun a hF => e_p (v := (.bool (!t_13))) 24 hF rfl (ex_pick_f rfl rfl hc5) rfl rfl (by kernel_rfl) (by kernel_rfl) (by kernel_rfl) fun a hF => e_end (by kernel_rfl) (n_jn ?_) _
      obtain rfl := someI hj3
      exact ⟨hF.sub ⟨rfl, rfl, rfl, rfl, rfl, rfl, trivial⟩, hS⟩
     ·have hj3 := cond_t hc5 hj3
      refine e_skipP 13 hF rfl (wanted_f hF rfl rfl rfl hc5 rfl) rfl (by kernel_rfl) (by kernel_rfl) (by kernel_rfl) fun a hF => e_skipP 14 hF rfl (wanted_f hF rfl rfl rfl hc5 rfl) rfl (by kernel_rfl) (by kernel_rfl) (by kernel_rfl) fun a hF => e_skipP 15 hF rfl (wanted_f hF rfl rfl rfl hc5 rfl) rfl (by kernel_rfl) (by kernel_rfl) (by kernel_rfl) fun a hF => e_skipP 16 hF rfl (wanted_f hF rfl rfl rfl hc5 rfl) rfl (by kernel_rfl) (by kernel_rfl) (by kernel_rfl) fun a hF => e_skipP 17 hF rfl (wanted_f hF rfl rfl rfl hc5 rfl) rfl (by kernel_rfl) (by kernel_rfl) (by kernel_rfl) fun a hF => e_skipP 18 hF rfl (wanted_f hF rfl rfl rfl hc5 rfl) rfl (by kernel_rfl) (by kernel_rfl) (by kernel_rfl) fun a hF => e_skipP 19 hF rfl (wanted_f hF rfl rfl rfl hc5 rfl) rfl (by kernel_rfl) (by kernel_rfl) (by kernel_rfl) fun a hF => e_skipP 20 hF rfl (wanted_f hF rfl rfl rfl hc5 rfl) rfl (by kernel_rfl) (by kernel_rfl) (by kernel_rfl) fun a hF => e_skipP 21 hF rfl (wanted_f hF rfl rfl rfl hc5 rfl) rfl (by kernel_rfl) (by kernel_rfl) (by kernel_rfl) fun a hF => e_skipP 22 hF rfl (wanted_f hF rfl rfl rfl hc5 rfl) rfl (by kernel_rfl) (by kernel_rfl) (by kernel_rfl) fun a hF => e_skipP 23 hF rfl (wanted_f hF rfl rfl rfl hc5 rfl) rfl (by kernel_rfl) (by kernel_rfl) (by kernel_rfl) fun a hF => e_p (v := (.bool true)) 24 hF rfl (ex_pick_t rfl rfl hc5) rfl rfl (by kernel_rfl) (by kernel_rfl) (by kernel_rfl) fun a hF => e_end (by kernel_rfl) (n_jn ?_) _
      obtain rfl := someI hj3
      exact ⟨hF.sub ⟨rfl, rfl, rfl, rfl, rfl, rfl, trivial⟩, hS⟩
    ·have hj3 := cond_t hc4 hj3
     refine e_skipP 4 hF rfl (wanted_f hF rfl rfl rfl hc4 rfl) rfl (by kernel_rfl) (by kernel_rfl) (by kernel_rfl) fun a hF => e_skipP 5 hF rfl (wanted_f hF rfl rfl rfl hc4 rfl) rfl (by kernel_rfl) (by kernel_rfl) (by kernel_rfl) fun a hF => e_skipP 6 hF rfl (wanted_f hF rfl rfl rfl hc4 rfl) rfl (by kernel_rfl) (by kernel_rfl) (by kernel_rfl) fun a hF => e_skipP 7 hF rfl (wanted_f hF rfl rfl rfl hc4 rfl) rfl (by kernel_rfl) (by kernel_rfl) (by kernel_rfl) fun a hF => e_skipP 8 hF rfl (wanted_f hF rfl rfl rfl hc4 rfl) rfl (by kernel_rfl) (by kernel_rfl) (by kernel_rfl) fun a hF => e_skipP 9 hF rfl (wanted_f hF rfl rfl rfl hc4 rfl) rfl (by kernel_rfl) (by kernel_rfl) (by kernel_rfl) fun a hF => e_skipP 10 hF rfl (wanted_f hF rfl rfl rfl hc4 rfl) rfl (by kernel_rfl) (by kernel_rfl) (by kernel_rfl) fun a hF => e_p (v := (.bool true)) 11 hF rfl (ex_pick_t rfl rfl hc4) rfl rfl (by kernel_rfl) (by kernel_rfl) (by kernel_rfl) fun a hF => e_p (v := (.bool true)) 12 hF rfl (ex_move rfl) rfl rfl (by kernel_rfl) (by kernel_rfl) (by kernel_rfl) fun a hF => e_skipP 13 hF rfl (wanted_f hF rfl rfl rfl rfl rfl) rfl (by kernel_rfl) (by kernel_rfl) (by kernel_rfl) fun a hF => e_skipP 14 hF rfl (wanted_f hF rfl rfl rfl rfl rfl) rfl (by kernel_rfl) (by kernel_rfl) (by kernel_rfl) fun a hF => e_skipP 15 hF rfl (wanted_f hF rfl rfl rfl rfl rfl) rfl (by kernel_rfl) (by kernel_rfl) (by kernel_rfl) fun a hF => e_skipP 16 hF rfl (wanted_f hF rfl rfl rfl rfl rfl) rfl (by kernel_rfl) (by kernel_rfl) (by kernel_rfl) fun a hF => e_skipP 17 hF rfl (wanted_f hF rfl rfl rfl rfl rfl) rfl (by kernel_rfl) (by kernel_rfl) (by kernel_rfl) fun a hF => e_skipP 18 hF rfl (wanted_f hF rfl rfl rfl rfl rfl) rfl (by kernel_rfl) (by kernel_rfl) (by kernel_rfl) fun a hF => e_skipP 19 hF rfl (wanted_f hF rfl rfl rfl rfl rfl) rfl (by kernel_rfl) (by kernel_rfl) (by kernel_rfl) fun a hF => e_skipP 20 hF rfl (wanted_f hF rfl rfl rfl rfl rfl) rfl (by kernel_rfl) (by kernel_rfl) (by kernel_rfl) fun a hF => e_skipP 21 hF rfl (wanted_f hF rfl rfl rfl rfl rfl) rfl (by kernel_rfl) (by kernel_rfl) (by kernel_rfl) fun a hF => e_skipP 22 hF rfl (wanted_f hF rfl rfl rfl rfl rfl) rfl (by kernel_rfl) (by kernel_rfl) (by kernel_rfl) fun a hF => e_skipP 23 hF rfl (wanted_f hF rfl rfl rfl rfl rfl) rfl (by kernel_rfl) (by kernel_rfl) (by kernel_rfl) fun a hF => e_p (v := (.bool true)) 24 hF rfl (ex_pick_t rfl rfl rfl) rfl rfl (by kernel_rfl) (by kernel_rfl) (by kernel_rfl) fun a hF => e_end (by kernel_rfl) (n_jn ?_) _
     obtain rfl := someI hj3
     exact ⟨hF.sub ⟨rfl, rfl, rfl, rfl, rfl, rfl, trivial⟩, hS⟩
   ·rintro a w ⟨hF, hS⟩
    refine n_sq ?_
    rcases bcase (t_14) with hc6 | hc6
    ·have hb1 := cond_f hc6 hb1
     refine q_cond_f hF rfl hc6 (q_skipc (n_ib (n_sq (q_region (q_x (v := (.int .i64 (w64 (t_2 + 1)))) hF hS (ex_ibin rfl rfl rfl) rfl rfl fun a hF => q_x (v := (.int .i64 (w64 (t_2 + 1)))) hF hS (ex_move rfl) rfl rfl fun a hF => q_end ?_)))))
     obtain rfl := someI hb1
     exact ⟨rfl, hF.sub ⟨rfl, rfl, rfl, rfl, rfl, trivial⟩, hS⟩
    ·have hb1 := cond_t hc6 hb1
     refine q_cond_t hF rfl hc6 (q_seq (q_region (q_x (v := (.bool false)) hF hS (ex_assign rfl) rfl rfl fun a hF => q_end (n_sq (q_ret (r_ib (r_sq ?_)))))))
     obtain rfl := someI hb1
     refine ⟨nofun, .inr fun ho => ?_⟩
     subst ho
     refine r_ib (r_sq ?_)
     obtain rfl := someI hr
     exact ret_of hF hS rfl (.tmp rfl .nil) rfl
 ·rintro e a w ⟨rfl, rfl, hF, hS⟩
  refine x_ib (n_sq ?_)
  refine q_seq (q_region (q_x (v := s1.v) hF hS (ex_move rfl) rfl rfl fun a hF => q_x (v := (.int .i64 (goLen p_pairs))) hF hS (ex_len Tryz.underlying29 rfl h1.len) rfl rfl fun a hF => q_x (v := (.bool (decide ((goLen p_pairs) ≤ 20)))) hF hS (ex_ibin rfl rfl rfl) rfl rfl fun a hF => q_x (v := (.bool (decide ((goLen p_pairs) ≤ 20)))) hF hS (ex_assign rfl) rfl rfl fun a hF => q_end (n_sq (q_ret ?_))))
  obtain rfl := someI hr
  exact ret_of hF hS rfl (.tmp rfl .nil) rfl

theorem c_spec_swOwn (p_l : List impl_Record) (r : (List impl_Record)) (hr : spec_swOwn p_l = some r) (w0 : World) (m : Mem) (hv : Vis m w0) (s1 : Sl) (h1 : Rd m s1 p_l) :
  Ret Tryz.prog 86 [s1.v] w0 (fun v w => ∃ (m' : Mem) (q0' : Piece) (s0' : Sl), v = s0'.v ∧ MLe [] w0.heap.size m m' ∧ St [] w0 w m' [q0'] ∧ OwnL m' 36 q0' s0' r) := by
 unfold spec_swOwn at hr
 refine ret_start Tryz.func86 rfl 19 rfl rfl m hv fun a hF hS => q_seq (q_region (q_x (v := nilS.v) hF hS (ex_assign rfl) rfl rfl fun a hF => q_end (n_sq (q_seq (q_region (q_x (v := nilS.v) hF hS (ex_assign rfl) rfl rfl fun a hF => q_end (n_sq (q_seq (q_seq (q_region (q_x (v := s1.v) hF hS (ex_move rfl) rfl rfl fun a hF => q_x (v := (.int .i64 (goLen p_l))) hF hS (ex_len Tryz.underlying25 rfl h1.len) rfl rfl fun a hF => q_x (v := (.int .i64 0)) hF hS (ex_move rfl) rfl rfl fun a hF => q_end (n_sq (q_block ?_)))))))))))))
 obtain ⟨out_17, hl1, hr⟩ := bindS hr
 refine q_loop (fun (s : (List impl_Record) × Int) a w => ∃ (m5 : Mem), ∃ (q3 : Piece), ∃ (s3 : Sl), ∃ out_2, ∃ t_4, s = (out_2, t_4) ∧ Fr a 19 [(3, s3.v), (6, s1.v), (7, (.int .i64 (goLen p_l))), (8, (.int .i64 t_4))] ∧ St [] w0 w m5 [q3] ∧ MLe [] w0.heap.size m m5 ∧ OwnL m5 36 q3 s3 out_2) (fun (out_17 : (List impl_Record)) e a w => ∃ (m19 : Mem), ∃ (q18 : Piece), ∃ (s18 : Sl), e = .exit 0 ∧ Fr a 19 [(3, s18.v)] ∧ St [] w0 w m19 [q18] ∧ MLe [] w0.heap.size m m19 ∧ OwnL m19 36 q18 s18 out_17) hl1 ⟨m, [], nilS, _, _, rfl, hF.sub ⟨rfl, rfl, rfl, rfl, trivial⟩, hS.sel [0] (by decide), (MLe.refl _ _), (OwnL.nil (α := impl_Record) m 36)⟩ ?_ ?_
 ·clear hF hS
  rintro s a w st ⟨m5, q3, s3, out_2, t_4, rfl, hF, hS, hm5, h3⟩ hb1
  unfold spec_swOwn_l1 at hb1
  refine q_seq (q_region (q_x (v := (.bool (decide (t_4 < (goLen p_l))))) hF hS (ex_ibin rfl rfl rfl) rfl rfl fun a hF => q_end (n_sq (q_seq ?_))))
  rcases bcase (decide (t_4 < (goLen p_l))) with hc2 | hc2
  ·have hb1 := cond_f hc2 hb1
   refine q_cond_f hF rfl hc2 (q_exit (x_sq ?_))
   obtain rfl := someI hb1
   exact ⟨nofun, .inl ⟨m5, q3, s3, rfl, hF.sub ⟨rfl, trivial⟩, hS, hm5, h3⟩⟩
  ·have hb1 := cond_t hc2 hb1
   refine q_cond_t hF rfl hc2 (q_skipc (n_sq (q_seq (q_block (q_seq (q_region ?_))))))
   obtain ⟨e_6, he_6, hb1⟩ := bindS hb1
   obtain ⟨vs7, at7, d7⟩ := (h1.mono hm5.le).at he_6 3 rfl
   obtain ⟨s8, rfl, h8⟩ : ∃ s8 : Sl, vs7 = [(.int .i64 e_6.Area), (.int .i64 e_6.House), s8.v] ∧ Rd m5 s8 e_6.Values := d7
   refine q_x (v := (elP s1 (t_4.toNat * 3))) hF hS (ex_indexAddr Tryz.underlying25 sz36 rfl rfl ((h1.mono hm5.le).idx he_6)) rfl rfl fun a hF => q_x (v := (.agg #[(.int .i64 e_6.Area), (.int .i64 e_6.House), s8.v])) hF hS (ex_loadEA (us := [(.int .i64 e_6.Area), (.int .i64 e_6.House), s8.v]) 0 Tryz.underlying36 rfl sz36 rfl ((at7).at) rfl rfl rfl) rfl rfl fun a hF => q_alloc (cs := [(.int .i64 0), (.int .i64 0), nilS.v]) hF hS rfl rfl rfl fun a w b9 hF hS => q_store (vs := [(.int .i64 e_6.Area), (.int .i64 e_6.House), s8.v]) (cs' := [(.int .i64 e_6.Area), (.int .i64 e_6.House), s8.v]) 0 0 hF hS sz36 rfl rfl rfl rfl rfl rfl rfl rfl fun a w hF hS => q_end (n_sq (q_region (q_x (v := s3.v) hF hS (ex_move rfl) rfl rfl fun a hF => q_x (v := (.agg #[(.int .i64 e_6.Area), (.int .i64 e_6.House), s8.v])) hF hS (ex_loadA (vs := [(.int .i64 e_6.Area), (.int .i64 e_6.House), s8.v]) 0 0 Tryz.underlying36 rfl sz36 rfl rfl rfl rfl) rfl rfl fun a hF => ?_)))
   obtain ⟨t_10, ht_10, hb1⟩ := bindS hb1
   refine q_call (vs := [(.agg #[(.int .i64 e_6.Area), (.int .i64 e_6.House), s8.v])]) hF hS Tryz.func69 (by kernel_rfl) rfl rfl rfl (c_spec_rOwn e_6 t_10 ht_10 _ m5 hS.vis s8 h8) ?_
   rintro a w _ ⟨q12, s12, rfl, hR11, h12⟩ hF hS2
   have hS : St _ _ _ _ [q12, [⟨b9, [(.int .i64 e_6.Area), (.int .i64 e_6.House), s8.v], 36⟩], q3] := hS.joinF hR11
   obtain ⟨m14, hm14, hS, hz14⟩ := hS.freeze
   have h14 := h12.froz hm14.le hz14
   refine q_do rfl fun _ hK => wp_buildSlice' (l := ([t_10] : List impl_Record)) (cells := [(.int .i64 t_10.Area), (.int .i64 t_10.House), s12.v]) hF hS Tryz.underlying25 inf36 rfl rfl (by kernel_rfl) rfl rfl rfl ⟨⟨s12, rfl, h14⟩, rfl⟩ rfl rfl fun a w q13 s13 hF hS h13 _ => hK _ _ ?_
   have hS : St _ _ _ _ [q3, q13, [⟨b9, [(.int .i64 e_6.Area), (.int .i64 e_6.House), s8.v], 36⟩]] := hS.sel [2, 0, 1] (by decide)
   obtain ⟨l_15, hl_15, hb1⟩ := bindS hb1
   refine q_do rfl fun _ hK => wp_append hF hS (h3.mono hm14.le) Tryz.underlying25 inf36 rfl rfl rfl rfl (h13.vw hS (j := 1) rfl) rfl (by decide) hl_15 rfl fun a w q16 s16 hF hS h16 => hK _ _ (q_x (v := s16.v) hF hS (ex_assign rfl) rfl rfl fun a hF => q_end (n_ib (n_sq (q_region (q_x (v := (.int .i64 (w64 (t_4 + 1)))) hF hS (ex_ibin rfl rfl rfl) rfl rfl fun a hF => q_x (v := (.int .i64 (w64 (t_4 + 1)))) hF hS (ex_move rfl) rfl rfl fun a hF => q_end ?_)))))
   obtain rfl := someI hb1
   exact ⟨rfl, m14, q16, s16, _, _, rfl, hF.sub ⟨rfl, rfl, rfl, rfl, trivial⟩, hS.mask [true, false, false], (hm5.trans hm14), h16⟩
 ·rintro e a w ⟨m19, q18, s18, rfl, hF, hS, hm19, h18⟩
  refine x_ib (n_sq ?_)
  refine q_seq (q_region (q_x (v := s18.v) hF hS (ex_move rfl) rfl rfl fun a hF => q_x (v := s18.v) hF hS (ex_assign rfl) rfl rfl fun a hF => q_end (n_sq (q_ret ?_))))
  obtain rfl := someI hr
  exact ret_of hF hS rfl (.tmp rfl .nil) ⟨m19, q18, s18, rfl, hm19, hS.sel [0] (by decide), h18⟩

theorem c_spec_swApply (p_l : List impl_Record) (p_pairs : List (List Int)) (r : (List impl_Record)) (hr : spec_swApply p_l p_pairs = some r) (w0 : World) (m : Mem) (hv : Vis m w0) (s1 : Sl) (h1 : Rd m s1 p_l) (s2 : Sl) (h2 : Rd m s2 p_pairs) :
  Ret Tryz.prog 64 [s1.v, s2.v] w0 (fun v w => ∃ (m' : Mem) (q0' : Piece) (s0' : Sl), v = s0'.v ∧ MLe [] w0.heap.size m m' ∧ St [] w0 w m' [q0'] ∧ OwnL m' 36 q0' s0' r) := by
 unfold spec_swApply at hr
 refine ret_start Tryz.func64 rfl 56 rfl rfl m hv fun a hF hS => q_seq (q_region (q_x (v := nilS.v) hF hS (ex_assign rfl) rfl rfl fun a hF => q_end (n_sq (q_seq (q_region (q_x (v := s1.v) hF hS (ex_move rfl) rfl rfl fun a hF => ?_))))))
 obtain ⟨t_3, ht_3, hr⟩ := bindS hr
 refine q_call (vs := [s1.v]) hF hS Tryz.func86 (by kernel_rfl) rfl rfl rfl (c_spec_swOwn p_l t_3 ht_3 _ m hS.vis s1 h1) ?_
 have hT := hS
 rintro a w _ ⟨m4, q5, s5, rfl, hm4, hR4, h5⟩ hF hS2
 have hS : St _ _ _ _ [q5] := hS.join hR4 hm4
 have hm4 := MLe.weakX (O0 := []) hT hm4
 refine q_x (v := s5.v) hF hS (ex_assign rfl) rfl rfl fun a hF => q_end (n_sq (q_seq (q_seq (q_region (q_x (v := s2.v) hF hS (ex_move rfl) rfl rfl fun a hF => q_x (v := (.int .i64 (goLen p_pairs))) hF hS (ex_len Tryz.underlying29 rfl (h2.mono hm4.le).len) rfl rfl fun a hF => q_x (v := (.int .i64 0)) hF hS (ex_move rfl) rfl rfl fun a hF => q_end (n_sq (q_block ?_)))))))
 obtain ⟨out_40, hl1, hr⟩ := bindS hr
 refine q_loop (fun (s : (List impl_Record) × Int) a w => ∃ (q7 : Piece), ∃ out_6, ∃ t_8, s = (out_6, t_8) ∧ Fr a 56 [(5, s5.v), (12, s2.v), (13, (.int .i64 (goLen p_pairs))), (14, (.int .i64 t_8))] ∧ St [] w0 w m4 [q7] ∧ OwnL m4 36 q7 s5 out_6) (fun (out_40 : (List impl_Record)) e a w => ∃ (q41 : Piece), e = .exit 0 ∧ Fr a 56 [(5, s5.v)] ∧ St [] w0 w m4 [q41] ∧ OwnL m4 36 q41 s5 out_40) hl1 ⟨q5, _, _, rfl, hF.sub ⟨rfl, rfl, rfl, rfl, trivial⟩, hS, h5⟩ ?_ ?_
 ·clear hF hS
  rintro s a w st ⟨q7, out_6, t_8, rfl, hF, hS, h7⟩ hb1
  unfold spec_swApply_l1 at hb1
  refine q_seq (q_region (q_x (v := (.bool (decide (t_8 < (goLen p_pairs))))) hF hS (ex_ibin rfl rfl rfl) rfl rfl fun a hF => q_end (n_sq (q_seq ?_))))
  rcases bcase (decide (t_8 < (goLen p_pairs))) with hc2 | hc2
  ·have hb1 := cond_f hc2 hb1
   refine q_cond_f hF rfl hc2 (q_exit (x_sq ?_))
   obtain rfl := someI hb1
   exact ⟨nofun, .inl ⟨q7, rfl, hF.sub ⟨rfl, trivial⟩, hS, h7⟩⟩
  ·have hb1 := cond_t hc2 hb1
   refine q_cond_t hF rfl hc2 (q_skipc (n_sq (q_seq (q_block (q_seq (q_region ?_))))))
   obtain ⟨e_9, he_9, hb1⟩ := bindS hb1
   obtain ⟨vs10, at10, d10⟩ := (h2.mono hm4.le).at he_9 1 rfl
   obtain ⟨s11, rfl, h11⟩ : ∃ s11 : Sl, vs10 = [s11.v] ∧ Rd m4 s11 e_9 := d10
   refine q_x (v := (elP s2 (t_8.toNat * 1))) hF hS (ex_indexAddr Tryz.underlying29 sz26 rfl rfl ((h2.mono hm4.le).idx he_9)) rfl rfl fun a hF => q_x (v := s11.v) hF hS (ex_loadE1 0 Tryz.underlying26 rfl rfl ((at10).at) rfl rfl) rfl rfl fun a hF => q_x (v := s11.v) hF hS (ex_assign rfl) rfl rfl fun a hF => q_end (n_sq (q_seq ?_))
   obtain ⟨j3, hj3, hb1⟩ := bindS hb1
   refine q_join (fun a w => ∃ b23, ∃ b22, ∃ (s25 : Sl), ∃ (s27 : Sl), ∃ b_24, ∃ a_26, j3 = (b_24, a_26) ∧ Fr a 56 [(5, s5.v), (7, s11.v), (8, (.pointer (some ⟨b22, 0, none⟩))), (9, (.pointer (some ⟨b23, 0, none⟩))), (12, s2.v), (13, (.int .i64 (goLen p_pairs))), (14, (.int .i64 t_8))] ∧ St [] w0 w m4 [q7, [⟨b23, [(.int .i64 b_24.Area), (.int .i64 b_24.House), s25.v], 36⟩], [⟨b22, [(.int .i64 a_26.Area), (.int .i64 a_26.House), s27.v], 36⟩]] ∧ Rd m4 s25 b_24.Values ∧ Rd m4 s27 a_26.Values) ?_ ?_
   ·refine e_region ⟨[14, 15], []⟩ mixed fun w' hw' => ?_
    have hS := hS.below hw'
    refine e_p (v := s5.v) 0 hF rfl (ex_move rfl) rfl rfl (by kernel_rfl) (by kernel_rfl) (by kernel_rfl) fun a hF => e_p (v := s11.v) 1 hF rfl (ex_move rfl) rfl rfl (by kernel_rfl) (by kernel_rfl) (by kernel_rfl) fun a hF => ?_
    obtain ⟨e_12, he_12, hj3⟩ := bindS hj3
    obtain ⟨vs13, at13, d13⟩ := h11.at he_12 1 rfl
    obtain rfl : vs13 = [(.int .i64 e_12)] := d13
    refine e_p (v := (elP s11 ((0 : Int).toNat * 1))) 2 hF rfl (ex_indexAddr Tryz.underlying26 sz3 rfl rfl (h11.idx he_12)) rfl rfl (by kernel_rfl) (by kernel_rfl) (by kernel_rfl) fun a hF => e_x (v := (.int .i64 e_12)) 3 hF hS rfl (ex_loadE1 0 Tryz.underlying3 rfl rfl ((at13).at) rfl rfl) rfl rfl (by kernel_rfl) (by kernel_rfl) (by kernel_rfl) (by kernel_rfl) fun a hF => ?_
    obtain ⟨e_14, he_14, hj3⟩ := bindS hj3
    obtain ⟨vs15, at15, d15⟩ := h7.at he_14 3 rfl
    obtain ⟨s16, rfl, h16⟩ : ∃ s16 : Sl, vs15 = [(.int .i64 e_14.Area), (.int .i64 e_14.House), s16.v] ∧ Rd m4 s16 e_14.Values := d15
    refine e_p (v := (elP s5 (e_12.toNat * 3))) 4 hF rfl (ex_indexAddr Tryz.underlying25 sz36 rfl rfl (h7.idx he_14)) rfl rfl (by kernel_rfl) (by kernel_rfl) (by kernel_rfl) fun a hF => e_x (v := (.agg #[(.int .i64 e_14.Area), (.int .i64 e_14.House), s16.v])) 5 hF hS rfl (ex_loadEA (us := [(.int .i64 e_14.Area), (.int .i64 e_14.House), s16.v]) 0 Tryz.underlying36 rfl sz36 rfl (at15.at 0 rfl) rfl rfl rfl) rfl rfl (by kernel_rfl) (by kernel_rfl) (by kernel_rfl) (by kernel_rfl) fun a hF => e_p (v := s5.v) 6 hF rfl (ex_move rfl) rfl rfl (by kernel_rfl) (by kernel_rfl) (by kernel_rfl) fun a hF => e_p (v := s11.v) 7 hF rfl (ex_move rfl) rfl rfl (by kernel_rfl) (by kernel_rfl) (by kernel_rfl) fun a hF => ?_
    obtain ⟨e_17, he_17, hj3⟩ := bindS hj3
    obtain ⟨vs18, at18, d18⟩ := h11.at he_17 1 rfl
    obtain rfl : vs18 = [(.int .i64 e_17)] := d18
    refine e_p (v := (elP s11 ((1 : Int).toNat * 1))) 8 hF rfl (ex_indexAddr Tryz.underlying26 sz3 rfl rfl (h11.idx he_17)) rfl rfl (by kernel_rfl) (by kernel_rfl) (by kernel_rfl) fun a hF => ?_
    obtain ⟨e_19, he_19, hj3⟩ := bindS hj3
    refine e_all [9, 12, 13] (by kernel_rfl) rfl ⟨?_, ?_, ?_, trivial⟩
    ·refine e_lx (v := (.int .i64 e_17)) hF hS rfl (ex_loadE1 0 Tryz.underlying3 rfl rfl ((at18).at) rfl rfl) rfl rfl fun a hF => ?_
     obtain ⟨vs20, at20, d20⟩ := h7.at he_19 3 rfl
     obtain ⟨s21, rfl, h21⟩ : ∃ s21 : Sl, vs20 = [(.int .i64 e_19.Area), (.int .i64 e_19.House), s21.v] ∧ Rd m4 s21 e_19.Values := d20
     refine e_p (v := (elP s5 (e_17.toNat * 3))) 10 hF rfl (ex_indexAddr Tryz.underlying25 sz36 rfl rfl (h7.idx he_19)) rfl rfl (by kernel_rfl) (by kernel_rfl) (by kernel_rfl) fun a hF => e_all [11, 12, 13] (by kernel_rfl) rfl ⟨?_, ?_, ?_, trivial⟩
     ·refine e_lx (v := (.agg #[(.int .i64 e_19.Area), (.int .i64 e_19.House), s21.v])) hF hS rfl (ex_loadEA (us := [(.int .i64 e_19.Area), (.int .i64 e_19.House), s21.v]) 0 Tryz.underlying36 rfl sz36 rfl (at20.at 0 rfl) rfl rfl rfl) rfl rfl fun a hF => e_all [12, 13] (by kernel_rfl) rfl ⟨?_, ?_, trivial⟩
      ·refine e_alloc (cs := [(.int .i64 0), (.int .i64 0), nilS.v]) hF hS rfl rfl rfl rfl fun a w b22 hF hS => e_one 13 (by kernel_rfl) (e_alloc (cs := [(.int .i64 0), (.int .i64 0), nilS.v]) hF hS rfl rfl rfl rfl fun a w b23 hF hS => e_one 14 (by kernel_rfl) (e_store (vs := [(.int .i64 e_14.Area), (.int .i64 e_14.House), s16.v]) (cs' := [(.int .i64 e_14.Area), (.int .i64 e_14.House), s16.v]) 1 0 hF hS rfl rfl sz36 rfl rfl rfl rfl rfl rfl rfl rfl fun a w hF hS => ⟨kpN, ?_⟩))
       refine e_one 15 (by kernel_rfl) (e_store (vs := [(.int .i64 e_19.Area), (.int .i64 e_19.House), s21.v]) (cs' := [(.int .i64 e_19.Area), (.int .i64 e_19.House), s21.v]) 0 0 hF hS rfl rfl sz36 rfl rfl rfl rfl rfl rfl rfl rfl fun a w hF hS => ⟨kpN, ?_⟩)
       refine e_end (by kernel_rfl) (n_jn ?_) _
       obtain rfl := someI hj3
       exact ⟨b23, b22, s21, s16, _, _, rfl, hF.sub ⟨rfl, rfl, rfl, rfl, rfl, rfl, rfl, trivial⟩, hS.sel [2, 0, 1] (by decide), h21, h16⟩
      ·refine e_alloc (cs := [(.int .i64 0), (.int .i64 0), nilS.v]) hF hS rfl rfl rfl rfl fun a w b23 hF hS => e_one 12 (by kernel_rfl) (e_alloc (cs := [(.int .i64 0), (.int .i64 0), nilS.v]) hF hS rfl rfl rfl rfl fun a w b22 hF hS => e_one 14 (by kernel_rfl) (e_store (vs := [(.int .i64 e_14.Area), (.int .i64 e_14.House), s16.v]) (cs' := [(.int .i64 e_14.Area), (.int .i64 e_14.House), s16.v]) 0 0 hF hS rfl rfl sz36 rfl rfl rfl rfl rfl rfl rfl rfl fun a w hF hS => ⟨kpN, ?_⟩))
       refine e_one 15 (by kernel_rfl) (e_store (vs := [(.int .i64 e_19.Area), (.int .i64 e_19.House), s21.v]) (cs' := [(.int .i64 e_19.Area), (.int .i64 e_19.House), s21.v]) 1 0 hF hS rfl rfl sz36 rfl rfl rfl rfl rfl rfl rfl rfl fun a w hF hS => ⟨kpN, ?_⟩)
       refine e_end (by kernel_rfl) (n_jn ?_) _
       obtain rfl := someI hj3
       exact ⟨b23, b22, s21, s16, _, _, rfl, hF.sub ⟨rfl, rfl, rfl, rfl, rfl, rfl, rfl, trivial⟩, hS.sel [2, 1, 0] (by decide), h21, h16⟩
     ·refine e_alloc (cs := [(.int .i64 0), (.int .i64 0), nilS.v]) hF hS rfl rfl rfl rfl fun a w b22 hF hS => e_all [11, 13] (by kernel_rfl) rfl ⟨?_, ?_, trivial⟩
      ·refine e_lx (v := (.agg #[(.int .i64 e_19.Area), (.int .i64 e_19.House), s21.v])) hF hS rfl (ex_loadEA (us := [(.int .i64 e_19.Area), (.int .i64 e_19.House), s21.v]) 0 Tryz.underlying36 rfl sz36 rfl (at20.at 1 rfl) rfl rfl rfl) rfl rfl fun a hF => e_one 13 (by kernel_rfl) (e_alloc (cs := [(.int .i64 0), (.int .i64 0), nilS.v]) hF hS rfl rfl rfl rfl fun a w b23 hF hS => e_one 14 (by kernel_rfl) (e_store (vs := [(.int .i64 e_14.Area), (.int .i64 e_14.House), s16.v]) (cs' := [(.int .i64 e_14.Area), (.int .i64 e_14.House), s16.v]) 1 0 hF hS rfl rfl sz36 rfl rfl rfl rfl rfl rfl rfl rfl fun a w hF hS => ⟨kpN, ?_⟩))
       refine e_one 15 (by kernel_rfl) (e_store (vs := [(.int .i64 e_19.Area), (.int .i64 e_19.House), s21.v]) (cs' := [(.int .i64 e_19.Area), (.int .i64 e_19.House), s21.v]) 0 0 hF hS rfl rfl sz36 rfl rfl rfl rfl rfl rfl rfl rfl fun a w hF hS => ⟨kpN, ?_⟩)
       refine e_end (by kernel_rfl) (n_jn ?_) _
       obtain rfl := someI hj3
       exact ⟨b23, b22, s21, s16, _, _, rfl, hF.sub ⟨rfl, rfl, rfl, rfl, rfl, rfl, rfl, trivial⟩, hS.sel [2, 0, 1] (by decide), h21, h16⟩
      ·refine e_alloc (cs := [(.int .i64 0), (.int .i64 0), nilS.v]) hF hS rfl rfl rfl rfl fun a w b23 hF hS => e_all [11, 14] (by kernel_rfl) rfl ⟨?_, ?_, trivial⟩
       ·refine e_lx (v := (.agg #[(.int .i64 e_19.Area), (.int .i64 e_19.House), s21.v])) hF hS rfl (ex_loadEA (us := [(.int .i64 e_19.Area), (.int .i64 e_19.House), s21.v]) 0 Tryz.underlying36 rfl sz36 rfl (at20.at 2 rfl) rfl rfl rfl) rfl rfl fun a hF => e_one 14 (by kernel_rfl) (e_store (vs := [(.int .i64 e_14.Area), (.int .i64 e_14.House), s16.v]) (cs' := [(.int .i64 e_14.Area), (.int .i64 e_14.House), s16.v]) 1 0 hF hS rfl rfl sz36 rfl rfl rfl rfl rfl rfl rfl rfl fun a w hF hS => ⟨kpN, ?_⟩)
        refine e_one 15 (by kernel_rfl) (e_store (vs := [(.int .i64 e_19.Area), (.int .i64 e_19.House), s21.v]) (cs' := [(.int .i64 e_19.Area), (.int .i64 e_19.House), s21.v]) 0 0 hF hS rfl rfl sz36 rfl rfl rfl rfl rfl rfl rfl rfl fun a w hF hS => ⟨kpN, ?_⟩)
        refine e_end (by kernel_rfl) (n_jn ?_) _
        obtain rfl := someI hj3
        exact ⟨b23, b22, s21, s16, _, _, rfl, hF.sub ⟨rfl, rfl, rfl, rfl, rfl, rfl, rfl, trivial⟩, hS.sel [2, 0, 1] (by decide), h21, h16⟩
       ·refine e_store (vs := [(.int .i64 e_14.Area), (.int .i64 e_14.House), s16.v]) (cs' := [(.int .i64 e_14.Area), (.int .i64 e_14.House), s16.v]) 1 0 hF hS rfl rfl sz36 rfl rfl rfl rfl rfl rfl rfl rfl fun a w hF hS => ⟨kpN, ?_⟩
        refine e_x (v := (.agg #[(.int .i64 e_19.Area), (.int .i64 e_19.House), s21.v])) 11 hF hS rfl (ex_loadEA (us := [(.int .i64 e_19.Area), (.int .i64 e_19.House), s21.v]) 0 Tryz.underlying36 rfl sz36 rfl (at20.at 2 rfl) rfl rfl rfl) rfl rfl (by kernel_rfl) (by kernel_rfl) (by kernel_rfl) (by kernel_rfl) fun a hF => e_one 15 (by kernel_rfl) (e_store (vs := [(.int .i64 e_19.Area), (.int .i64 e_19.House), s21.v]) (cs' := [(.int .i64 e_19.Area), (.int .i64 e_19.House), s21.v]) 0 0 hF hS rfl rfl sz36 rfl rfl rfl rfl rfl rfl rfl rfl fun a w hF hS => ⟨kpN, ?_⟩)
        refine e_end (by kernel_rfl) (n_jn ?_) _
        obtain rfl := someI hj3
        exact ⟨b23, b22, s21, s16, _, _, rfl, hF.sub ⟨rfl, rfl, rfl, rfl, rfl, rfl, rfl, trivial⟩, hS.sel [2, 0, 1] (by decide), h21, h16⟩
     ·refine e_alloc (cs := [(.int .i64 0), (.int .i64 0), nilS.v]) hF hS rfl rfl rfl rfl fun a w b23 hF hS => e_all [11, 12] (by kernel_rfl) rfl ⟨?_, ?_, trivial⟩
      ·refine e_lx (v := (.agg #[(.int .i64 e_19.Area), (.int .i64 e_19.House), s21.v])) hF hS rfl (ex_loadEA (us := [(.int .i64 e_19.Area), (.int .i64 e_19.House), s21.v]) 0 Tryz.underlying36 rfl sz36 rfl (at20.at 1 rfl) rfl rfl rfl) rfl rfl fun a hF => e_one 12 (by kernel_rfl) (e_alloc (cs := [(.int .i64 0), (.int .i64 0), nilS.v]) hF hS rfl rfl rfl rfl fun a w b22 hF hS => e_one 14 (by kernel_rfl) (e_store (vs := [(.int .i64 e_14.Area), (.int .i64 e_14.House), s16.v]) (cs' := [(.int .i64 e_14.Area), (.int .i64 e_14.House), s16.v]) 0 0 hF hS rfl rfl sz36 rfl rfl rfl rfl rfl rfl rfl rfl fun a w hF hS => ⟨kpN, ?_⟩))
       refine e_one 15 (by kernel_rfl) (e_store (vs := [(.int .i64 e_19.Area), (.int .i64 e_19.House), s21.v]) (cs' := [(.int .i64 e_19.Area), (.int .i64 e_19.House), s21.v]) 1 0 hF hS rfl rfl sz36 rfl rfl rfl rfl rfl rfl rfl rfl fun a w hF hS => ⟨kpN, ?_⟩)
       refine e_end (by kernel_rfl) (n_jn ?_) _
       obtain rfl := someI hj3
       exact ⟨b23, b22, s21, s16, _, _, rfl, hF.sub ⟨rfl, rfl, rfl, rfl, rfl, rfl, rfl, trivial⟩, hS.sel [2, 1, 0] (by decide), h21, h16⟩
      ·refine e_alloc (cs := [(.int .i64 0), (.int .i64 0), nilS.v]) hF hS rfl rfl rfl rfl fun a w b22 hF hS => e_all [11, 14] (by kernel_rfl) rfl ⟨?_, ?_, trivial⟩
       ·refine e_lx (v := (.agg #[(.int .i64 e_19.Area), (.int .i64 e_19.House), s21.v])) hF hS rfl (ex_loadEA (us := [(.int .i64 e_19.Area), (.int .i64 e_19.House), s21.v]) 0 Tryz.underlying36 rfl sz36 rfl (at20.at 2 rfl) rfl rfl rfl) rfl rfl fun a hF => e_one 14 (by kernel_rfl) (e_store (vs := [(.int .i64 e_14.Area), (.int .i64 e_14.House), s16.v]) (cs' := [(.int .i64 e_14.Area), (.int .i64 e_14.House), s16.v]) 0 0 hF hS rfl rfl sz36 rfl rfl rfl rfl rfl rfl rfl rfl fun a w hF hS => ⟨kpN, ?_⟩)
        refine e_one 15 (by kernel_rfl) (e_store (vs := [(.int .i64 e_19.Area), (.int .i64 e_19.House), s21.v]) (cs' := [(.int .i64 e_19.Area), (.int .i64 e_19.House), s21.v]) 1 0 hF hS rfl rfl sz36 rfl rfl rfl rfl rfl rfl rfl rfl fun a w hF hS => ⟨kpN, ?_⟩)
        refine e_end (by kernel_rfl) (n_jn ?_) _
        obtain rfl := someI hj3
        exact ⟨b23, b22, s21, s16, _, _, rfl, hF.sub ⟨rfl, rfl, rfl, rfl, rfl, rfl, rfl, trivial⟩, hS.sel [2, 1, 0] (by decide), h21, h16⟩
       ·refine e_store (vs := [(.int .i64 e_14.Area), (.int .i64 e_14.House), s16.v]) (cs' := [(.int .i64 e_14.Area), (.int .i64 e_14.House), s16.v]) 0 0 hF hS rfl rfl sz36 rfl rfl rfl rfl rfl rfl rfl rfl fun a w hF hS => ⟨kpN, ?_⟩
        refine e_x (v := (.agg #[(.int .i64 e_19.Area), (.int .i64 e_19.House), s21.v])) 11 hF hS rfl (ex_loadEA (us := [(.int .i64 e_19.Area), (.int .i64 e_19.House), s21.v]) 0 Tryz.underlying36 rfl sz36 rfl (at20.at 2 rfl) rfl rfl rfl) rfl rfl (by kernel_rfl) (by kernel_rfl) (by kernel_rfl) (by kernel_rfl) fun a hF => e_one 15 (by kernel_rfl) (e_store (vs := [(.int .i64 e_19.Area), (.int .i64 e_19.House), s21.v]) (cs' := [(.int .i64 e_19.Area), (.int .i64 e_19.House), s21.v]) 1 0 hF hS rfl rfl sz36 rfl rfl rfl rfl rfl rfl rfl rfl fun a w hF hS => ⟨kpN, ?_⟩)
        refine e_end (by kernel_rfl) (n_jn ?_) _
        obtain rfl := someI hj3
        exact ⟨b23, b22, s21, s16, _, _, rfl, hF.sub ⟨rfl, rfl, rfl, rfl, rfl, rfl, rfl, trivial⟩, hS.sel [2, 1, 0] (by decide), h21, h16⟩
    ·refine e_alloc (cs := [(.int .i64 0), (.int .i64 0), nilS.v]) hF hS rfl rfl rfl rfl fun a w b22 hF hS => e_all [9, 13] (by kernel_rfl) rfl ⟨?_, ?_, trivial⟩
     ·refine e_lx (v := (.int .i64 e_17)) hF hS rfl (ex_loadE1 0 Tryz.underlying3 rfl rfl ((at18).at) rfl rfl) rfl rfl fun a hF => ?_
      obtain ⟨vs20, at20, d20⟩ := h7.at he_19 3 rfl
      obtain ⟨s21, rfl, h21⟩ : ∃ s21 : Sl, vs20 = [(.int .i64 e_19.Area), (.int .i64 e_19.House), s21.v] ∧ Rd m4 s21 e_19.Values := d20
      refine e_p (v := (elP s5 (e_17.toNat * 3))) 10 hF rfl (ex_indexAddr Tryz.underlying25 sz36 rfl rfl (h7.idx he_19)) rfl rfl (by kernel_rfl) (by kernel_rfl) (by kernel_rfl) fun a hF => e_all [11, 13] (by kernel_rfl) rfl ⟨?_, ?_, trivial⟩
      ·refine e_lx (v := (.agg #[(.int .i64 e_19.Area), (.int .i64 e_19.House), s21.v])) hF hS rfl (ex_loadEA (us := [(.int .i64 e_19.Area), (.int .i64 e_19.House), s21.v]) 0 Tryz.underlying36 rfl sz36 rfl (at20.at 1 rfl) rfl rfl rfl) rfl rfl fun a hF => e_one 13 (by kernel_rfl) (e_alloc (cs := [(.int .i64 0), (.int .i64 0), nilS.v]) hF hS rfl rfl rfl rfl fun a w b23 hF hS => e_one 14 (by kernel_rfl) (e_store (vs := [(.int .i64 e_14.Area), (.int .i64 e_14.House), s16.v]) (cs' := [(.int .i64 e_14.Area), (.int .i64 e_14.House), s16.v]) 1 0 hF hS rfl rfl sz36 rfl rfl rfl rfl rfl rfl rfl rfl fun a w hF hS => ⟨kpN, ?_⟩))
       refine e_one 15 (by kernel_rfl) (e_store (vs := [(.int .i64 e_19.Area), (.int .i64 e_19.House), s21.v]) (cs' := [(.int .i64 e_19.Area), (.int .i64 e_19.House), s21.v]) 0 0 hF hS rfl rfl sz36 rfl rfl rfl rfl rfl rfl rfl rfl fun a w hF hS => ⟨kpN, ?_⟩)
       refine e_end (by kernel_rfl) (n_jn ?_) _
       obtain rfl := someI hj3
       exact ⟨b23, b22, s21, s16, _, _, rfl, hF.sub ⟨rfl, rfl, rfl, rfl, rfl, rfl, rfl, trivial⟩, hS.sel [2, 0, 1] (by decide), h21, h16⟩
      ·refine e_alloc (cs := [(.int .i64 0), (.int .i64 0), nilS.v]) hF hS rfl rfl rfl rfl fun a w b23 hF hS => e_all [11, 14] (by kernel_rfl) rfl ⟨?_, ?_, trivial⟩
       ·refine e_lx (v := (.agg #[(.int .i64 e_19.Area), (.int .i64 e_19.House), s21.v])) hF hS rfl (ex_loadEA (us := [(.int .i64 e_19.Area), (.int .i64 e_19.House), s21.v]) 0 Tryz.underlying36 rfl sz36 rfl (at20.at 2 rfl) rfl rfl rfl) rfl rfl fun a hF => e_one 14 (by kernel_rfl) (e_store (vs := [(.int .i64 e_14.Area), (.int .i64 e_14.House), s16.v]) (cs' := [(.int .i64 e_14.Area), (.int .i64 e_14.House), s16.v]) 1 0 hF hS rfl rfl sz36 rfl rfl rfl rfl rfl rfl rfl rfl fun a w hF hS => ⟨kpN, ?_⟩)
        refine e_one 15 (by kernel_rfl) (e_store (vs := [(.int .i64 e_19.Area), (.int .i64 e_19.House), s21.v]) (cs' := [(.int .i64 e_19.Area), (.int .i64 e_19.House), s21.v]) 0 0 hF hS rfl rfl sz36 rfl rfl rfl rfl rfl rfl rfl rfl fun a w hF hS => ⟨kpN, ?_⟩)
        refine e_end (by kernel_rfl) (n_jn ?_) _
        obtain rfl := someI hj3
        exact ⟨b23, b22, s21, s16, _, _, rfl, hF.sub ⟨rfl, rfl, rfl, rfl, rfl, rfl, rfl, trivial⟩, hS.sel [2, 0, 1] (by decide), h21, h16⟩
       ·refine e_store (vs := [(.int .i64 e_14.Area), (.int .i64 e_14.House), s16.v]) (cs' := [(.int .i64 e_14.Area), (.int .i64 e_14.House), s16.v]) 1 0 hF hS rfl rfl sz36 rfl rfl rfl rfl rfl rfl rfl rfl fun a w hF hS => ⟨kpN, ?_⟩
        refine e_x (v := (.agg #[(.int .i64 e_19.Area), (.int .i64 e_19.House), s21.v])) 11 hF hS rfl (ex_loadEA (us := [(.int .i64 e_19.Area), (.int .i64 e_19.House), s21.v]) 0 Tryz.underlying36 rfl sz36 rfl (at20.at 2 rfl) rfl rfl rfl) rfl rfl (by kernel_rfl) (by kernel_rfl) (by kernel_rfl) (by kernel_rfl) fun a hF => e_one 15 (by kernel_rfl) (e_store (vs := [(.int .i64 e_19.Area), (.int .i64 e_19.House), s21.v]) (cs' := [(.int .i64 e_19.Area), (.int .i64 e_19.House), s21.v]) 0 0 hF hS rfl rfl sz36 rfl rfl rfl rfl rfl rfl rfl rfl fun a w hF hS => ⟨kpN, ?_⟩)
        refine e_end (by kernel_rfl) (n_jn ?_) _
        obtain rfl := someI hj3
        exact ⟨b23, b22, s21, s16, _, _, rfl, hF.sub ⟨rfl, rfl, rfl, rfl, rfl, rfl, rfl, trivial⟩, hS.sel [2, 0, 1] (by decide), h21, h16⟩
     ·refine e_alloc (cs := [(.int .i64 0), (.int .i64 0), nilS.v]) hF hS rfl rfl rfl rfl fun a w b23 hF hS => e_all [9, 14] (by kernel_rfl) rfl ⟨?_, ?_, trivial⟩
      ·refine e_lx (v := (.int .i64 e_17)) hF hS rfl (ex_loadE1 0 Tryz.underlying3 rfl rfl ((at18).at) rfl rfl) rfl rfl fun a hF => ?_
       obtain ⟨vs20, at20, d20⟩ := h7.at he_19 3 rfl
       obtain ⟨s21, rfl, h21⟩ : ∃ s21 : Sl, vs20 = [(.int .i64 e_19.Area), (.int .i64 e_19.House), s21.v] ∧ Rd m4 s21 e_19.Values := d20
       refine e_p (v := (elP s5 (e_17.toNat * 3))) 10 hF rfl (ex_indexAddr Tryz.underlying25 sz36 rfl rfl (h7.idx he_19)) rfl rfl (by kernel_rfl) (by kernel_rfl) (by kernel_rfl) fun a hF => e_all [11, 14] (by kernel_rfl) rfl ⟨?_, ?_, trivial⟩
       ·refine e_lx (v := (.agg #[(.int .i64 e_19.Area), (.int .i64 e_19.House), s21.v])) hF hS rfl (ex_loadEA (us := [(.int .i64 e_19.Area), (.int .i64 e_19.House), s21.v]) 0 Tryz.underlying36 rfl sz36 rfl (at20.at 2 rfl) rfl rfl rfl) rfl rfl fun a hF => e_one 14 (by kernel_rfl) (e_store (vs := [(.int .i64 e_14.Area), (.int .i64 e_14.House), s16.v]) (cs' := [(.int .i64 e_14.Area), (.int .i64 e_14.House), s16.v]) 1 0 hF hS rfl rfl sz36 rfl rfl rfl rfl rfl rfl rfl rfl fun a w hF hS => ⟨kpN, ?_⟩)
        refine e_one 15 (by kernel_rfl) (e_store (vs := [(.int .i64 e_19.Area), (.int .i64 e_19.House), s21.v]) (cs' := [(.int .i64 e_19.Area), (.int .i64 e_19.House), s21.v]) 0 0 hF hS rfl rfl sz36 rfl rfl rfl rfl rfl rfl rfl rfl fun a w hF hS => ⟨kpN, ?_⟩)
        refine e_end (by kernel_rfl) (n_jn ?_) _
        obtain rfl := someI hj3
        exact ⟨b23, b22, s21, s16, _, _, rfl, hF.sub ⟨rfl, rfl, rfl, rfl, rfl, rfl, rfl, trivial⟩, hS.sel [2, 0, 1] (by decide), h21, h16⟩
       ·refine e_store (vs := [(.int .i64 e_14.Area), (.int .i64 e_14.House), s16.v]) (cs' := [(.int .i64 e_14.Area), (.int .i64 e_14.House), s16.v]) 1 0 hF hS rfl rfl sz36 rfl rfl rfl rfl rfl rfl rfl rfl fun a w hF hS => ⟨kpN, ?_⟩
        refine e_x (v := (.agg #[(.int .i64 e_19.Area), (.int .i64 e_19.House), s21.v])) 11 hF hS rfl (ex_loadEA (us := [(.int .i64 e_19.Area), (.int .i64 e_19.House), s21.v]) 0 Tryz.underlying36 rfl sz36 rfl (at20.at 2 rfl) rfl rfl rfl) rfl rfl (by kernel_rfl) (by kernel_rfl) (by kernel_rfl) (by kernel_rfl) fun a hF => e_one 15 (by kernel_rfl) (e_store (vs := [(.int .i64 e_19.Area), (.int .i64 e_19.House), s21.v]) (cs' := [(.int .i64 e_19.Area), (.int .i64 e_19.House), s21.v]) 0 0 hF hS rfl rfl sz36 rfl rfl rfl rfl rfl rfl rfl rfl fun a w hF hS => ⟨kpN, ?_⟩)
        refine e_end (by kernel_rfl) (n_jn ?_) _
        obtain rfl := someI hj3
        exact ⟨b23, b22, s21, s16, _, _, rfl, hF.sub ⟨rfl, rfl, rfl, rfl, rfl, rfl, rfl, trivial⟩, hS.sel [2, 0, 1] (by decide), h21, h16⟩
      ·refine e_store (vs := [(.int .i64 e_14.Area), (.int .i64 e_14.House), s16.v]) (cs' := [(.int .i64 e_14.Area), (.int .i64 e_14.House), s16.v]) 1 0 hF hS rfl rfl sz36 rfl rfl rfl rfl rfl rfl rfl rfl fun a w hF hS => ⟨kpN, ?_⟩
       refine e_x (v := (.int .i64 e_17)) 9 hF hS rfl (ex_loadE1 0 Tryz.underlying3 rfl rfl ((at18).at) rfl rfl) rfl rfl (by kernel_rfl) (by kernel_rfl) (by kernel_rfl) (by kernel_rfl) fun a hF => ?_
       obtain ⟨vs20, at20, d20⟩ := h7.at he_19 3 rfl
       obtain ⟨s21, rfl, h21⟩ : ∃ s21 : Sl, vs20 = [(.int .i64 e_19.Area), (.int .i64 e_19.House), s21.v] ∧ Rd m4 s21 e_19.Values := d20
       refine e_p (v := (elP s5 (e_17.toNat * 3))) 10 hF rfl (ex_indexAddr Tryz.underlying25 sz36 rfl rfl (h7.idx he_19)) rfl rfl (by kernel_rfl) (by kernel_rfl) (by kernel_rfl) fun a hF => e_x (v := (.agg #[(.int .i64 e_19.Area), (.int .i64 e_19.House), s21.v])) 11 hF hS rfl (ex_loadEA (us := [(.int .i64 e_19.Area), (.int .i64 e_19.House), s21.v]) 0 Tryz.underlying36 rfl sz36 rfl (at20.at 2 rfl) rfl rfl rfl) rfl rfl (by kernel_rfl) (by kernel_rfl) (by kernel_rfl) (by kernel_rfl) fun a hF => e_one 15 (by kernel_rfl) (e_store (vs := [(.int .i64 e_19.Area), (.int .i64 e_19.House), s21.v]) (cs' := [(.int .i64 e_19.Area), (.int .i64 e_19.House), s21.v]) 0 0 hF hS rfl rfl sz36 rfl rfl rfl rfl rfl rfl rfl rfl fun a w hF hS => ⟨kpN, ?_⟩)
       refine e_end (by kernel_rfl) (n_jn ?_) _
       obtain rfl := someI hj3
       exact ⟨b23, b22, s21, s16, _, _, rfl, hF.sub ⟨rfl, rfl, rfl, rfl, rfl, rfl, rfl, trivial⟩, hS.sel [2, 0, 1] (by decide), h21, h16⟩
    ·refine e_alloc (cs := [(.int .i64 0), (.int .i64 0), nilS.v]) hF hS rfl rfl rfl rfl fun a w b23 hF hS => e_all [9, 12] (by kernel_rfl) rfl ⟨?_, ?_, trivial⟩
     ·refine e_lx (v := (.int .i64 e_17)) hF hS rfl (ex_loadE1 0 Tryz.underlying3 rfl rfl ((at18).at) rfl rfl) rfl rfl fun a hF => ?_
      obtain ⟨vs20, at20, d20⟩ := h7.at he_19 3 rfl
      obtain ⟨s21, rfl, h21⟩ : ∃ s21 : Sl, vs20 = [(.int .i64 e_19.Area), (.int .i64 e_19.House), s21.v] ∧ Rd m4 s21 e_19.Values := d20
      refine e_p (v := (elP s5 (e_17.toNat * 3))) 10 hF rfl (ex_indexAddr Tryz.underlying25 sz36 rfl rfl (h7.idx he_19)) rfl rfl (by kernel_rfl) (by kernel_rfl) (by kernel_rfl) fun a hF => e_all [11, 12] (by kernel_rfl) rfl ⟨?_, ?_, trivial⟩
      ·refine e_lx (v := (.agg #[(.int .i64 e_19.Area), (.int .i64 e_19.House), s21.v])) hF hS rfl (ex_loadEA (us := [(.int .i64 e_19.Area), (.int .i64 e_19.House), s21.v]) 0 Tryz.underlying36 rfl sz36 rfl (at20.at 1 rfl) rfl rfl rfl) rfl rfl fun a hF => e_one 12 (by kernel_rfl) (e_alloc (cs := [(.int .i64 0), (.int .i64 0), nilS.v]) hF hS rfl rfl rfl rfl fun a w b22 hF hS => e_one 14 (by kernel_rfl) (e_store (vs := [(.int .i64 e_14.Area), (.int .i64 e_14.House), s16.v]) (cs' := [(.int .i64 e_14.Area), (.int .i64 e_14.House), s16.v]) 0 0 hF hS rfl rfl sz36 rfl rfl rfl rfl rfl rfl rfl rfl fun a w hF hS => ⟨kpN, ?_⟩))
       refine e_one 15 (by kernel_rfl) (e_store (vs := [(.int .i64 e_19.Area), (.int .i64 e_19.House), s21.v]) (cs' := [(.int .i64 e_19.Area), (.int .i64 e_19.House), s21.v]) 1 0 hF hS rfl rfl sz36 rfl rfl rfl rfl rfl rfl rfl rfl fun a w hF hS => ⟨kpN, ?_⟩)
       refine e_end (by kernel_rfl) (n_jn ?_) _
       obtain rfl := someI hj3
       exact ⟨b23, b22, s21, s16, _, _, rfl, hF.sub ⟨rfl, rfl, rfl, rfl, rfl, rfl, rfl, trivial⟩, hS.sel [2, 1, 0] (by decide), h21, h16⟩
      ·refine e_alloc (cs := [(.int .i64 0), (.int .i64 0), nilS.v]) hF hS rfl rfl rfl rfl fun a w b22 hF hS => e_all [11, 14] (by kernel_rfl) rfl ⟨?_, ?_, trivial⟩
       ·refine e_lx (v := (.agg #[(.int .i64 e_19.Area), (.int .i64 e_19.House), s21.v])) hF hS rfl (ex_loadEA (us := [(.int .i64 e_19.Area), (.int .i64 e_19.House), s21.v]) 0 Tryz.underlying36 rfl sz36 rfl (at20.at 2 rfl) rfl rfl rfl) rfl rfl fun a hF => e_one 14 (by kernel_rfl) (e_store (vs := [(.int .i64 e_14.Area), (.int .i64 e_14.House), s16.v]) (cs' := [(.int .i64 e_14.Area), (.int .i64 e_14.House), s16.v]) 0 0 hF hS rfl rfl sz36 rfl rfl rfl rfl rfl rfl rfl rfl fun a w hF hS => ⟨kpN, ?_⟩)
        refine e_one 15 (by kernel_rfl) (e_store (vs := [(.int .i64 e_19.Area), (.int .i64 e_19.House), s21.v]) (cs' := [(.int .i64 e_19.Area), (.int .i64 e_19.House), s21.v]) 1 0 hF hS rfl rfl sz36 rfl rfl rfl rfl rfl rfl rfl rfl fun a w hF hS => ⟨kpN, ?_⟩)
        refine e_end (by kernel_rfl) (n_jn ?_) _
        obtain rfl := someI hj3
        exact ⟨b23, b22, s21, s16, _, _, rfl, hF.sub ⟨rfl, rfl, rfl, rfl, rfl, rfl, rfl, trivial⟩, hS.sel [2, 1, 0] (by decide), h21, h16⟩
       ·refine e_store (vs := [(.int .i64 e_14.Area), (.int .i64 e_14.House), s16.v]) (cs' := [(.int .i64 e_14.Area), (.int .i64 e_14.House), s16.v]) 0 0 hF hS rfl rfl sz36 rfl rfl rfl rfl rfl rfl rfl rfl fun a w hF hS => ⟨kpN, ?_⟩
        refine e_x (v := (.agg #[(.int .i64 e_19.Area), (.int .i64 e_19.House), s21.v])) 11 hF hS rfl (ex_loadEA (us := [(.int .i64 e_19.Area), (.int .i64 e_19.House), s21.v]) 0 Tryz.underlying36 rfl sz36 rfl (at20.at 2 rfl) rfl rfl rfl) rfl rfl (by kernel_rfl) (by kernel_rfl) (by kernel_rfl) (by kernel_rfl) fun a hF => e_one 15 (by kernel_rfl) (e_store (vs := [(.int .i64 e_19.Area), (.int .i64 e_19.House), s21.v]) (cs' := [(.int .i64 e_19.Area), (.int .i64 e_19.House), s21.v]) 1 0 hF hS rfl rfl sz36 rfl rfl rfl rfl rfl rfl rfl rfl fun a w hF hS => ⟨kpN, ?_⟩)
        refine e_end (by kernel_rfl) (n_jn ?_) _
        obtain rfl := someI hj3
        exact ⟨b23, b22, s21, s16, _, _, rfl, hF.sub ⟨rfl, rfl, rfl, rfl, rfl, rfl, rfl, trivial⟩, hS.sel [2, 1, 0] (by decide), h21, h16⟩
     ·refine e_alloc (cs := [(.int .i64 0), (.int .i64 0), nilS.v]) hF hS rfl rfl rfl rfl fun a w b22 hF hS => e_all [9, 14] (by kernel_rfl) rfl ⟨?_, ?_, trivial⟩
      ·refine e_lx (v := (.int .i64 e_17)) hF hS rfl (ex_loadE1 0 Tryz.underlying3 rfl rfl ((at18).at) rfl rfl) rfl rfl fun a hF => ?_
       obtain ⟨vs20, at20, d20⟩ := h7.at he_19 3 rfl
       obtain ⟨s21, rfl, h21⟩ : ∃ s21 : Sl, vs20 = [(.int .i64 e_19.Area), (.int .i64 e_19.House), s21.v] ∧ Rd m4 s21 e_19.Values := d20
       refine e_p (v := (elP s5 (e_17.toNat * 3))) 10 hF rfl (ex_indexAddr Tryz.underlying25 sz36 rfl rfl (h7.idx he_19)) rfl rfl (by kernel_rfl) (by kernel_rfl) (by kernel_rfl) fun a hF => e_all [11, 14] (by kernel_rfl) rfl ⟨?_, ?_, trivial⟩
       ·refine e_lx (v := (.agg #[(.int .i64 e_19.Area), (.int .i64 e_19.House), s21.v])) hF hS rfl (ex_loadEA (us := [(.int .i64 e_19.Area), (.int .i64 e_19.House), s21.v]) 0 Tryz.underlying36 rfl sz36 rfl (at20.at 2 rfl) rfl rfl rfl) rfl rfl fun a hF => e_one 14 (by kernel_rfl) (e_store (vs := [(.int .i64 e_14.Area), (.int .i64 e_14.House), s16.v]) (cs' := [(.int .i64 e_14.Area), (.int .i64 e_14.House), s16.v]) 0 0 hF hS rfl rfl sz36 rfl rfl rfl rfl rfl rfl rfl rfl fun a w hF hS => ⟨kpN, ?_⟩)
        refine e_one 15 (by kernel_rfl) (e_store (vs := [(.int .i64 e_19.Area), (.int .i64 e_19.House), s21.v]) (cs' := [(.int .i64 e_19.Area), (.int .i64 e_19.House), s21.v]) 1 0 hF hS rfl rfl sz36 rfl rfl rfl rfl rfl rfl rfl rfl fun a w hF hS => ⟨kpN, ?_⟩)
        refine e_end (by kernel_rfl) (n_jn ?_) _
        obtain rfl := someI hj3
        exact ⟨b23, b22, s21, s16, _, _, rfl, hF.sub ⟨rfl, rfl, rfl, rfl, rfl, rfl, rfl, trivial⟩, hS.sel [2, 1, 0] (by decide), h21, h16⟩
       ·refine e_store (vs := [(.int .i64 e_14.Area), (.int .i64 e_14.House), s16.v]) (cs' := [(.int .i64 e_14.Area), (.int .i64 e_14.House), s16.v]) 0 0 hF hS rfl rfl sz36 rfl rfl rfl rfl rfl rfl rfl rfl fun a w hF hS => ⟨kpN, ?_⟩
        refine e_x (v := (.agg #[(.int .i64 e_19.Area), (.int .i64 e_19.House), s21.v])) 11 hF hS rfl (ex_loadEA (us := [(.int .i64 e_19.Area), (.int .i64 e_19.House), s21.v]) 0 Tryz.underlying36 rfl sz36 rfl (at20.at 2 rfl) rfl rfl rfl) rfl rfl (by kernel_rfl) (by kernel_rfl) (by kernel_rfl) (by kernel_rfl) fun a hF => e_one 15 (by kernel_rfl) (e_store (vs := [(.int .i64 e_19.Area), (.int .i64 e_19.House), s21.v]) (cs' := [(.int .i64 e_19.Area), (.int .i64 e_19.House), s21.v]) 1 0 hF hS rfl rfl sz36 rfl rfl rfl rfl rfl rfl rfl rfl fun a w hF hS => ⟨kpN, ?_⟩)
        refine e_end (by kernel_rfl) (n_jn ?_) _
        obtain rfl := someI hj3
        exact ⟨b23, b22, s21, s16, _, _, rfl, hF.sub ⟨rfl, rfl, rfl, rfl, rfl, rfl, rfl, trivial⟩, hS.sel [2, 1, 0] (by decide), h21, h16⟩
      ·refine e_store (vs := [(.int .i64 e_14.Area), (.int .i64 e_14.House), s16.v]) (cs' := [(.int .i64 e_14.Area), (.int .i64 e_14.House), s16.v]) 0 0 hF hS rfl rfl sz36 rfl rfl rfl rfl rfl rfl rfl rfl fun a w hF hS => ⟨kpN, ?_⟩
       refine e_x (v := (.int .i64 e_17)) 9 hF hS rfl (ex_loadE1 0 Tryz.underlying3 rfl rfl ((at18).at) rfl rfl) rfl rfl (by kernel_rfl) (by kernel_rfl) (by kernel_rfl) (by kernel_rfl) fun a hF => ?_
       obtain ⟨vs20, at20, d20⟩ := h7.at he_19 3 rfl
       obtain ⟨s21, rfl, h21⟩ : ∃ s21 : Sl, vs20 = [(.int .i64 e_19.Area), (.int .i64 e_19.House), s21.v] ∧ Rd m4 s21 e_19.Values := d20
       refine e_p (v := (elP s5 (e_17.toNat * 3))) 10 hF rfl (ex_indexAddr Tryz.underlying25 sz36 rfl rfl (h7.idx he_19)) rfl rfl (by kernel_rfl) (by kernel_rfl) (by kernel_rfl) fun a hF => e_x (v := (.agg #[(.int .i64 e_19.Area), (.int .i64 e_19.House), s21.v])) 11 hF hS rfl (ex_loadEA (us := [(.int .i64 e_19.Area), (.int .i64 e_19.House), s21.v]) 0 Tryz.underlying36 rfl sz36 rfl (at20.at 2 rfl) rfl rfl rfl) rfl rfl (by kernel_rfl) (by kernel_rfl) (by kernel_rfl) (by kernel_rfl) fun a hF => e_one 15 (by kernel_rfl) (e_store (vs := [(.int .i64 e_19.Area), (.int .i64 e_19.House), s21.v]) (cs' := [(.int .i64 e_19.Area), (.int .i64 e_19.House), s21.v]) 1 0 hF hS rfl rfl sz36 rfl rfl rfl rfl rfl rfl rfl rfl fun a w hF hS => ⟨kpN, ?_⟩)
       refine e_end (by kernel_rfl) (n_jn ?_) _
       obtain rfl := someI hj3
       exact ⟨b23, b22, s21, s16, _, _, rfl, hF.sub ⟨rfl, rfl, rfl, rfl, rfl, rfl, rfl, trivial⟩, hS.sel [2, 1, 0] (by decide), h21, h16⟩
   ·rintro a w ⟨b23, b22, s25, s27, b_24, a_26, rfl, hF, hS, h25, h27⟩
    refine n_sq ?_
    refine q_seq (e_region ⟨[12], [b23, b22]⟩ mixed fun w' hw' => ?_)
    have hS := hS.below hw'
    refine e_p (v := s5.v) 0 hF rfl (ex_move rfl) rfl rfl (by kernel_rfl) (by kernel_rfl) (by kernel_rfl) fun a hF => e_p (v := s11.v) 1 hF rfl (ex_move rfl) rfl rfl (by kernel_rfl) (by kernel_rfl) (by kernel_rfl) fun a hF => ?_
    obtain ⟨e_28, he_28, hb1⟩ := bindS hb1
    obtain ⟨vs29, at29, d29⟩ := h11.at he_28 1 rfl
    obtain rfl : vs29 = [(.int .i64 e_28)] := d29
    refine e_p (v := (elP s11 ((0 : Int).toNat * 1))) 2 hF rfl (ex_indexAddr Tryz.underlying26 sz3 rfl rfl (h11.idx he_28)) rfl rfl (by kernel_rfl) (by kernel_rfl) (by kernel_rfl) fun a hF => e_x (v := (.int .i64 e_28)) 3 hF hS rfl (ex_loadE1 0 Tryz.underlying3 rfl rfl ((at29).at) rfl rfl) rfl rfl (by kernel_rfl) (by kernel_rfl) (by kernel_rfl) (by kernel_rfl) fun a hF => e_p (v := (.pointer (some ⟨b23, 0, none⟩))) 4 hF rfl (ex_fieldAddr Tryz.underlying36 rfl sz3 rfl rfl) rfl rfl (by kernel_rfl) (by kernel_rfl) (by kernel_rfl) fun a hF => e_xb (v := (.int .i64 b_24.Area)) 5 1 hF hS (.head _) rfl rfl (ex_load1 0 0 Tryz.underlying3 rfl rfl rfl rfl) rfl rfl (by kernel_rfl) (by kernel_rfl) (by kernel_rfl) fun a hF => e_p (v := (.pointer (some ⟨b23, 1, none⟩))) 6 hF rfl (ex_fieldAddr Tryz.underlying36 rfl sz3 rfl rfl) rfl rfl (by kernel_rfl) (by kernel_rfl) (by kernel_rfl) fun a hF => e_xb (v := (.int .i64 b_24.House)) 7 1 hF hS (.head _) rfl rfl (ex_load1 0 0 Tryz.underlying3 rfl rfl rfl rfl) rfl rfl (by kernel_rfl) (by kernel_rfl) (by kernel_rfl) fun a hF => e_p (v := (.pointer (some ⟨b22, 2, none⟩))) 8 hF rfl (ex_fieldAddr Tryz.underlying36 rfl sz26 rfl rfl) rfl rfl (by kernel_rfl) (by kernel_rfl) (by kernel_rfl) fun a hF => e_xb (v := s27.v) 9 2 hF hS (.tail _ (.head _)) rfl rfl (ex_load1 0 0 Tryz.underlying26 rfl rfl rfl rfl) rfl rfl (by kernel_rfl) (by kernel_rfl) (by kernel_rfl) fun a hF => e_p (v := (.agg #[(.int .i64 b_24.Area), (.int .i64 b_24.House), s27.v])) 10 hF rfl (ex_build (cells := [(.int .i64 b_24.Area), (.int .i64 b_24.House), s27.v]) rfl (by kernel_rfl)) rfl rfl (by kernel_rfl) (by kernel_rfl) (by kernel_rfl) fun a hF => ?_
    obtain ⟨e_30, he_30, hb1⟩ := bindS hb1
    obtain ⟨vs31, at31, d31⟩ := h7.at he_30 3 rfl
    obtain ⟨s32, rfl, h32⟩ : ∃ s32 : Sl, vs31 = [(.int .i64 e_30.Area), (.int .i64 e_30.House), s32.v] ∧ Rd m4 s32 e_30.Values := d31
    refine e_p (v := (elP s5 (e_28.toNat * 3))) 11 hF rfl (ex_indexAddr Tryz.underlying25 sz36 rfl rfl (h7.idx he_30)) rfl rfl (by kernel_rfl) (by kernel_rfl) (by kernel_rfl) fun a hF => e_one 12 (by kernel_rfl) ?_
    have hSo := hS
    refine e_opl rfl rfl rfl fun _ hK => wp_storeE (e' := (impl_Record.mk b_24.Area b_24.House a_26.Values)) (us := [(.int .i64 b_24.Area), (.int .i64 b_24.House), s27.v]) (vs := [(.int .i64 e_30.Area), (.int .i64 e_30.House), s32.v]) 0 hF hS h7 sz36 rfl rfl rfl rfl rfl rfl rfl he_30 at31 rfl rfl ⟨s27, rfl, h27⟩ fun w q33 hS h33 => hK _ _ (⟨kpC hSo hS 1 1 rfl rfl (kpC hSo hS 2 2 rfl rfl kpN), ?_⟩)
    refine e_end (by kernel_rfl) (n_sq ?_) _
    refine e_region ⟨[12], [b22, b23]⟩ mixed fun w' hw' => ?_
    have hS := hS.below hw'
    refine e_p (v := s5.v) 0 hF rfl (ex_move rfl) rfl rfl (by kernel_rfl) (by kernel_rfl) (by kernel_rfl) fun a hF => e_p (v := s11.v) 1 hF rfl (ex_move rfl) rfl rfl (by kernel_rfl) (by kernel_rfl) (by kernel_rfl) fun a hF => ?_
    obtain ⟨e_34, he_34, hb1⟩ := bindS hb1
    obtain ⟨vs35, at35, d35⟩ := h11.at he_34 1 rfl
    obtain rfl : vs35 = [(.int .i64 e_34)] := d35
    refine e_p (v := (elP s11 ((1 : Int).toNat * 1))) 2 hF rfl (ex_indexAddr Tryz.underlying26 sz3 rfl rfl (h11.idx he_34)) rfl rfl (by kernel_rfl) (by kernel_rfl) (by kernel_rfl) fun a hF => e_x (v := (.int .i64 e_34)) 3 hF hS rfl (ex_loadE1 0 Tryz.underlying3 rfl rfl ((at35).at) rfl rfl) rfl rfl (by kernel_rfl) (by kernel_rfl) (by kernel_rfl) (by kernel_rfl) fun a hF => e_p (v := (.pointer (some ⟨b22, 0, none⟩))) 4 hF rfl (ex_fieldAddr Tryz.underlying36 rfl sz3 rfl rfl) rfl rfl (by kernel_rfl) (by kernel_rfl) (by kernel_rfl) fun a hF => e_xb (v := (.int .i64 a_26.Area)) 5 2 hF hS (.head _) rfl rfl (ex_load1 0 0 Tryz.underlying3 rfl rfl rfl rfl) rfl rfl (by kernel_rfl) (by kernel_rfl) (by kernel_rfl) fun a hF => e_p (v := (.pointer (some ⟨b22, 1, none⟩))) 6 hF rfl (ex_fieldAddr Tryz.underlying36 rfl sz3 rfl rfl) rfl rfl (by kernel_rfl) (by kernel_rfl) (by kernel_rfl) fun a hF => e_xb (v := (.int .i64 a_26.House)) 7 2 hF hS (.head _) rfl rfl (ex_load1 0 0 Tryz.underlying3 rfl rfl rfl rfl) rfl rfl (by kernel_rfl) (by kernel_rfl) (by kernel_rfl) fun a hF => e_p (v := (.pointer (some ⟨b23, 2, none⟩))) 8 hF rfl (ex_fieldAddr Tryz.underlying36 rfl sz26 rfl rfl) rfl rfl (by kernel_rfl) (by kernel_rfl) (by kernel_rfl) fun a hF => e_xb (v := s25.v) 9 1 hF hS (.tail _ (.head _)) rfl rfl (ex_load1 0 0 Tryz.underlying26 rfl rfl rfl rfl) rfl rfl (by kernel_rfl) (by kernel_rfl) (by kernel_rfl) fun a hF => e_p (v := (.agg #[(.int .i64 a_26.Area), (.int .i64 a_26.House), s25.v])) 10 hF rfl (ex_build (cells := [(.int .i64 a_26.Area), (.int .i64 a_26.House), s25.v]) rfl (by kernel_rfl)) rfl rfl (by kernel_rfl) (by kernel_rfl) (by kernel_rfl) fun a hF => ?_
    obtain ⟨e_36, he_36, hb1⟩ := bindS hb1
    obtain ⟨vs37, at37, d37⟩ := h33.at he_36 3 rfl
    obtain ⟨s38, rfl, h38⟩ : ∃ s38 : Sl, vs37 = [(.int .i64 e_36.Area), (.int .i64 e_36.House), s38.v] ∧ Rd m4 s38 e_36.Values := d37
    refine e_p (v := (elP s5 (e_34.toNat * 3))) 11 hF rfl (ex_indexAddr Tryz.underlying25 sz36 rfl rfl (h33.idx he_36)) rfl rfl (by kernel_rfl) (by kernel_rfl) (by kernel_rfl) fun a hF => e_one 12 (by kernel_rfl) ?_
    have hSo := hS
    refine e_opl rfl rfl rfl fun _ hK => wp_storeE (e' := (impl_Record.mk a_26.Area a_26.House b_24.Values)) (us := [(.int .i64 a_26.Area), (.int .i64 a_26.House), s25.v]) (vs := [(.int .i64 e_36.Area), (.int .i64 e_36.House), s38.v]) 0 hF hS h33 sz36 rfl rfl rfl rfl rfl rfl rfl he_36 at37 rfl rfl ⟨s25, rfl, h25⟩ fun w q39 hS h39 => hK _ _ (⟨kpC hSo hS 2 2 rfl rfl (kpC hSo hS 1 1 rfl rfl kpN), ?_⟩)
    refine e_end (by kernel_rfl) (n_ib (n_sq ?_)) _
    refine q_region (q_x (v := (.int .i64 (w64 (t_8 + 1)))) hF hS (ex_ibin rfl rfl rfl) rfl rfl fun a hF => q_x (v := (.int .i64 (w64 (t_8 + 1)))) hF hS (ex_move rfl) rfl rfl fun a hF => q_end ?_)
    obtain rfl := someI hb1
    exact ⟨rfl, q39, _, _, rfl, hF.sub ⟨rfl, rfl, rfl, rfl, trivial⟩, hS.mask [true, false, false], h39⟩
 ·rintro e a w ⟨q41, rfl, hF, hS, h41⟩
  refine x_ib (n_sq ?_)
  refine q_seq (q_region (q_x (v := s5.v) hF hS (ex_move rfl) rfl rfl fun a hF => q_x (v := s5.v) hF hS (ex_assign rfl) rfl rfl fun a hF => q_end (n_sq (q_ret ?_))))
  obtain rfl := someI hr
  exact ret_of hF hS rfl (.tmp rfl .nil) ⟨m4, q41, s5, rfl, hm4, hS.sel [0] (by decide), h41⟩

theorem c_spec_ApplySwaps (p_s : List impl_Variable) (p_l : List impl_Record) (p_pairs : List (List Int)) (r : (List impl_Record) × Bool) (hr : spec_ApplySwaps p_s p_l p_pairs = some r) (w0 : World) (m : Mem) (hv : Vis m w0) (s1 : Sl) (h1 : Rd m s1 p_s) (s2 : Sl) (h2 : Rd m s2 p_l) (s3 : Sl) (h3 : Rd m s3 p_pairs) :
  Ret Tryz.prog 44 [s1.v, s2.v, s3.v] w0 (fun v w => ∃ (m' : Mem) (q0' : Piece) (s0' : Sl), v = (.tuple #[s0'.v, (.bool r.2)]) ∧ MLe [] w0.heap.size m m' ∧ St [] w0 w m' [q0'] ∧ OwnL m' 36 q0' s0' r.1) := by
 unfold spec_ApplySwaps at hr
 refine ret_start Tryz.func44 rfl 22 rfl rfl m hv fun a hF hS => q_seq (q_region (q_x (v := nilS.v) hF hS (ex_assign rfl) rfl rfl fun a hF => q_x (v := (.bool false)) hF hS (ex_assign rfl) rfl rfl fun a hF => q_end (n_sq (q_seq (q_seq ?_)))))
 obtain ⟨t_6, hj1, hr⟩ := bindS hr
 refine q_join (fun a w => Fr a 22 [(1, s2.v), (2, s3.v), (18, (.bool t_6))] ∧ St [] w0 w m []) ?_ ?_
 ·refine q_region (q_x (v := s1.v) hF hS (ex_move rfl) rfl rfl fun a hF => q_x (v := s2.v) hF hS (ex_move rfl) rfl rfl fun a hF => ?_)
  obtain ⟨t_4, ht_4, hj1⟩ := bindS hj1
  refine q_call (vs := [s1.v, s2.v]) hF hS Tryz.func62 (by kernel_rfl) rfl rfl rfl (c_spec_dInput p_s p_l t_4 ht_4 _ m hS.vis s1 h1 s2 h2) ?_
  rintro a w _ rfl hF hS
  refine q_x (v := (.bool (!t_4))) hF hS (ex_not rfl) rfl rfl fun a hF => q_x (v := (.bool (!t_4))) hF hS (ex_move rfl) rfl rfl fun a hF => ?_
  rcases bcase (!t_4) with hc2 | hc2
  ·have hj1 := cond_f hc2 hj1
   refine q_xg (v := s3.v) hF hS (ex_move rfl) (wanted_t hF rfl rfl rfl hc2) rfl fun a hF => q_xg (v := s2.v) hF hS (ex_move rfl) (wanted_t hF rfl rfl rfl hc2) rfl fun a hF => q_xg (v := (.int .i64 (goLen p_l))) hF hS (ex_len Tryz.underlying25 rfl h2.len) (wanted_t hF rfl rfl rfl hc2) rfl fun a hF => ?_
   obtain ⟨t_5, ht_5, hj1⟩ := bindS hj1
   refine q_callg (vs := [s3.v, (.int .i64 (goLen p_l))]) hF hS (wanted_t hF rfl rfl rfl hc2) Tryz.func63 (by kernel_rfl) rfl rfl rfl (c_spec_swPairs p_pairs (goLen p_l) t_5 ht_5 _ m hS.vis s3 h3) ?_
   rintro a w _ rfl hF hS
   refine q_xg (v := (.bool (!t_5))) hF hS (ex_not rfl) (wanted_t hF rfl rfl rfl hc2) rfl fun a hF => q_x (v := (.bool (!t_5))) hF hS (ex_pick_f rfl rfl hc2) rfl rfl fun a hF => q_end (n_jn ?_)
   obtain rfl := someI hj1
   exact ⟨hF.sub ⟨rfl, rfl, rfl, trivial⟩, hS⟩
  ·have hj1 := cond_t hc2 hj1
   refine q_skip hF (wanted_f hF rfl rfl rfl hc2 rfl) rfl fun a hF => q_skip hF (wanted_f hF rfl rfl rfl hc2 rfl) rfl fun a hF => q_skip hF (wanted_f hF rfl rfl rfl hc2 rfl) rfl fun a hF => q_skip hF (wanted_f hF rfl rfl rfl hc2 rfl) rfl fun a hF => q_skip hF (wanted_f hF rfl rfl rfl hc2 rfl) rfl fun a hF => q_x (v := (.bool true)) hF hS (ex_pick_t rfl rfl hc2) rfl rfl fun a hF => q_end (n_jn ?_)
   obtain rfl := someI hj1
   exact ⟨hF.sub ⟨rfl, rfl, rfl, trivial⟩, hS⟩
 ·rintro a w ⟨hF, hS⟩
  refine n_sq ?_
  rcases bcase (t_6) with hc3 | hc3
  ·have hr := cond_f hc3 hr
   refine q_cond_f hF rfl hc3 (q_skipc (n_sq (q_seq (q_region (q_x (v := s2.v) hF hS (ex_move rfl) rfl rfl fun a hF => q_x (v := s3.v) hF hS (ex_move rfl) rfl rfl fun a hF => ?_)))))
   obtain ⟨t_7, ht_7, hr⟩ := bindS hr
   refine q_call (vs := [s2.v, s3.v]) hF hS Tryz.func64 (by kernel_rfl) rfl rfl rfl (c_spec_swApply p_l p_pairs t_7 ht_7 _ m hS.vis s2 h2 s3 h3) ?_
   have hT := hS
   rintro a w _ ⟨m8, q9, s9, rfl, hm8, hR8, h9⟩ hF hS2
   have hS : St _ _ _ _ [q9] := hS.join hR8 hm8
   have hm8 := MLe.weakX (O0 := []) hT hm8
   refine q_x (v := s9.v) hF hS (ex_assign rfl) rfl rfl fun a hF => q_x (v := (.bool true)) hF hS (ex_assign rfl) rfl rfl fun a hF => q_end (n_sq (q_ret ?_))
   obtain rfl := someI hr
   exact ret_of hF hS rfl (.tmp rfl (.tmp rfl .nil)) ⟨m8, q9, s9, rfl, hm8, hS.sel [0] (by decide), h9⟩
  ·have hr := cond_t hc3 hr
   refine q_cond_t hF rfl hc3 (q_seq (q_region (q_x (v := nilS.v) hF hS (ex_assign rfl) rfl rfl fun a hF => q_x (v := (.bool false)) hF hS (ex_assign rfl) rfl rfl fun a hF => q_end (n_sq (q_ret (r_sq ?_))))))
   obtain rfl := someI hr
   exact ret_of hF hS rfl (.tmp rfl (.tmp rfl .nil)) ⟨m, [], nilS, rfl, (MLe.refl _ _), hS.sel [0] (by decide), (OwnL.nil (α := impl_Record) m 36)⟩

theorem c_spec_DrawMovedRecords (p_code : List (K .u8)) (r : (List impl_Variable) × (List impl_Record) × (List impl_Record)) (hr : spec_DrawMovedRecords p_code = some r) (w0 : World) (m : Mem) (hv : Vis m w0) (s1 : Sl) (h1 : Rd m s1 p_code) :
  Ret Tryz.prog 28 [s1.v] w0 (fun v w => ∃ (m' : Mem) (q2' : Piece) (s0' : Sl) (s1' : Sl) (s2' : Sl), v = (.tuple #[s0'.v, s1'.v, s2'.v]) ∧ MLe [] w0.heap.size m m' ∧ St [] w0 w m' [q2'] ∧ Rd m' s0' r.1 ∧ Rd m' s1' r.2.1 ∧ OwnL m' 36 q2' s2' r.2.2) := by
 unfold spec_DrawMovedRecords at hr
 refine ret_start Tryz.func28 rfl 41 rfl rfl m hv fun a hF hS => q_seq (q_region (q_x (v := nilS.v) hF hS (ex_assign rfl) rfl rfl fun a hF => q_x (v := nilS.v) hF hS (ex_assign rfl) rfl rfl fun a hF => q_x (v := nilS.v) hF hS (ex_assign rfl) rfl rfl fun a hF => q_end (n_sq (q_seq (q_region (q_x (v := s1.v) hF hS (ex_move rfl) rfl rfl fun a hF => q_x (v := (.agg #[s1.v, (.int .i64 0), (.int .u64 0)])) hF hS (ex_build (cells := [s1.v, (.int .i64 0), (.int .u64 0)]) rfl (by kernel_rfl)) rfl rfl fun a hF => q_box (cs := [s1.v, (.int .i64 0), (.int .u64 0)]) hF hS rfl rfl rfl fun a w b2 hF hS => q_x (v := (.pointer (some ⟨b2, 0, none⟩))) hF hS (ex_assign rfl) rfl rfl fun a hF => q_end (n_sq (q_seq (q_region (q_x (v := s1.v) hF hS (ex_move rfl) rfl rfl fun a hF => ?_))))))))))
 obtain ⟨t_3, ht_3, hr⟩ := bindS hr
 refine q_call (vs := [s1.v]) hF hS Tryz.func43 (by kernel_rfl) rfl rfl rfl (c_spec_DrawApplySwaps p_code t_3 ht_3 _ m hS.vis s1 h1) ?_
 have hT := hS
 rintro a w _ ⟨m4, q7, s5, s6, s7, rfl, hm4, hR4, h5, h6, h7⟩ hF hS2
 have hS : St _ _ _ _ [q7, [⟨b2, [s1.v, (.int .i64 0), (.int .u64 0)], 44⟩]] := hS.join hR4 hm4
 have hm4 := MLe.weakX (O0 := []) hT hm4
 refine q_x (v := (.tuple #[s5.v, s6.v, s7.v])) hF hS (ex_move rfl) rfl rfl fun a hF => q_x (v := s5.v) hF hS (ex_extract rfl rfl) rfl rfl fun a hF => q_x (v := s6.v) hF hS (ex_extract rfl rfl) rfl rfl fun a hF => q_x (v := s7.v) hF hS (ex_extract rfl rfl) rfl rfl fun a hF => q_x (v := s5.v) hF hS (ex_assign rfl) rfl rfl fun a hF => q_x (v := s6.v) hF hS (ex_assign rfl) rfl rfl fun a hF => q_x (v := s7.v) hF hS (ex_assign rfl) rfl rfl fun a hF => q_end (n_sq (q_seq (q_seq (q_region (q_x (v := s5.v) hF hS (ex_move rfl) rfl rfl fun a hF => q_x (v := s6.v) hF hS (ex_move rfl) rfl rfl fun a hF => q_x (v := s7.v) hF hS (ex_move rfl) rfl rfl fun a hF => ?_)))))
 obtain ⟨m8, hm8, hS, hz8⟩ := hS.freeze
 have h8 := h7.froz hm8.le hz8
 obtain ⟨t_9, ht_9, hr⟩ := bindS hr
 refine q_call (vs := [s5.v, s6.v, s7.v]) hF hS Tryz.func44 (by kernel_rfl) rfl rfl rfl (c_spec_ApplySwaps t_3.1 t_3.2.1 t_3.2.2 t_9 ht_9 _ m8 hS.vis s5 (h5.mono hm8.le) s6 (h6.mono hm8.le) s7 h8) ?_
 have hT := hS
 rintro a w _ ⟨m10, q11, s11, rfl, hm10, hR10, h11⟩ hF hS2
 have hS : St _ _ _ _ [q11, [⟨b2, [s1.v, (.int .i64 0), (.int .u64 0)], 44⟩]] := hS.join hR10 hm10
 have hm10 := MLe.weakX (O0 := []) hT hm10
 refine q_x (v := (.tuple #[s11.v, (.bool t_9.2)])) hF hS (ex_move rfl) rfl rfl fun a hF => q_x (v := s11.v) hF hS (ex_extract rfl rfl) rfl rfl fun a hF => q_x (v := (.bool t_9.2)) hF hS (ex_extract rfl rfl) rfl rfl fun a hF => q_x (v := s11.v) hF hS (ex_assign rfl) rfl rfl fun a hF => q_x (v := (.bool t_9.2)) hF hS (ex_assign rfl) rfl rfl fun a hF => q_end (n_sq (q_seq ?_))
 obtain ⟨j1, hj1, hr⟩ := bindS hr
 refine q_join (fun a w => ∃ t_15, ∃ t_16, j1 = (t_15, t_16) ∧ Fr a 41 [(5, (.pointer (some ⟨b2, 0, none⟩))), (6, s5.v), (7, s6.v), (9, s11.v), (32, (.bool t_15))] ∧ St [] w0 w m10 [q11, [⟨b2, [s1.v, (.int .i64 t_16.at_), (.int .u64 t_16.seed.v)], 44⟩]] ∧ Rd m10 s1 t_16.code ∧ t_16.code = p_code) ?_ ?_
 ·refine q_region (q_x (v := (.bool t_9.2)) hF hS (ex_move rfl) rfl rfl fun a hF => q_x (v := (.bool t_9.2)) hF hS (ex_move rfl) rfl rfl fun a hF => ?_)
  rcases bcase (t_9.2) with hc2 | hc2
  ·have hj1 := cond_f hc2 hj1
   refine q_skip hF (wanted_f hF rfl rfl rfl hc2 rfl) rfl fun a hF => q_skip hF (wanted_f hF rfl rfl rfl hc2 rfl) rfl fun a hF => q_skip hF (wanted_f hF rfl rfl rfl hc2 rfl) rfl fun a hF => q_x (v := (.bool false)) hF hS (ex_pick_f rfl rfl hc2) rfl rfl fun a hF => q_end (n_jn ?_)
   obtain rfl := someI hj1
   exact ⟨_, _, rfl, hF.sub ⟨rfl, rfl, rfl, rfl, rfl, trivial⟩, hS, (((h1.mono hm4.le).mono hm8.le).mono hm10.le), rfl⟩
  ·have hj1 := cond_t hc2 hj1
   refine q_xg (v := (.pointer (some ⟨b2, 0, none⟩))) hF hS (ex_move rfl) (wanted_t hF rfl rfl rfl hc2) rfl fun a hF => ?_
   have hS : St _ _ _ _ [[⟨b2, [s1.v, (.int .i64 0), (.int .u64 0)], 44⟩], q11] := hS.sel [1, 0] (by decide)
   have hS12 : St _ _ _ _ ([[⟨b2, [s1.v, (.int .i64 0), (.int .u64 0)], 44⟩]] ++ [q11]) := hS
   have hE12 := hS12.enter
   obtain ⟨t_13, ht_13, hj1⟩ := bindS hj1
   refine q_dog (wanted_t hF rfl rfl rfl hc2) fun _ hK => wp_callX (vs := [(.pointer (some ⟨b2, 0, none⟩)), (.int .i64 6)]) hF Tryz.func45 (by kernel_rfl) rfl rfl rfl (c_spec_l1Cur_one (spec_l1Cur.mk p_code 0 (⟨0⟩ : K .u64)) 6 t_13 ht_13 _ m10 b2 s1 (((h1.mono hm4.le).mono hm8.le).mono hm10.le) _ hE12) fun a w _ hR hF => hK _ _ ?_
   obtain ⟨rfl, hR12, hk14⟩ := hR
   have hS : St _ _ _ _ [[⟨b2, [s1.v, (.int .i64 t_13.2.at_), (.int .u64 t_13.2.seed.v)], 44⟩], q11] := hS12.leaveF hR12
   have h14 : Rd m10 s1 t_13.2.code := by rw [hk14]; exact (((h1.mono hm4.le).mono hm8.le).mono hm10.le)
   refine q_xg (v := (.bool (!t_13.1))) hF hS (ex_not rfl) (wanted_t hF rfl rfl rfl hc2) rfl fun a hF => q_x (v := (.bool (!t_13.1))) hF hS (ex_pick_t rfl rfl hc2) rfl rfl fun a hF => q_end (n_jn ?_)
   obtain rfl := someI hj1
   exact ⟨_, _, rfl, hF.sub ⟨rfl, rfl, rfl, rfl, rfl, trivial⟩, hS.sel [1, 0] (by decide), h14, hk14⟩
 ·rintro a w ⟨t_15, t_16, rfl, hF, hS, h17, h17k⟩
  refine n_sq ?_
  rcases bcase (t_15) with hc3 | hc3
  ·have hr := cond_f hc3 hr
   refine q_cond_f hF rfl hc3 (q_skipc (n_sq (q_seq (q_region (q_x (v := s5.v) hF hS (ex_move rfl) rfl rfl fun a hF => q_x (v := s6.v) hF hS (ex_move rfl) rfl rfl fun a hF => q_x (v := (.pointer (some ⟨b2, 0, none⟩))) hF hS (ex_move rfl) rfl rfl fun a hF => q_x (v := s5.v) hF hS (ex_move rfl) rfl rfl fun a hF => ?_)))))
   have hS : St _ _ _ _ [[⟨b2, [s1.v, (.int .i64 t_16.at_), (.int .u64 t_16.seed.v)], 44⟩], q11] := hS.sel [1, 0] (by decide)
   have hS18 : St _ _ _ _ ([[⟨b2, [s1.v, (.int .i64 t_16.at_), (.int .u64 t_16.seed.v)], 44⟩]] ++ [q11]) := hS
   have hE18 := hS18.enter
   obtain ⟨t_19, ht_19, hr⟩ := bindS hr
   refine q_do rfl fun _ hK => wp_callX (vs := [(.pointer (some ⟨b2, 0, none⟩)), s5.v]) hF Tryz.func35 (by kernel_rfl) rfl rfl rfl (c_spec_l1Cur_anyData t_16 t_3.1 t_19 ht_19 _ m10 b2 s1 h17 s5 ((h5.mono hm8.le).mono hm10.le) _ hE18) fun a w _ hR hF => hK _ _ ?_
   obtain ⟨m18', q20, s20, rfl, hm18, hR18, h20, hk21⟩ := hR
   have hS : St _ _ _ _ [[⟨b2, [s1.v, (.int .i64 t_19.2.at_), (.int .u64 t_19.2.seed.v)], 44⟩], q20, q11] := hS18.leave hR18 hm18
   have hm18 := MLe.weakX hS18 hm18
   have h21 : Rd m18' s1 t_19.2.code := by rw [hk21]; exact (h17.mono hm18.le)
   refine q_x (v := s5.v) hF hS (ex_assign rfl) rfl rfl fun a hF => q_x (v := s6.v) hF hS (ex_assign rfl) rfl rfl fun a hF => q_x (v := s20.v) hF hS (ex_assign rfl) rfl rfl fun a hF => q_end (n_sq (q_ret ?_))
   obtain rfl := someI hr
   exact ret_of hF hS rfl (.tmp rfl (.tmp rfl (.tmp rfl .nil))) ⟨m18', q20, s5, s6, s20, rfl, (((hm4.trans hm8).trans hm10).trans hm18), hS.sel [1] (by decide), (((h5.mono hm8.le).mono hm10.le).mono hm18.le), (((h6.mono hm8.le).mono hm10.le).mono hm18.le), h20⟩
  ·have hr := cond_t hc3 hr
   refine q_cond_t hF rfl hc3 (q_seq (q_region (q_x (v := s5.v) hF hS (ex_move rfl) rfl rfl fun a hF => q_x (v := s6.v) hF hS (ex_move rfl) rfl rfl fun a hF => q_x (v := s11.v) hF hS (ex_move rfl) rfl rfl fun a hF => q_x (v := s5.v) hF hS (ex_assign rfl) rfl rfl fun a hF => q_x (v := s6.v) hF hS (ex_assign rfl) rfl rfl fun a hF => q_x (v := s11.v) hF hS (ex_assign rfl) rfl rfl fun a hF => q_end (n_sq (q_ret (r_sq ?_))))))
   obtain rfl := someI hr
   exact ret_of hF hS rfl (.tmp rfl (.tmp rfl (.tmp rfl .nil))) ⟨m10, q11, s5, s6, s11, rfl, ((hm4.trans hm8).trans hm10), hS.sel [0] (by decide), ((h5.mono hm8.le).mono hm10.le), ((h6.mono hm8.le).mono hm10.le), h11⟩

theorem c_spec_DrawKeepsCounts (p_code : List (K .u8)) (r : (List impl_Variable) × (List impl_Record) × (List impl_Record) × (List Int)) (hr : spec_DrawKeepsCounts p_code = some r) (w0 : World) (m : Mem) (hv : Vis m w0) (s1 : Sl) (h1 : Rd m s1 p_code) :
  Ret Tryz.prog 13 [s1.v] w0 (fun v w => ∃ (m' : Mem) (q2' : Piece) (q3' : Piece) (s0' : Sl) (s1' : Sl) (s2' : Sl) (s3' : Sl), v = (.tuple #[s0'.v, s1'.v, s2'.v, s3'.v]) ∧ MLe [] w0.heap.size m m' ∧ St [] w0 w m' [q2', q3'] ∧ Rd m' s0' r.1 ∧ Rd m' s1' r.2.1 ∧ OwnL m' 36 q2' s2' r.2.2.1 ∧ OwnL m' 3 q3' s3' r.2.2.2) := by
 unfold spec_DrawKeepsCounts at hr
 refine ret_start Tryz.func13 rfl 25 rfl rfl m hv fun a hF hS => q_seq (q_region (q_x (v := nilS.v) hF hS (ex_assign rfl) rfl rfl fun a hF => q_x (v := nilS.v) hF hS (ex_assign rfl) rfl rfl fun a hF => q_x (v := nilS.v) hF hS (ex_assign rfl) rfl rfl fun a hF => q_x (v := nilS.v) hF hS (ex_assign rfl) rfl rfl fun a hF => q_end (n_sq (q_seq (q_region (q_x (v := s1.v) hF hS (ex_move rfl) rfl rfl fun a hF => q_x (v := (.agg #[s1.v, (.int .i64 0), (.int .u64 0)])) hF hS (ex_build (cells := [s1.v, (.int .i64 0), (.int .u64 0)]) rfl (by kernel_rfl)) rfl rfl fun a hF => q_box (cs := [s1.v, (.int .i64 0), (.int .u64 0)]) hF hS rfl rfl rfl fun a w b2 hF hS => q_x (v := (.pointer (some ⟨b2, 0, none⟩))) hF hS (ex_assign rfl) rfl rfl fun a hF => q_end (n_sq (q_seq (q_region (q_x (v := s1.v) hF hS (ex_move rfl) rfl rfl fun a hF => ?_))))))))))
 obtain ⟨t_3, ht_3, hr⟩ := bindS hr
 refine q_call (vs := [s1.v]) hF hS Tryz.func28 (by kernel_rfl) rfl rfl rfl (c_spec_DrawMovedRecords p_code t_3 ht_3 _ m hS.vis s1 h1) ?_
 have hT := hS
 rintro a w _ ⟨m4, q7, s5, s6, s7, rfl, hm4, hR4, h5, h6, h7⟩ hF hS2
 have hS : St _ _ _ _ [q7, [⟨b2, [s1.v, (.int .i64 0), (.int .u64 0)], 44⟩]] := hS.join hR4 hm4
 have hm4 := MLe.weakX (O0 := []) hT hm4
 refine q_x (v := (.tuple #[s5.v, s6.v, s7.v])) hF hS (ex_move rfl) rfl rfl fun a hF => q_x (v := s5.v) hF hS (ex_extract rfl rfl) rfl rfl fun a hF => q_x (v := s6.v) hF hS (ex_extract rfl rfl) rfl rfl fun a hF => q_x (v := s7.v) hF hS (ex_extract rfl rfl) rfl rfl fun a hF => q_x (v := s5.v) hF hS (ex_assign rfl) rfl rfl fun a hF => q_x (v := s6.v) hF hS (ex_assign rfl) rfl rfl fun a hF => q_x (v := s7.v) hF hS (ex_assign rfl) rfl rfl fun a hF => q_end (n_sq (q_seq (q_region (q_x (v := s5.v) hF hS (ex_move rfl) rfl rfl fun a hF => q_x (v := s6.v) hF hS (ex_move rfl) rfl rfl fun a hF => q_x (v := s7.v) hF hS (ex_move rfl) rfl rfl fun a hF => q_x (v := (.pointer (some ⟨b2, 0, none⟩))) hF hS (ex_move rfl) rfl rfl fun a hF => q_x (v := s5.v) hF hS (ex_move rfl) rfl rfl fun a hF => ?_))))
 have hS : St _ _ _ _ [[⟨b2, [s1.v, (.int .i64 0), (.int .u64 0)], 44⟩], q7] := hS.sel [1, 0] (by decide)
 have hS8 : St _ _ _ _ ([[⟨b2, [s1.v, (.int .i64 0), (.int .u64 0)], 44⟩]] ++ [q7]) := hS
 have hE8 := hS8.enter
 obtain ⟨t_9, ht_9, hr⟩ := bindS hr
 refine q_do rfl fun _ hK => wp_callX (vs := [(.pointer (some ⟨b2, 0, none⟩)), s5.v]) hF Tryz.func29 (by kernel_rfl) rfl rfl rfl (c_spec_l1Cur_fixed (spec_l1Cur.mk p_code 0 (⟨0⟩ : K .u64)) t_3.1 t_9 ht_9 _ m4 b2 s1 (h1.mono hm4.le) s5 h5 _ hE8) fun a w _ hR hF => hK _ _ ?_
 obtain ⟨q10, s10, rfl, hR8, h10, hk11⟩ := hR
 have hS : St _ _ _ _ [[⟨b2, [s1.v, (.int .i64 t_9.2.at_), (.int .u64 t_9.2.seed.v)], 44⟩], q10, q7] := hS8.leaveF hR8
 have h11 : Rd m4 s1 t_9.2.code := by rw [hk11]; exact (h1.mono hm4.le)
 refine q_x (v := s5.v) hF hS (ex_assign rfl) rfl rfl fun a hF => q_x (v := s6.v) hF hS (ex_assign rfl) rfl rfl fun a hF => q_x (v := s7.v) hF hS (ex_assign rfl) rfl rfl fun a hF => q_x (v := s10.v) hF hS (ex_assign rfl) rfl rfl fun a hF => q_end (n_sq (q_ret ?_))
 obtain rfl := someI hr
 exact ret_of hF hS rfl (.tmp rfl (.tmp rfl (.tmp rfl (.tmp rfl .nil)))) ⟨m4, q7, q10, s5, s6, s7, s10, rfl, hm4, hS.sel [2, 1] (by decide), h5, h6, h7, h10⟩

/-raw-/
def encK (k : Int × Int) : Value := .agg #[.int .i64 k.1, .int .i64 k.2]
def encC (C : List ((Int × Int) × Int)) : List (Value × Value) := C.map fun p => (encK p.1, .int .i64 p.2)

theorem encK_inj {a b : Int × Int} (h : encK a = encK b) : a = b := by
  unfold encK at h
  simp at h
  exact Prod.ext h.1 h.2

def cget : List ((Int × Int) × Int) → Int × Int → Int
  | [], _ => 0
  | (k', n) :: C, k => if k' = k then n else cget C k

theorem encC_nod {C : List ((Int × Int) × Int)} (h : ((encC C).map (·.1)).Nodup) : (C.map (·.1)).Nodup := by
  have e : (encC C).map (·.1) = (C.map (·.1)).map encK := by simp [encC, Function.comp_def]
  rw [e] at h
  exact (List.pairwise_map.1 (List.nodup_iff_pairwise_ne.1 h)).imp fun h e => h (congrArg _ e)

theorem encC_at {C : List ((Int × Int) × Int)} {j : Nat} {k : Int × Int} {v : Value} (h : (encC C)[j]? = some (encK k, v)) : ∃ n, C[j]? = some (k, n) ∧ v = .int .i64 n := by
  unfold encC at h
  rw [List.getElem?_map] at h
  obtain ⟨⟨k', n⟩, h1, h2⟩ := Option.map_eq_some_iff.1 h
  obtain ⟨h3, rfl⟩ := Prod.mk.inj h2
  obtain rfl := encK_inj h3
  exact ⟨n, h1, rfl⟩

theorem encC_no {C : List ((Int × Int) × Int)} {k : Int × Int} (h : ∀ p ∈ encC C, p.1 ≠ encK k) : ∀ p ∈ C, p.1 ≠ k := by
  rintro ⟨k', n⟩ hp rfl
  exact h (encK k', .int .i64 n) (List.mem_map.2 ⟨(k', n), hp, rfl⟩) rfl

theorem cget_at {C : List ((Int × Int) × Int)} {j : Nat} {k : Int × Int} {n : Int} (hn : (C.map (·.1)).Nodup) (h : C[j]? = some (k, n)) : cget C k = n := by
  induction C generalizing j with
  | nil => simp at h
  | cons p C ih =>
    obtain ⟨k', l'⟩ := p
    simp only [List.map_cons, List.nodup_cons] at hn
    unfold cget
    cases j with
    | zero =>
      simp at h
      rw [if_pos h.1, h.2]
    | succ j =>
      simp at h
      have hm : k ∈ C.map (·.1) := List.mem_map.2 ⟨(k, n), List.mem_of_getElem? h, rfl⟩
      rw [if_neg (by rintro rfl; exact hn.1 hm)]
      exact ih hn.2 h

theorem cget_no {C : List ((Int × Int) × Int)} {k : Int × Int} (h : ∀ p ∈ C, p.1 ≠ k) : cget C k = 0 := by
  induction C with
  | nil => rfl
  | cons p C ih =>
    obtain ⟨k', n⟩ := p
    unfold cget
    rw [if_neg (h (k', n) (by simp)), ih fun q hq => h q (by simp [hq])]

theorem bump_no {C : List ((Int × Int) × Int)} {k : Int × Int} {d : Int} (h : ∀ p ∈ C, p.1 ≠ k) : bump C k d = C ++ [(k, w64 (0 + d))] := by
  induction C with
  | nil => rfl
  | cons p C ih =>
    obtain ⟨k', n⟩ := p
    unfold bump
    rw [if_neg (h (k', n) (by simp)), ih fun q hq => h q (by simp [hq])]
    rfl

theorem bump_at {C : List ((Int × Int) × Int)} {j : Nat} {k : Int × Int} {n d : Int} (hn : (C.map (·.1)).Nodup) (h : C[j]? = some (k, n)) : bump C k d = C.set j (k, w64 (n + d)) := by
  induction C generalizing j with
  | nil => simp at h
  | cons p C ih =>
    obtain ⟨k', l'⟩ := p
    simp only [List.map_cons, List.nodup_cons] at hn
    unfold bump
    cases j with
    | zero =>
      simp at h
      rw [if_pos h.1, h.2]; rfl
    | succ j =>
      simp at h
      have hm : k ∈ C.map (·.1) := List.mem_map.2 ⟨(k, n), List.mem_of_getElem? h, rfl⟩
      rw [if_neg (by rintro rfl; exact hn.1 hm), ih hn.2 h]
      rfl

theorem look_cget {C : List ((Int × Int) × Int)} {k : Int × Int} {v : Value} (hn : ((encC C).map (·.1)).Nodup) (h : LookV (encC C) (encK k) (.int .i64 0) v) : v = .int .i64 (cget C k) := by
  rcases h with ⟨j, hj⟩ | ⟨hno, rfl⟩
  · obtain ⟨n, h1, rfl⟩ := encC_at hj
    rw [cget_at (encC_nod hn) h1]
  · rw [cget_no (encC_no hno)]

theorem ent_cget {C : List ((Int × Int) × Int)} {k : Int × Int} {v : Value} {j : Nat} {E' : List (Value × Value)} (hn : ((encC C).map (·.1)).Nodup) (h : EntV (encC C) (encK k) (.int .i64 0) v j E') :
    (∃ C', E' = encC C' ∧ cget C' k = cget C k) ∧ ∀ d, E'.set j (encK k, .int .i64 (w64 (cget C k + d))) = encC (bump C k d) := by
  rcases h with ⟨hj, rfl⟩ | ⟨hno, rfl, rfl, rfl⟩
  · obtain ⟨n, h1, rfl⟩ := encC_at hj
    refine ⟨⟨C, rfl, rfl⟩, fun d => ?_⟩
    rw [cget_at (encC_nod hn) h1, bump_at (encC_nod hn) h1]
    unfold encC
    rw [List.map_set]
  · have hno' := encC_no hno
    refine ⟨⟨C ++ [(k, 0)], by simp [encC], ?_⟩, fun d => ?_⟩
    · rw [cget_no hno']
      clear hno hn
      induction C with
      | nil => simp [cget]
      | cons p C ih =>
        obtain ⟨k', n⟩ := p
        show cget ((k', n) :: (C ++ [(k, 0)])) k = 0
        unfold cget
        rw [if_neg (hno' (k', n) (by simp)), ih fun q hq => hno' q (by simp [hq])]
    · rw [cget_no hno', bump_no hno']
      simp [encC]

theorem keyed58 : Go.Maps.Keyed Tryz.prog 58 := Go.Maps.Keyed.of_law (deep_law_laid (m := 2) (by kernel_rfl) (by decide) (Nat.le_of_ble_eq_true (by kernel_rfl)) (by kernel_rfl) (by rw [Tryz.underlying58]))

theorem key58 {k : Int × Int} {u1 u2 : Unit} (g1 : goI64 k.1 = some u1) (g2 : goI64 k.2 = some u2) : ∃ l, keyOf Tryz.prog 58 (encK k) = some l := by
  have w1 := goI64_ok g1
  have w2 := goI64_ok g2
  have hk : Tryz.prog.keyType 58 = true := by kernel_rfl
  have hs : Tryz.prog.types.size = 148 := by kernel_rfl
  have hc58 : Tryz.prog.cellsOf 58 = 2 := by kernel_rfl
  have hc3 : Tryz.prog.cellsOf 3 = 1 := by kernel_rfl
  have hf : (encK k).formed Tryz.prog 58 = true := by
    unfold encK
    rw [Value.formed.eq_1, Tryz.underlying58]
    simp only [hc58]
    rfl
  have h1 : Tryz.prog.keyLits (148) 3 [.int .i64 k.1] = some [.int .i64 k.1] := by
    rw [Program.keyLits.eq_def]
    simp only [Tryz.underlying3, w1]
    simp
  have h2 : Tryz.prog.keyLits (148) 3 [.int .i64 k.2] = some [.int .i64 k.2] := by
    rw [Program.keyLits.eq_def]
    simp only [Tryz.underlying3, w2]
    simp
  have hl : Tryz.prog.keyLits (148 + 1) 58 [.int .i64 k.1, .int .i64 k.2] = some [.int .i64 k.1, .int .i64 k.2] := by
    rw [Program.keyLits.eq_def]
    simp only [Tryz.underlying58, hc58, hc3]
    simp only [List.length_cons, List.length_nil, if_true, Nat.reduceAdd, Nat.zero_add, List.range_succ, List.range_zero, List.nil_append, List.cons_append, List.mapM_cons, List.mapM_nil, Nat.zero_mul, List.drop_zero, Nat.one_mul, List.drop_succ_cons, List.take_succ_cons, List.take_zero, h1, h2]
    rfl
  refine ⟨.string (keyBytes [.int .i64 k.1, .int .i64 k.2]), ?_⟩
  unfold keyOf
  rw [Tryz.underlying58]
  simp only [hk, hf, hs, Bool.and_self, if_true]
  rw [show (encK k).cells.toList = [.int .i64 k.1, .int .i64 k.2] from rfl, hl]
  rfl

theorem zero3 : (Tryz.prog.info? 3).bind (·.zero) = some (.int .i64 0) := by kernel_rfl

theorem c_impl_KeepsCounts (p_s : List impl_Variable) (p_a : List impl_Record) (p_b : List impl_Record) (p_vars : List Int) (r : Bool × Bool) (hr : impl_KeepsCounts p_s p_a p_b p_vars = some r) (w0 : World) (m : Mem) (hv : Vis m w0) (s1 : Sl) (h1 : Rd m s1 p_s) (s2 : Sl) (h2 : Rd m s2 p_a) (s3 : Sl) (h3 : Rd m s3 p_b) (s4 : Sl) (h4 : Rd m s4 p_vars) :
  Ret Tryz.prog 14 [s1.v, s2.v, s3.v, s4.v] w0 (fun v _ => v = (.tuple #[(.bool r.1), (.bool r.2)])) := by
 unfold impl_KeepsCounts at hr
 refine ret_start Tryz.func14 rfl 75 rfl rfl m hv fun a hF hS => q_seq (q_region (q_x (v := (.bool false)) hF hS (ex_assign rfl) rfl rfl fun a hF => q_x (v := (.bool false)) hF hS (ex_assign rfl) rfl rfl fun a hF => q_end (n_sq (q_seq (q_seq ?_)))))
 obtain ⟨t_7, hj1, hr⟩ := bindS hr
 refine q_join (fun a w => Fr a 75 [(0, s1.v), (1, s2.v), (2, s3.v), (3, s4.v), (27, (.bool t_7))] ∧ St [] w0 w m []) ?_ ?_
 ·refine q_region (q_x (v := s1.v) hF hS (ex_move rfl) rfl rfl fun a hF => q_x (v := s2.v) hF hS (ex_move rfl) rfl rfl fun a hF => q_x (v := s4.v) hF hS (ex_move rfl) rfl rfl fun a hF => ?_)
  obtain ⟨t_5, ht_5, hj1⟩ := bindS hj1
  refine q_call (vs := [s1.v, s2.v, s4.v]) hF hS Tryz.func17 (by kernel_rfl) rfl rfl rfl (c_impl_areKeyed p_s p_a p_vars t_5 ht_5 _ m hS.vis s1 h1 s2 h2 s4 h4) ?_
  rintro a w _ rfl hF hS
  refine q_x (v := (.bool (!t_5))) hF hS (ex_not rfl) rfl rfl fun a hF => q_x (v := (.bool (!t_5))) hF hS (ex_move rfl) rfl rfl fun a hF => ?_
  rcases bcase (!t_5) with hc2 | hc2
  ·have hj1 := cond_f hc2 hj1
   refine q_xg (v := s1.v) hF hS (ex_move rfl) (wanted_t hF rfl rfl rfl hc2) rfl fun a hF => q_xg (v := s3.v) hF hS (ex_move rfl) (wanted_t hF rfl rfl rfl hc2) rfl fun a hF => ?_
   obtain ⟨t_6, ht_6, hj1⟩ := bindS hj1
   refine q_callg (vs := [s1.v, s3.v]) hF hS (wanted_t hF rfl rfl rfl hc2) Tryz.func30 (by kernel_rfl) rfl rfl rfl (c_impl_isData p_s p_b t_6 ht_6 _ m hS.vis s1 h1 s3 h3) ?_
   rintro a w _ rfl hF hS
   refine q_xg (v := (.bool (!t_6))) hF hS (ex_not rfl) (wanted_t hF rfl rfl rfl hc2) rfl fun a hF => q_x (v := (.bool (!t_6))) hF hS (ex_pick_f rfl rfl hc2) rfl rfl fun a hF => q_end (n_jn ?_)
   obtain rfl := someI hj1
   exact ⟨hF.sub ⟨rfl, rfl, rfl, rfl, rfl, trivial⟩, hS⟩
  ·have hj1 := cond_t hc2 hj1
   refine q_skip hF (wanted_f hF rfl rfl rfl hc2 rfl) rfl fun a hF => q_skip hF (wanted_f hF rfl rfl rfl hc2 rfl) rfl fun a hF => q_skip hF (wanted_f hF rfl rfl rfl hc2 rfl) rfl fun a hF => q_skip hF (wanted_f hF rfl rfl rfl hc2 rfl) rfl fun a hF => q_x (v := (.bool true)) hF hS (ex_pick_t rfl rfl hc2) rfl rfl fun a hF => q_end (n_jn ?_)
   obtain rfl := someI hj1
   exact ⟨hF.sub ⟨rfl, rfl, rfl, rfl, rfl, trivial⟩, hS⟩
 ·rintro a w ⟨hF, hS⟩
  refine n_sq ?_
  rcases bcase (t_7) with hc3 | hc3
  ·have hr := cond_f hc3 hr
   refine q_cond_f hF rfl hc3 (q_skipc (n_sq (q_seq (q_region (q_do rfl fun _ hK => wp_makeMap (K := 58) hF hS rfl fun a w b hbn hF hS hM _ => hK _ _ (q_x (v := (.map (some b))) hF hS (ex_assign rfl) rfl rfl fun a hF => q_end (n_sq (q_seq (q_seq (q_region (q_x (v := s2.v) hF hS (ex_move rfl) rfl rfl fun a hF => q_x (v := (.int .i64 (goLen p_a))) hF hS (ex_len Tryz.underlying25 rfl h2.len) rfl rfl fun a hF => q_x (v := (.int .i64 0)) hF hS (ex_move rfl) rfl rfl fun a hF => q_end (n_sq (q_block ?_)))))))))))))
   obtain ⟨C1, hl4, hr⟩ := bindS hr
   refine q_loop (fun (s : (List ((Int × Int) × Int)) × Int) a w => ∃ (C : List ((Int × Int) × Int)) (t_8 : Int), s = (C, t_8) ∧ Fr a 75 [(0, s1.v), (2, s3.v), (3, s4.v), (10, (.map (some b))), (29, s2.v), (30, (.int .i64 (goLen p_a))), (31, (.int .i64 t_8))] ∧ St [] w0 w m [] ∧ MapI Tryz.prog 58 w b (encC C)) (fun (o : List ((Int × Int) × Int)) e a w => e = .exit 0 ∧ Fr a 75 [(0, s1.v), (2, s3.v), (3, s4.v), (10, (.map (some b)))] ∧ St [] w0 w m [] ∧ MapI Tryz.prog 58 w b (encC o)) hl4 ⟨_, _, rfl, hF.sub ⟨rfl, rfl, rfl, rfl, rfl, rfl, rfl, trivial⟩, hS, hM⟩ ?_ ?_
   ·clear hF hS hM
    rintro s a wB st ⟨C, t_8, rfl, hF, hS, hM⟩ hb4
    unfold impl_KeepsCounts_l1 at hb4
    refine q_seq (q_region (q_x (v := (.bool (decide (t_8 < (goLen p_a))))) hF hS (ex_ibin rfl rfl rfl) rfl rfl fun a hF => q_end (n_sq (q_seq ?_))))
    rcases bcase (decide (t_8 < (goLen p_a))) with hc5 | hc5
    ·have hb4 := cond_f hc5 hb4
     refine q_cond_f hF rfl hc5 (q_exit (x_sq ?_))
     obtain rfl := someI hb4
     exact ⟨nofun, .inl ⟨rfl, hF.sub ⟨rfl, rfl, rfl, rfl, trivial⟩, hS, hM⟩⟩
    ·have hb4 := cond_t hc5 hb4
     have hSo := hS
     have hbo := hM.out hS
     have hnd : ((encC C).map (·.1)).Nodup := by obtain ⟨_, _, hh⟩ := hM; exact hh.nodK
     have hS := hS.rb
     refine q_cond_t hF rfl hc5 (q_skipc (n_sq (q_seq (q_block (q_seq (q_region ?_))))))
     obtain ⟨e_9, he_9, hb4⟩ := bindS hb4
     obtain ⟨vs10, at10, d10⟩ := h2.at he_9 3 rfl
     obtain ⟨s11, rfl, h11⟩ : ∃ s11 : Sl, vs10 = [(.int .i64 e_9.Area), (.int .i64 e_9.House), s11.v] ∧ Rd m s11 e_9.Values := d10
     refine q_x (v := (elP s2 (t_8.toNat * 3))) hF hS (ex_indexAddr Tryz.underlying25 sz36 rfl rfl (h2.idx he_9)) rfl rfl fun a hF => q_x (v := (.agg #[(.int .i64 e_9.Area), (.int .i64 e_9.House), s11.v])) hF hS (ex_loadEA (us := [(.int .i64 e_9.Area), (.int .i64 e_9.House), s11.v]) 0 Tryz.underlying36 rfl sz36 rfl ((at10).at) rfl rfl rfl) rfl rfl fun a hF => q_alloc (cs := [(.int .i64 0), (.int .i64 0), nilS.v]) hF hS rfl rfl rfl fun a w b12 hF hS => q_store (vs := [(.int .i64 e_9.Area), (.int .i64 e_9.House), s11.v]) (cs' := [(.int .i64 e_9.Area), (.int .i64 e_9.House), s11.v]) 0 0 hF hS sz36 rfl rfl rfl rfl rfl rfl rfl rfl fun a w hF hS => q_end (n_sq (e_region ⟨[10, 12], []⟩ mixed fun w' hw' => ?_))
     have hS := hS.below hw'
     refine e_p (v := (.map (some b))) 0 hF rfl (ex_move rfl) rfl rfl (by kernel_rfl) (by kernel_rfl) (by kernel_rfl) fun a hF => e_p (v := (.pointer (some ⟨b12, 0, none⟩))) 1 hF rfl (ex_fieldAddr Tryz.underlying36 rfl sz3 rfl rfl) rfl rfl (by kernel_rfl) (by kernel_rfl) (by kernel_rfl) fun a hF => e_x (v := (.int .i64 e_9.Area)) 2 hF hS rfl (ex_load1 0 0 Tryz.underlying3 rfl rfl rfl rfl) rfl rfl (by kernel_rfl) (by kernel_rfl) (by kernel_rfl) (by kernel_rfl) fun a hF => e_p (v := s1.v) 3 hF rfl (ex_move rfl) rfl rfl (by kernel_rfl) (by kernel_rfl) (by kernel_rfl) fun a hF => e_x (v := (.agg #[(.int .i64 e_9.Area), (.int .i64 e_9.House), s11.v])) 4 hF hS rfl (ex_loadA (vs := [(.int .i64 e_9.Area), (.int .i64 e_9.House), s11.v]) 0 0 Tryz.underlying36 rfl sz36 rfl rfl rfl rfl) rfl rfl (by kernel_rfl) (by kernel_rfl) (by kernel_rfl) (by kernel_rfl) fun a hF => e_p (v := s4.v) 5 hF rfl (ex_move rfl) rfl rfl (by kernel_rfl) (by kernel_rfl) (by kernel_rfl) fun a hF => e_one 6 (by kernel_rfl) ?_
     obtain ⟨t_13, ht_13, hb4⟩ := bindS hb4
     obtain ⟨_, hg1, hb4⟩ := bindS hb4
     obtain ⟨_, hg2, hb4⟩ := bindS hb4
     obtain ⟨kl, hkl⟩ := key58 (k := (e_9.Area, t_13)) hg1 hg2
     obtain rfl := someI hb4
     refine e_call (vs := [s1.v, (.agg #[(.int .i64 e_9.Area), (.int .i64 e_9.House), s11.v]), s4.v]) hF hS rfl Tryz.func25 (by kernel_rfl) rfl rfl rfl (c_impl_keyOf p_s e_9 p_vars t_13 ht_13 _ m hS.vis s1 h1 s11 h11 s4 h4) ?_
     rintro a w _ rfl hF hS
     refine e_p (v := encK (e_9.Area, t_13)) 7 hF rfl (ex_build (cells := [(.int .i64 e_9.Area), (.int .i64 t_13)]) rfl (by kernel_rfl)) rfl rfl (by kernel_rfl) (by kernel_rfl) (by kernel_rfl) fun a hF => e_all [8, 10] (by kernel_rfl) rfl ⟨?_, ?_, trivial⟩
     ·refine e_op rfl rfl fun _ hK => wp_lookV hF (hM.keep hS hbo) rfl rfl Tryz.underlying57 keyed58 hkl zero3 rfl fun a v hlv hF => hK _ _ (Below.refl _ _) ?_
      obtain rfl := look_cget hnd hlv
      refine e_p (v := (.int .i64 (w64 (cget C (e_9.Area, t_13) + 1)))) 9 hF rfl (ex_ibin rfl rfl rfl) rfl rfl (by kernel_rfl) (by kernel_rfl) (by kernel_rfl) fun a hF => e_one 10 (by kernel_rfl) ?_
      have hM2 := hM.keep hS hbo
      have hS2 := hSo.unrb hS (MLe.refl _ _)
      refine e_opl rfl rfl rfl fun _ hK => wp_mapEntry hF hS2 hM2 hbn rfl rfl Tryz.underlying57 keyed58 hkl zero3 rfl fun a w j v bn E' es' clock' hE hF hS hMW hj => hK _ _ ⟨kpN, ?_⟩
      refine e_p (v := goInt (bn : Nat)) 11 hF rfl (ex_extract rfl rfl) rfl rfl (by kernel_rfl) (by kernel_rfl) (by kernel_rfl) fun a hF => e_one 12 (by kernel_rfl) ?_
      refine e_opl rfl rfl rfl fun _ hK => wp_entryStore hF hS hMW hbn hj rfl rfl rfl fun a w hF hS hM => hK _ _ ⟨kpN, e_end (by kernel_rfl) (n_ib (n_sq ?_)) _⟩
      rw [(ent_cget hnd hE).2] at hM
      refine q_region (q_x (v := (.int .i64 (w64 (t_8 + 1)))) hF hS (ex_ibin rfl rfl rfl) rfl rfl fun a hF => q_x (v := (.int .i64 (w64 (t_8 + 1)))) hF hS (ex_move rfl) rfl rfl fun a hF => q_end ?_)
      exact ⟨rfl, _, _, rfl, hF.sub ⟨rfl, rfl, rfl, rfl, rfl, rfl, rfl, trivial⟩, hS.mask [false], hM⟩
     ·have hM2 := hM.keep hS hbo
      have hS2 := hSo.unrb hS (MLe.refl _ _)
      refine e_opl rfl rfl rfl fun _ hK => wp_mapEntry hF hS2 hM2 hbn rfl rfl Tryz.underlying57 keyed58 hkl zero3 rfl fun a w j v bn E' es' clock' hE hF hS hMW hj => hK _ _ ⟨kpN, ?_⟩
      refine e_p (v := goInt (bn : Nat)) 11 hF rfl (ex_extract rfl rfl) rfl rfl (by kernel_rfl) (by kernel_rfl) (by kernel_rfl) fun a hF => e_one 8 (by kernel_rfl) ?_
      obtain ⟨⟨C', rfl, hcg⟩, hfin⟩ := ent_cget hnd hE
      refine e_op rfl rfl fun _ hK => wp_lookV hF ⟨_, _, hMW⟩ rfl rfl Tryz.underlying57 keyed58 hkl zero3 rfl fun a v hlv hF => hK _ _ (Below.refl _ _) ?_
      obtain rfl := look_cget hMW.nodK hlv
      rw [hcg] at hF
      refine e_p (v := (.int .i64 (w64 (cget C (e_9.Area, t_13) + 1)))) 9 hF rfl (ex_ibin rfl rfl rfl) rfl rfl (by kernel_rfl) (by kernel_rfl) (by kernel_rfl) fun a hF => e_one 12 (by kernel_rfl) ?_
      refine e_opl rfl rfl rfl fun _ hK => wp_entryStore hF hS hMW hbn hj rfl rfl rfl fun a w hF hS hM => hK _ _ ⟨kpN, e_end (by kernel_rfl) (n_ib (n_sq ?_)) _⟩
      rw [hfin] at hM
      refine q_region (q_x (v := (.int .i64 (w64 (t_8 + 1)))) hF hS (ex_ibin rfl rfl rfl) rfl rfl fun a hF => q_x (v := (.int .i64 (w64 (t_8 + 1)))) hF hS (ex_move rfl) rfl rfl fun a hF => q_end ?_)
      exact ⟨rfl, _, _, rfl, hF.sub ⟨rfl, rfl, rfl, rfl, rfl, rfl, rfl, trivial⟩, hS.mask [false], hM⟩
   ·rintro e a w ⟨rfl, hF, hS, hM⟩
    refine x_ib (n_sq ?_)
    refine q_seq (q_seq (q_region (q_x (v := s3.v) hF hS (ex_move rfl) rfl rfl fun a hF => q_x (v := (.int .i64 (goLen p_b))) hF hS (ex_len Tryz.underlying25 rfl h3.len) rfl rfl fun a hF => q_x (v := (.int .i64 0)) hF hS (ex_move rfl) rfl rfl fun a hF => q_end (n_sq (q_block ?_)))))
    obtain ⟨C2, hl6, hr⟩ := bindS hr
    refine q_loop (fun (s : (List ((Int × Int) × Int)) × Int) a w => ∃ (C : List ((Int × Int) × Int)) (t_8 : Int), s = (C, t_8) ∧ Fr a 75 [(0, s1.v), (3, s4.v), (10, (.map (some b))), (48, s3.v), (49, (.int .i64 (goLen p_b))), (50, (.int .i64 t_8))] ∧ St [] w0 w m [] ∧ MapI Tryz.prog 58 w b (encC C)) (fun (o : List ((Int × Int) × Int)) e a w => e = .exit 2 ∧ Fr a 75 [(10, (.map (some b)))] ∧ St [] w0 w m [] ∧ MapI Tryz.prog 58 w b (encC o)) hl6 ⟨_, _, rfl, hF.sub ⟨rfl, rfl, rfl, rfl, rfl, rfl, trivial⟩, hS, hM⟩ ?_ ?_
    ·clear hF hS hM
     rintro s a wB st ⟨C, t_8, rfl, hF, hS, hM⟩ hb4
     unfold impl_KeepsCounts_l1 at hb4
     refine q_seq (q_region (q_x (v := (.bool (decide (t_8 < (goLen p_b))))) hF hS (ex_ibin rfl rfl rfl) rfl rfl fun a hF => q_end (n_sq (q_seq ?_))))
     rcases bcase (decide (t_8 < (goLen p_b))) with hc5 | hc5
     ·have hb4 := cond_f hc5 hb4
      refine q_cond_f hF rfl hc5 (q_exit (x_sq ?_))
      obtain rfl := someI hb4
      exact ⟨nofun, .inl ⟨rfl, hF.sub ⟨rfl, trivial⟩, hS, hM⟩⟩
     ·have hb4 := cond_t hc5 hb4
      have hSo := hS
      have hbo := hM.out hS
      have hnd : ((encC C).map (·.1)).Nodup := by obtain ⟨_, _, hh⟩ := hM; exact hh.nodK
      have hS := hS.rb
      refine q_cond_t hF rfl hc5 (q_skipc (n_sq (q_seq (q_block (q_seq (q_region ?_))))))
      obtain ⟨e_9, he_9, hb4⟩ := bindS hb4
      obtain ⟨vs10, at10, d10⟩ := h3.at he_9 3 rfl
      obtain ⟨s11, rfl, h11⟩ : ∃ s11 : Sl, vs10 = [(.int .i64 e_9.Area), (.int .i64 e_9.House), s11.v] ∧ Rd m s11 e_9.Values := d10
      refine q_x (v := (elP s3 (t_8.toNat * 3))) hF hS (ex_indexAddr Tryz.underlying25 sz36 rfl rfl (h3.idx he_9)) rfl rfl fun a hF => q_x (v := (.agg #[(.int .i64 e_9.Area), (.int .i64 e_9.House), s11.v])) hF hS (ex_loadEA (us := [(.int .i64 e_9.Area), (.int .i64 e_9.House), s11.v]) 0 Tryz.underlying36 rfl sz36 rfl ((at10).at) rfl rfl rfl) rfl rfl fun a hF => q_alloc (cs := [(.int .i64 0), (.int .i64 0), nilS.v]) hF hS rfl rfl rfl fun a w b12 hF hS => q_store (vs := [(.int .i64 e_9.Area), (.int .i64 e_9.House), s11.v]) (cs' := [(.int .i64 e_9.Area), (.int .i64 e_9.House), s11.v]) 0 0 hF hS sz36 rfl rfl rfl rfl rfl rfl rfl rfl fun a w hF hS => q_end (n_sq (e_region ⟨[10, 12], []⟩ mixed fun w' hw' => ?_))
      have hS := hS.below hw'
      refine e_p (v := (.map (some b))) 0 hF rfl (ex_move rfl) rfl rfl (by kernel_rfl) (by kernel_rfl) (by kernel_rfl) fun a hF => e_p (v := (.pointer (some ⟨b12, 0, none⟩))) 1 hF rfl (ex_fieldAddr Tryz.underlying36 rfl sz3 rfl rfl) rfl rfl (by kernel_rfl) (by kernel_rfl) (by kernel_rfl) fun a hF => e_x (v := (.int .i64 e_9.Area)) 2 hF hS rfl (ex_load1 0 0 Tryz.underlying3 rfl rfl rfl rfl) rfl rfl (by kernel_rfl) (by kernel_rfl) (by kernel_rfl) (by kernel_rfl) fun a hF => e_p (v := s1.v) 3 hF rfl (ex_move rfl) rfl rfl (by kernel_rfl) (by kernel_rfl) (by kernel_rfl) fun a hF => e_x (v := (.agg #[(.int .i64 e_9.Area), (.int .i64 e_9.House), s11.v])) 4 hF hS rfl (ex_loadA (vs := [(.int .i64 e_9.Area), (.int .i64 e_9.House), s11.v]) 0 0 Tryz.underlying36 rfl sz36 rfl rfl rfl rfl) rfl rfl (by kernel_rfl) (by kernel_rfl) (by kernel_rfl) (by kernel_rfl) fun a hF => e_p (v := s4.v) 5 hF rfl (ex_move rfl) rfl rfl (by kernel_rfl) (by kernel_rfl) (by kernel_rfl) fun a hF => e_one 6 (by kernel_rfl) ?_
      obtain ⟨t_13, ht_13, hb4⟩ := bindS hb4
      obtain ⟨_, hg1, hb4⟩ := bindS hb4
      obtain ⟨_, hg2, hb4⟩ := bindS hb4
      obtain ⟨kl, hkl⟩ := key58 (k := (e_9.Area, t_13)) hg1 hg2
      obtain rfl := someI hb4
      refine e_call (vs := [s1.v, (.agg #[(.int .i64 e_9.Area), (.int .i64 e_9.House), s11.v]), s4.v]) hF hS rfl Tryz.func25 (by kernel_rfl) rfl rfl rfl (c_impl_keyOf p_s e_9 p_vars t_13 ht_13 _ m hS.vis s1 h1 s11 h11 s4 h4) ?_
      rintro a w _ rfl hF hS
      refine e_p (v := encK (e_9.Area, t_13)) 7 hF rfl (ex_build (cells := [(.int .i64 e_9.Area), (.int .i64 t_13)]) rfl (by kernel_rfl)) rfl rfl (by kernel_rfl) (by kernel_rfl) (by kernel_rfl) fun a hF => e_all [8, 10] (by kernel_rfl) rfl ⟨?_, ?_, trivial⟩
      ·refine e_op rfl rfl fun _ hK => wp_lookV hF (hM.keep hS hbo) rfl rfl Tryz.underlying57 keyed58 hkl zero3 rfl fun a v hlv hF => hK _ _ (Below.refl _ _) ?_
       obtain rfl := look_cget hnd hlv
       refine e_p (v := (.int .i64 (w64 (cget C (e_9.Area, t_13) + (-1))))) 9 hF rfl (ex_ibin rfl rfl rfl) rfl rfl (by kernel_rfl) (by kernel_rfl) (by kernel_rfl) fun a hF => e_one 10 (by kernel_rfl) ?_
       have hM2 := hM.keep hS hbo
       have hS2 := hSo.unrb hS (MLe.refl _ _)
       refine e_opl rfl rfl rfl fun _ hK => wp_mapEntry hF hS2 hM2 hbn rfl rfl Tryz.underlying57 keyed58 hkl zero3 rfl fun a w j v bn E' es' clock' hE hF hS hMW hj => hK _ _ ⟨kpN, ?_⟩
       refine e_p (v := goInt (bn : Nat)) 11 hF rfl (ex_extract rfl rfl) rfl rfl (by kernel_rfl) (by kernel_rfl) (by kernel_rfl) fun a hF => e_one 12 (by kernel_rfl) ?_
       refine e_opl rfl rfl rfl fun _ hK => wp_entryStore hF hS hMW hbn hj rfl rfl rfl fun a w hF hS hM => hK _ _ ⟨kpN, e_end (by kernel_rfl) (n_ib (n_sq ?_)) _⟩
       rw [(ent_cget hnd hE).2] at hM
       refine q_region (q_x (v := (.int .i64 (w64 (t_8 + 1)))) hF hS (ex_ibin rfl rfl rfl) rfl rfl fun a hF => q_x (v := (.int .i64 (w64 (t_8 + 1)))) hF hS (ex_move rfl) rfl rfl fun a hF => q_end ?_)
       exact ⟨rfl, _, _, rfl, hF.sub ⟨rfl, rfl, rfl, rfl, rfl, rfl, trivial⟩, hS.mask [false], hM⟩
      ·have hM2 := hM.keep hS hbo
       have hS2 := hSo.unrb hS (MLe.refl _ _)
       refine e_opl rfl rfl rfl fun _ hK => wp_mapEntry hF hS2 hM2 hbn rfl rfl Tryz.underlying57 keyed58 hkl zero3 rfl fun a w j v bn E' es' clock' hE hF hS hMW hj => hK _ _ ⟨kpN, ?_⟩
       refine e_p (v := goInt (bn : Nat)) 11 hF rfl (ex_extract rfl rfl) rfl rfl (by kernel_rfl) (by kernel_rfl) (by kernel_rfl) fun a hF => e_one 8 (by kernel_rfl) ?_
       obtain ⟨⟨C', rfl, hcg⟩, hfin⟩ := ent_cget hnd hE
       refine e_op rfl rfl fun _ hK => wp_lookV hF ⟨_, _, hMW⟩ rfl rfl Tryz.underlying57 keyed58 hkl zero3 rfl fun a v hlv hF => hK _ _ (Below.refl _ _) ?_
       obtain rfl := look_cget hMW.nodK hlv
       rw [hcg] at hF
       refine e_p (v := (.int .i64 (w64 (cget C (e_9.Area, t_13) + (-1))))) 9 hF rfl (ex_ibin rfl rfl rfl) rfl rfl (by kernel_rfl) (by kernel_rfl) (by kernel_rfl) fun a hF => e_one 12 (by kernel_rfl) ?_
       refine e_opl rfl rfl rfl fun _ hK => wp_entryStore hF hS hMW hbn hj rfl rfl rfl fun a w hF hS hM => hK _ _ ⟨kpN, e_end (by kernel_rfl) (n_ib (n_sq ?_)) _⟩
       rw [hfin] at hM
       refine q_region (q_x (v := (.int .i64 (w64 (t_8 + 1)))) hF hS (ex_ibin rfl rfl rfl) rfl rfl fun a hF => q_x (v := (.int .i64 (w64 (t_8 + 1)))) hF hS (ex_move rfl) rfl rfl fun a hF => q_end ?_)
       exact ⟨rfl, _, _, rfl, hF.sub ⟨rfl, rfl, rfl, rfl, rfl, rfl, trivial⟩, hS.mask [false], hM⟩
    ·rintro e a w ⟨rfl, hF, hS, hM⟩
     refine x_ib (n_sq ?_)
     obtain rfl := someI hr
     refine q_seq (q_seq (q_region (q_x (v := (.map (some b))) hF hS (ex_move rfl) rfl rfl fun a hF => q_do rfl fun _ hK => wp_range hF hS hM rfl Tryz.underlying57 rfl fun a w r hrn hF hS hI => hK _ _ (q_end (n_sq (q_block ?_))))))
     refine q_loopM (fun k a w => ∃ left, k = left.length ∧ Fr a 75 [(68, (.pointer (some ⟨r, 0, none⟩)))] ∧ St [] w0 w m [] ∧ ItM Tryz.prog 58 w r b (encC C2) left ∧ ∀ p ∈ encC C2, p ∈ left ∨ p.2 = .int .i64 0) ⟨_, rfl, hF.sub ⟨rfl, trivial⟩, hS, hI, fun p hp => .inl hp⟩ ?_
     clear hF hS hI
     rintro k a w ⟨left, rfl, hF, hS, hI, hall⟩
     have hsub := hI.sub
     refine q_seq (q_region (q_do rfl fun _ hK => wp_next hF hS hI hrn rfl rfl (fun a hnil hF => hK _ _ (q_x (v := (.bool false)) hF hS (ex_extract rfl rfl) rfl rfl fun a hF => q_end (n_sq (q_seq (q_cond_f hF rfl rfl (q_exit (x_sq ?_))))))) fun a w key v left' hm hlt hq hF hS hI hE => hK _ _ (q_x (v := (.bool true)) hF hS (ex_extract rfl rfl) rfl rfl fun a hF => q_end (n_sq (q_seq (q_cond_t hF rfl rfl (q_skipc (n_sq (q_block (q_seq (q_region (q_do rfl fun _ hK => wp_entry hF hE rfl rfl fun a hF => hK _ _ ?_))))))))))))
     ·refine .inr ⟨nofun, x_ib (n_sq ?_)⟩
      have h0 : C2.all (fun p => p.2 == 0) = true := by
       rw [List.all_eq_true]
       intro p hp
       rcases hall (encK p.1, .int .i64 p.2) (List.mem_map.2 ⟨p, hp, rfl⟩) with h | h
       · rw [hnil] at h; cases h
       · simpa using h
      rw [h0]
      refine q_seq (q_region (q_x (v := (.bool true)) hF hS (ex_assign rfl) rfl rfl fun a hF => q_x (v := (.bool true)) hF hS (ex_assign rfl) rfl rfl fun a hF => q_end (n_sq (q_ret ?_))))
      exact ret_of hF hS rfl (.tmp rfl (.tmp rfl .nil)) rfl
     ·obtain ⟨⟨kk, nn⟩, hpC, hpe⟩ := List.mem_map.1 (hsub _ hm)
      obtain ⟨rfl, rfl⟩ := Prod.mk.inj hpe
      refine q_x (v := (.int .i64 nn)) hF hS (ex_extract rfl rfl) rfl rfl fun a hF => q_x (v := (.int .i64 nn)) hF hS (ex_assign rfl) rfl rfl fun a hF => q_end (n_sq (q_seq (q_region (q_x (v := (.int .i64 nn)) hF hS (ex_move rfl) rfl rfl fun a hF => q_x (v := (.bool (nn != 0))) hF hS (ex_ibin rfl rfl rfl) rfl rfl fun a hF => q_end (n_sq ?_)))))
      rcases bcase (nn != 0) with hc10 | hc10
      ·refine q_cond_f hF rfl hc10 (q_skipc (n_ib ?_))
       refine .inl ⟨rfl, _, hlt, left', rfl, hF.sub ⟨rfl, trivial⟩, hS, hI, fun p hp => ?_⟩
       rcases hall p hp with h | h
       · rcases hq p h with h | rfl
         · exact .inl h
         · exact .inr (by simp at hc10; simp [hc10])
       · exact .inr h
      ·refine q_cond_t hF rfl hc10 (q_seq (q_region (q_x (v := (.bool false)) hF hS (ex_assign rfl) rfl rfl fun a hF => q_x (v := (.bool true)) hF hS (ex_assign rfl) rfl rfl fun a hF => q_end (n_sq (q_ret (r_ib ?_))))))
       refine .inr ⟨nofun, r_ib (r_sq ?_)⟩
       have h0 : C2.all (fun p => p.2 == 0) = false := by
        rw [List.all_eq_false]
        exact ⟨(kk, nn), hpC, by simp at hc10; simpa using hc10⟩
       rw [h0]
       exact ret_of hF hS rfl (.tmp rfl (.tmp rfl .nil)) rfl
  ·have hr := cond_t hc3 hr
   refine q_cond_t hF rfl hc3 (q_seq (q_region (q_x (v := (.bool false)) hF hS (ex_assign rfl) rfl rfl fun a hF => q_x (v := (.bool false)) hF hS (ex_assign rfl) rfl rfl fun a hF => q_end (n_sq (q_ret (r_sq ?_))))))
   obtain rfl := someI hr
   exact ret_of hF hS rfl (.tmp rfl (.tmp rfl .nil)) rfl

theorem c_spec_swCount (p_s : List impl_Variable) (p_l : List impl_Record) (p_vars : List Int) (p_area : Int) (p_key : Int) (r : Int) (hr : spec_swCount p_s p_l p_vars p_area p_key = some r) (w0 : World) (m : Mem) (hv : Vis m w0) (s1 : Sl) (h1 : Rd m s1 p_s) (s2 : Sl) (h2 : Rd m s2 p_l) (s3 : Sl) (h3 : Rd m s3 p_vars) :
  Ret Tryz.prog 33 [s1.v, s2.v, s3.v, (.int .i64 p_area), (.int .i64 p_key)] w0 (fun v _ => v = (.int .i64 r)) := by
 unfold spec_swCount at hr
 refine ret_start Tryz.func33 rfl 37 rfl rfl m hv fun a hF hS => q_seq (q_region (q_x (v := (.int .i64 0)) hF hS (ex_assign rfl) rfl rfl fun a hF => q_end (n_sq (q_seq (q_region (q_x (v := (.int .i64 0)) hF hS (ex_assign rfl) rfl rfl fun a hF => q_end (n_sq (q_seq (q_seq (q_region (q_x (v := s2.v) hF hS (ex_move rfl) rfl rfl fun a hF => q_x (v := (.int .i64 (goLen p_l))) hF hS (ex_len Tryz.underlying25 rfl h2.len) rfl rfl fun a hF => q_x (v := (.int .i64 0)) hF hS (ex_move rfl) rfl rfl fun a hF => q_end (n_sq (q_block ?_)))))))))))))
 obtain ⟨n_13, hl1, hr⟩ := bindS hr
 refine q_loop (fun (s : Int × Int) a w => ∃ n_4, ∃ t_5, s = (n_4, t_5) ∧ Fr a 37 [(0, s1.v), (2, s3.v), (3, (.int .i64 p_area)), (4, (.int .i64 p_key)), (11, (.int .i64 n_4)), (14, s2.v), (15, (.int .i64 (goLen p_l))), (16, (.int .i64 t_5))] ∧ St [] w0 w m []) (fun (n_13 : Int) e a w => e = .exit 0 ∧ Fr a 37 [(11, (.int .i64 n_13))] ∧ St [] w0 w m []) hl1 ⟨_, _, rfl, hF.sub ⟨rfl, rfl, rfl, rfl, rfl, rfl, rfl, rfl, trivial⟩, hS⟩ ?_ ?_
 ·clear hF hS
  rintro s a w st ⟨n_4, t_5, rfl, hF, hS⟩ hb1
  unfold spec_swCount_l1 at hb1
  refine q_seq (q_region (q_x (v := (.bool (decide (t_5 < (goLen p_l))))) hF hS (ex_ibin rfl rfl rfl) rfl rfl fun a hF => q_end (n_sq (q_seq ?_))))
  rcases bcase (decide (t_5 < (goLen p_l))) with hc2 | hc2
  ·have hb1 := cond_f hc2 hb1
   refine q_cond_f hF rfl hc2 (q_exit (x_sq ?_))
   obtain rfl := someI hb1
   exact ⟨nofun, .inl ⟨rfl, hF.sub ⟨rfl, trivial⟩, hS⟩⟩
  ·have hb1 := cond_t hc2 hb1
   refine q_cond_t hF rfl hc2 (q_skipc (n_sq (q_seq (q_block (q_seq (q_region ?_))))))
   obtain ⟨e_6, he_6, hb1⟩ := bindS hb1
   obtain ⟨vs7, at7, d7⟩ := h2.at he_6 3 rfl
   obtain ⟨s8, rfl, h8⟩ : ∃ s8 : Sl, vs7 = [(.int .i64 e_6.Area), (.int .i64 e_6.House), s8.v] ∧ Rd m s8 e_6.Values := d7
   refine q_x (v := (elP s2 (t_5.toNat * 3))) hF hS (ex_indexAddr Tryz.underlying25 sz36 rfl rfl (h2.idx he_6)) rfl rfl fun a hF => q_x (v := (.agg #[(.int .i64 e_6.Area), (.int .i64 e_6.House), s8.v])) hF hS (ex_loadEA (us := [(.int .i64 e_6.Area), (.int .i64 e_6.House), s8.v]) 0 Tryz.underlying36 rfl sz36 rfl ((at7).at) rfl rfl rfl) rfl rfl fun a hF => q_alloc (cs := [(.int .i64 0), (.int .i64 0), nilS.v]) hF hS rfl rfl rfl fun a w b9 hF hS => q_store (vs := [(.int .i64 e_6.Area), (.int .i64 e_6.House), s8.v]) (cs' := [(.int .i64 e_6.Area), (.int .i64 e_6.House), s8.v]) 0 0 hF hS sz36 rfl rfl rfl rfl rfl rfl rfl rfl fun a w hF hS => q_end (n_sq (q_seq ?_))
   obtain ⟨t_11, hj3, hb1⟩ := bindS hb1
   refine q_join (fun a w => Fr a 37 [(0, s1.v), (2, s3.v), (3, (.int .i64 p_area)), (4, (.int .i64 p_key)), (11, (.int .i64 n_4)), (14, s2.v), (15, (.int .i64 (goLen p_l))), (16, (.int .i64 t_5)), (32, (.bool t_11))] ∧ St [] w0 w m []) ?_ ?_
   ·refine q_region (q_x (v := (.pointer (some ⟨b9, 0, none⟩))) hF hS (ex_fieldAddr Tryz.underlying36 rfl sz3 rfl rfl) rfl rfl fun a hF => q_x (v := (.int .i64 e_6.Area)) hF hS (ex_load1 0 0 Tryz.underlying3 rfl rfl rfl rfl) rfl rfl fun a hF => q_x (v := (.int .i64 p_area)) hF hS (ex_move rfl) rfl rfl fun a hF => q_x (v := (.bool (e_6.Area == p_area))) hF hS (ex_ibin rfl rfl rfl) rfl rfl fun a hF => q_x (v := (.bool (e_6.Area == p_area))) hF hS (ex_move rfl) rfl rfl fun a hF => ?_)
    rcases bcase (e_6.Area == p_area) with hc4 | hc4
    ·have hj3 := cond_f hc4 hj3
     refine q_skip hF (wanted_f hF rfl rfl rfl hc4 rfl) rfl fun a hF => q_skip hF (wanted_f hF rfl rfl rfl hc4 rfl) rfl fun a hF => q_skip hF (wanted_f hF rfl rfl rfl hc4 rfl) rfl fun a hF => q_skip hF (wanted_f hF rfl rfl rfl hc4 rfl) rfl fun a hF => q_skip hF (wanted_f hF rfl rfl rfl hc4 rfl) rfl fun a hF => q_skip hF (wanted_f hF rfl rfl rfl hc4 rfl) rfl fun a hF => q_skip hF (wanted_f hF rfl rfl rfl hc4 rfl) rfl fun a hF => q_x (v := (.bool false)) hF hS (ex_pick_f rfl rfl hc4) rfl rfl fun a hF => q_end (n_jn ?_)
     obtain rfl := someI hj3
     exact ⟨hF.sub ⟨rfl, rfl, rfl, rfl, rfl, rfl, rfl, rfl, rfl, trivial⟩, hS.mask [false]⟩
    ·have hj3 := cond_t hc4 hj3
     refine q_xg (v := s1.v) hF hS (ex_move rfl) (wanted_t hF rfl rfl rfl hc4) rfl fun a hF => q_xg (v := (.pointer (some ⟨b9, 2, none⟩))) hF hS (ex_fieldAddr Tryz.underlying36 rfl sz26 rfl rfl) (wanted_t hF rfl rfl rfl hc4) rfl fun a hF => q_xg (v := s8.v) hF hS (ex_load1 0 0 Tryz.underlying26 rfl rfl rfl rfl) (wanted_t hF rfl rfl rfl hc4) rfl fun a hF => q_xg (v := s3.v) hF hS (ex_move rfl) (wanted_t hF rfl rfl rfl hc4) rfl fun a hF => ?_
     obtain ⟨t_10, ht_10, hj3⟩ := bindS hj3
     refine q_callg (vs := [s1.v, s8.v, s3.v]) hF hS (wanted_t hF rfl rfl rfl hc4) Tryz.func32 (by kernel_rfl) rfl rfl rfl (c_spec_swKey p_s e_6.Values p_vars t_10 ht_10 _ m hS.vis s1 h1 s8 h8 s3 h3) ?_
     rintro a w _ rfl hF hS
     refine q_xg (v := (.int .i64 p_key)) hF hS (ex_move rfl) (wanted_t hF rfl rfl rfl hc4) rfl fun a hF => q_xg (v := (.bool (t_10 == p_key))) hF hS (ex_ibin rfl rfl rfl) (wanted_t hF rfl rfl rfl hc4) rfl fun a hF => q_x (v := (.bool (t_10 == p_key))) hF hS (ex_pick_t rfl rfl hc4) rfl rfl fun a hF => q_end (n_jn ?_)
     obtain rfl := someI hj3
     exact ⟨hF.sub ⟨rfl, rfl, rfl, rfl, rfl, rfl, rfl, rfl, rfl, trivial⟩, hS.mask [false]⟩
   ·rintro a w ⟨hF, hS⟩
    refine n_sq ?_
    obtain ⟨n_12, hj5, hb1⟩ := bindS hb1
    refine q_join (fun a w => Fr a 37 [(0, s1.v), (2, s3.v), (3, (.int .i64 p_area)), (4, (.int .i64 p_key)), (11, (.int .i64 n_12)), (14, s2.v), (15, (.int .i64 (goLen p_l))), (16, (.int .i64 t_5))] ∧ St [] w0 w m []) ?_ ?_
    ·rcases bcase (t_11) with hc6 | hc6
     ·have hj5 := cond_f hc6 hj5
      refine q_cond_f hF rfl hc6 (q_skipc (n_jn ?_))
      obtain rfl := someI hj5
      exact ⟨hF.sub ⟨rfl, rfl, rfl, rfl, rfl, rfl, rfl, rfl, trivial⟩, hS⟩
     ·have hj5 := cond_t hc6 hj5
      refine q_cond_t hF rfl hc6 (q_region (q_x (v := (.int .i64 n_4)) hF hS (ex_move rfl) rfl rfl fun a hF => q_x (v := (.int .i64 (w64 (n_4 + 1)))) hF hS (ex_ibin rfl rfl rfl) rfl rfl fun a hF => q_x (v := (.int .i64 (w64 (n_4 + 1)))) hF hS (ex_assign rfl) rfl rfl fun a hF => q_end (n_jn ?_)))
      obtain rfl := someI hj5
      exact ⟨hF.sub ⟨rfl, rfl, rfl, rfl, rfl, rfl, rfl, rfl, trivial⟩, hS⟩
    ·rintro a w ⟨hF, hS⟩
     refine n_ib (n_sq ?_)
     refine q_region (q_x (v := (.int .i64 (w64 (t_5 + 1)))) hF hS (ex_ibin rfl rfl rfl) rfl rfl fun a hF => q_x (v := (.int .i64 (w64 (t_5 + 1)))) hF hS (ex_move rfl) rfl rfl fun a hF => q_end ?_)
     obtain rfl := someI hb1
     exact ⟨rfl, _, _, rfl, hF.sub ⟨rfl, rfl, rfl, rfl, rfl, rfl, rfl, rfl, trivial⟩, hS⟩
 ·rintro e a w ⟨rfl, hF, hS⟩
  refine x_ib (n_sq ?_)
  refine q_seq (q_region (q_x (v := (.int .i64 n_13)) hF hS (ex_move rfl) rfl rfl fun a hF => q_x (v := (.int .i64 n_13)) hF hS (ex_assign rfl) rfl rfl fun a hF => q_end (n_sq (q_ret ?_))))
  obtain rfl := someI hr
  exact ret_of hF hS rfl (.tmp rfl .nil) rfl

theorem c_spec_KeepsCounts (p_s : List impl_Variable) (p_a : List impl_Record) (p_b : List impl_Record) (p_vars : List Int) (r : Bool × Bool) (hr : spec_KeepsCounts p_s p_a p_b p_vars = some r) (w0 : World) (m : Mem) (hv : Vis m w0) (s1 : Sl) (h1 : Rd m s1 p_s) (s2 : Sl) (h2 : Rd m s2 p_a) (s3 : Sl) (h3 : Rd m s3 p_b) (s4 : Sl) (h4 : Rd m s4 p_vars) :
  Ret Tryz.prog 15 [s1.v, s2.v, s3.v, s4.v] w0 (fun v _ => v = (.tuple #[(.bool r.1), (.bool r.2)])) := by
 unfold spec_KeepsCounts at hr
 refine ret_start Tryz.func15 rfl 55 rfl rfl m hv fun a hF hS => q_seq (q_region (q_x (v := (.bool false)) hF hS (ex_assign rfl) rfl rfl fun a hF => q_x (v := (.bool false)) hF hS (ex_assign rfl) rfl rfl fun a hF => q_end (n_sq (q_seq (q_seq ?_)))))
 obtain ⟨t_7, hj1, hr⟩ := bindS hr
 refine q_join (fun a w => Fr a 55 [(0, s1.v), (1, s2.v), (2, s3.v), (3, s4.v), (23, (.bool t_7))] ∧ St [] w0 w m []) ?_ ?_
 ·refine q_region (q_x (v := s1.v) hF hS (ex_move rfl) rfl rfl fun a hF => q_x (v := s2.v) hF hS (ex_move rfl) rfl rfl fun a hF => q_x (v := s4.v) hF hS (ex_move rfl) rfl rfl fun a hF => ?_)
  obtain ⟨t_5, ht_5, hj1⟩ := bindS hj1
  refine q_call (vs := [s1.v, s2.v, s4.v]) hF hS Tryz.func19 (by kernel_rfl) rfl rfl rfl (c_spec_swInput p_s p_a p_vars t_5 ht_5 _ m hS.vis s1 h1 s2 h2 s4 h4) ?_
  rintro a w _ rfl hF hS
  refine q_x (v := (.bool (!t_5))) hF hS (ex_not rfl) rfl rfl fun a hF => q_x (v := (.bool (!t_5))) hF hS (ex_move rfl) rfl rfl fun a hF => ?_
  rcases bcase (!t_5) with hc2 | hc2
  ·have hj1 := cond_f hc2 hj1
   refine q_xg (v := s1.v) hF hS (ex_move rfl) (wanted_t hF rfl rfl rfl hc2) rfl fun a hF => q_xg (v := s3.v) hF hS (ex_move rfl) (wanted_t hF rfl rfl rfl hc2) rfl fun a hF => ?_
   obtain ⟨t_6, ht_6, hj1⟩ := bindS hj1
   refine q_callg (vs := [s1.v, s3.v]) hF hS (wanted_t hF rfl rfl rfl hc2) Tryz.func31 (by kernel_rfl) rfl rfl rfl (c_spec_dGood p_s p_b t_6 ht_6 _ m hS.vis s1 h1 s3 h3) ?_
   rintro a w _ rfl hF hS
   refine q_xg (v := (.bool (!t_6))) hF hS (ex_not rfl) (wanted_t hF rfl rfl rfl hc2) rfl fun a hF => q_x (v := (.bool (!t_6))) hF hS (ex_pick_f rfl rfl hc2) rfl rfl fun a hF => q_end (n_jn ?_)
   obtain rfl := someI hj1
   exact ⟨hF.sub ⟨rfl, rfl, rfl, rfl, rfl, trivial⟩, hS⟩
  ·have hj1 := cond_t hc2 hj1
   refine q_skip hF (wanted_f hF rfl rfl rfl hc2 rfl) rfl fun a hF => q_skip hF (wanted_f hF rfl rfl rfl hc2 rfl) rfl fun a hF => q_skip hF (wanted_f hF rfl rfl rfl hc2 rfl) rfl fun a hF => q_skip hF (wanted_f hF rfl rfl rfl hc2 rfl) rfl fun a hF => q_x (v := (.bool true)) hF hS (ex_pick_t rfl rfl hc2) rfl rfl fun a hF => q_end (n_jn ?_)
   obtain rfl := someI hj1
   exact ⟨hF.sub ⟨rfl, rfl, rfl, rfl, rfl, trivial⟩, hS⟩
 ·rintro a w ⟨hF, hS⟩
  refine n_sq ?_
  rcases bcase (t_7) with hc3 | hc3
  ·have hr := cond_f hc3 hr
   refine q_cond_f hF rfl hc3 (q_skipc (n_sq (q_seq (q_seq (q_region (q_do rfl fun _ hK => wp_build0 (α := impl_Record) hF hS Tryz.underlying25 inf36 rfl fun a w q8 s8 hF hS h8 _ => hK _ _ (q_x (v := s2.v) hF hS (ex_move rfl) rfl rfl fun a hF => ?_)))))))
   obtain ⟨l_9, hl_9, hr⟩ := bindS hr
   refine q_do rfl fun _ hK => wp_append hF hS h8 Tryz.underlying25 inf36 rfl rfl rfl rfl (h2.vw hS.vis) rfl (by decide) hl_9 rfl fun a w q10 s10 hF hS h10 => hK _ _ (q_x (v := s3.v) hF hS (ex_move rfl) rfl rfl fun a hF => ?_)
   obtain ⟨l_11, hl_11, hr⟩ := bindS hr
   refine q_do rfl fun _ hK => wp_append hF hS h10 Tryz.underlying25 inf36 rfl rfl rfl rfl (h3.vw hS.vis) rfl (by decide) hl_11 rfl fun a w q12 s12 hF hS h12 => hK _ _ (q_x (v := (.int .i64 (goLen l_11))) hF hS (ex_len Tryz.underlying25 rfl h12.len) rfl rfl fun a hF => q_x (v := (.int .i64 0)) hF hS (ex_move rfl) rfl rfl fun a hF => q_end (n_sq (q_block ?_)))
   obtain ⟨o4, hl4, hr⟩ := bindS hr
   refine q_loop (fun (t_13 : Int) a w => Fr a 55 [(0, s1.v), (1, s2.v), (2, s3.v), (3, s4.v), (28, s12.v), (29, (.int .i64 (goLen l_11))), (30, (.int .i64 t_13))] ∧ St [] w0 w m [q12]) (fun (o : (Unit) ⊕ (Bool × Bool)) e a w => o = .inl () ∧ e = .exit 0 ∧ Fr a 55 [] ∧ St [] w0 w m []) hl4 ⟨hF.sub ⟨rfl, rfl, rfl, rfl, rfl, rfl, rfl, trivial⟩, hS⟩ ?_ ?_
   ·clear hF hS
    rintro t_13 a w st ⟨hF, hS⟩ hb4
    unfold spec_KeepsCounts_l1 at hb4
    refine q_seq (q_region (q_x (v := (.bool (decide (t_13 < (goLen l_11))))) hF hS (ex_ibin rfl rfl rfl) rfl rfl fun a hF => q_end (n_sq (q_seq ?_))))
    rcases bcase (decide (t_13 < (goLen l_11))) with hc5 | hc5
    ·have hb4 := cond_f hc5 hb4
     refine q_cond_f hF rfl hc5 (q_exit (x_sq ?_))
     obtain rfl := someI hb4
     exact ⟨nofun, .inl ⟨rfl, rfl, hF.sub trivial, hS.mask [false]⟩⟩
    ·have hb4 := cond_t hc5 hb4
     refine q_cond_t hF rfl hc5 (q_skipc (n_sq (q_seq (q_block (q_seq (q_region ?_))))))
     obtain ⟨e_14, he_14, hb4⟩ := bindS hb4
     obtain ⟨vs15, at15, d15⟩ := h12.at he_14 3 rfl
     obtain ⟨s16, rfl, h16⟩ : ∃ s16 : Sl, vs15 = [(.int .i64 e_14.Area), (.int .i64 e_14.House), s16.v] ∧ Rd m s16 e_14.Values := d15
     refine q_x (v := (elP s12 (t_13.toNat * 3))) hF hS (ex_indexAddr Tryz.underlying25 sz36 rfl rfl (h12.idx he_14)) rfl rfl fun a hF => q_x (v := (.agg #[(.int .i64 e_14.Area), (.int .i64 e_14.House), s16.v])) hF hS (ex_loadEA (us := [(.int .i64 e_14.Area), (.int .i64 e_14.House), s16.v]) 0 Tryz.underlying36 rfl sz36 rfl (at15.at 0 rfl) rfl rfl rfl) rfl rfl fun a hF => q_alloc (cs := [(.int .i64 0), (.int .i64 0), nilS.v]) hF hS rfl rfl rfl fun a w b17 hF hS => q_store (vs := [(.int .i64 e_14.Area), (.int .i64 e_14.House), s16.v]) (cs' := [(.int .i64 e_14.Area), (.int .i64 e_14.House), s16.v]) 0 0 hF hS sz36 rfl rfl rfl rfl rfl rfl rfl rfl fun a w hF hS => q_end (n_sq (q_seq (q_region (q_x (v := s1.v) hF hS (ex_move rfl) rfl rfl fun a hF => q_x (v := (.pointer (some ⟨b17, 2, none⟩))) hF hS (ex_fieldAddr Tryz.underlying36 rfl sz26 rfl rfl) rfl rfl fun a hF => q_x (v := s16.v) hF hS (ex_load1 0 0 Tryz.underlying26 rfl rfl rfl rfl) rfl rfl fun a hF => q_x (v := s4.v) hF hS (ex_move rfl) rfl rfl fun a hF => ?_))))
     obtain ⟨t_18, ht_18, hb4⟩ := bindS hb4
     refine q_call (vs := [s1.v, s16.v, s4.v]) hF hS Tryz.func32 (by kernel_rfl) rfl rfl rfl (c_spec_swKey p_s e_14.Values p_vars t_18 ht_18 _ m hS.vis s1 h1 s16 h16 s4 h4) ?_
     rintro a w _ rfl hF hS
     refine q_x (v := (.int .i64 t_18)) hF hS (ex_assign rfl) rfl rfl fun a hF => q_end (n_sq (q_seq (e_region ⟨[], []⟩ mixed fun w' hw' => ?_)))
     have hS := hS.below hw'
     refine e_p (v := s1.v) 0 hF rfl (ex_move rfl) rfl rfl (by kernel_rfl) (by kernel_rfl) (by kernel_rfl) fun a hF => e_p (v := s2.v) 1 hF rfl (ex_move rfl) rfl rfl (by kernel_rfl) (by kernel_rfl) (by kernel_rfl) fun a hF => e_p (v := s4.v) 2 hF rfl (ex_move rfl) rfl rfl (by kernel_rfl) (by kernel_rfl) (by kernel_rfl) fun a hF => e_p (v := (.pointer (some ⟨b17, 0, none⟩))) 3 hF rfl (ex_fieldAddr Tryz.underlying36 rfl sz3 rfl rfl) rfl rfl (by kernel_rfl) (by kernel_rfl) (by kernel_rfl) fun a hF => e_x (v := (.int .i64 e_14.Area)) 4 hF hS rfl (ex_load1 0 0 Tryz.underlying3 rfl rfl rfl rfl) rfl rfl (by kernel_rfl) (by kernel_rfl) (by kernel_rfl) (by kernel_rfl) fun a hF => e_p (v := (.int .i64 t_18)) 5 hF rfl (ex_move rfl) rfl rfl (by kernel_rfl) (by kernel_rfl) (by kernel_rfl) fun a hF => e_p (v := s1.v) 7 hF rfl (ex_move rfl) rfl rfl (by kernel_rfl) (by kernel_rfl) (by kernel_rfl) fun a hF => e_p (v := s3.v) 8 hF rfl (ex_move rfl) rfl rfl (by kernel_rfl) (by kernel_rfl) (by kernel_rfl) fun a hF => e_p (v := s4.v) 9 hF rfl (ex_move rfl) rfl rfl (by kernel_rfl) (by kernel_rfl) (by kernel_rfl) fun a hF => e_p (v := (.pointer (some ⟨b17, 0, none⟩))) 10 hF rfl (ex_fieldAddr Tryz.underlying36 rfl sz3 rfl rfl) rfl rfl (by kernel_rfl) (by kernel_rfl) (by kernel_rfl) fun a hF => e_x (v := (.int .i64 e_14.Area)) 11 hF hS rfl (ex_load1 0 0 Tryz.underlying3 rfl rfl rfl rfl) rfl rfl (by kernel_rfl) (by kernel_rfl) (by kernel_rfl) (by kernel_rfl) fun a hF => e_p (v := (.int .i64 t_18)) 12 hF rfl (ex_move rfl) rfl rfl (by kernel_rfl) (by kernel_rfl) (by kernel_rfl) fun a hF => e_one 6 (by kernel_rfl) ?_
     obtain ⟨t_25, ht_25, hb4⟩ := bindS hb4
     refine e_call (vs := [s1.v, s2.v, s4.v, (.int .i64 e_14.Area), (.int .i64 t_18)]) hF hS rfl Tryz.func33 (by kernel_rfl) rfl rfl rfl (c_spec_swCount p_s p_a p_vars e_14.Area t_18 t_25 ht_25 _ m hS.vis s1 h1 s2 h2 s4 h4) ?_
     rintro a w _ rfl hF hS
     refine e_one 13 (by kernel_rfl) ?_
     obtain ⟨t_26, ht_26, hb4⟩ := bindS hb4
     refine e_call (vs := [s1.v, s3.v, s4.v, (.int .i64 e_14.Area), (.int .i64 t_18)]) hF hS rfl Tryz.func33 (by kernel_rfl) rfl rfl rfl (c_spec_swCount p_s p_b p_vars e_14.Area t_18 t_26 ht_26 _ m hS.vis s1 h1 s3 h3 s4 h4) ?_
     rintro a w _ rfl hF hS
     refine e_p (v := (.bool (t_25 != t_26))) 14 hF rfl (ex_ibin rfl rfl rfl) rfl rfl (by kernel_rfl) (by kernel_rfl) (by kernel_rfl) fun a hF => e_end (by kernel_rfl) (n_sq ?_) _
     rcases bcase (t_25 != t_26) with hc6 | hc6
     ·have hb4 := cond_f hc6 hb4
      refine q_cond_f hF rfl hc6 (q_skipc (n_ib (n_sq (q_region (q_x (v := (.int .i64 (w64 (t_13 + 1)))) hF hS (ex_ibin rfl rfl rfl) rfl rfl fun a hF => q_x (v := (.int .i64 (w64 (t_13 + 1)))) hF hS (ex_move rfl) rfl rfl fun a hF => q_end ?_)))))
      obtain rfl := someI hb4
      exact ⟨rfl, hF.sub ⟨rfl, rfl, rfl, rfl, rfl, rfl, rfl, trivial⟩, hS.mask [false, true]⟩
     ·have hb4 := cond_t hc6 hb4
      refine q_cond_t hF rfl hc6 (q_seq (q_region (q_x (v := (.bool false)) hF hS (ex_assign rfl) rfl rfl fun a hF => q_x (v := (.bool true)) hF hS (ex_assign rfl) rfl rfl fun a hF => q_end (n_sq (q_ret (r_ib (r_sq ?_)))))))
      obtain rfl := someI hb4
      refine ⟨nofun, .inr fun ho => ?_⟩
      subst ho
      refine r_ib (r_sq ?_)
      obtain rfl := someI hr
      exact ret_of hF hS rfl (.tmp rfl (.tmp rfl .nil)) rfl
   ·rintro e a w ⟨rfl, rfl, hF, hS⟩
    refine x_ib (n_sq ?_)
    refine q_seq (q_region (q_x (v := (.bool true)) hF hS (ex_assign rfl) rfl rfl fun a hF => q_x (v := (.bool true)) hF hS (ex_assign rfl) rfl rfl fun a hF => q_end (n_sq (q_ret ?_))))
    obtain rfl := someI hr
    exact ret_of hF hS rfl (.tmp rfl (.tmp rfl .nil)) rfl
  ·have hr := cond_t hc3 hr
   refine q_cond_t hF rfl hc3 (q_seq (q_region (q_x (v := (.bool false)) hF hS (ex_assign rfl) rfl rfl fun a hF => q_x (v := (.bool false)) hF hS (ex_assign rfl) rfl rfl fun a hF => q_end (n_sq (q_ret (r_sq ?_))))))
   obtain rfl := someI hr
   exact ret_of hF hS rfl (.tmp rfl (.tmp rfl .nil)) rfl

theorem c_laws_FnKeys (p_code : List (K .u8)) (p_more : List (K .u8)) (r : Bool) (hr : laws_FnKeys p_code p_more = some r) (w0 : World) (m : Mem) (hv : Vis m w0) (s1 : Sl) (h1 : Rd m s1 p_code) (s2 : Sl) (h2 : Rd m s2 p_more) :
  Ret Tryz.prog 3 [s1.v, s2.v] w0 (fun v _ => v = (.bool r)) := by
 unfold laws_FnKeys at hr
 refine ret_start Tryz.func3 rfl 184 rfl rfl m hv fun a hF hS => q_seq (q_region (q_x (v := (.bool false)) hF hS (ex_assign rfl) rfl rfl fun a hF => q_end (n_sq (q_seq (q_seq (q_region (q_x (v := s1.v) hF hS (ex_move rfl) rfl rfl fun a hF => q_x (v := s2.v) hF hS (ex_move rfl) rfl rfl fun a hF => ?_)))))))
 obtain ⟨t_3, ht_3, hr⟩ := bindS hr
 refine q_call (vs := [s1.v, s2.v]) hF hS Tryz.func4 (by kernel_rfl) rfl rfl rfl (c_laws_big p_code p_more t_3 ht_3 _ m hS.vis s1 h1 s2 h2) ?_
 rintro a w _ rfl hF hS
 refine q_end (n_sq ?_)
 rcases bcase (t_3) with hc1 | hc1
 ·have hr := cond_f hc1 hr
  refine q_cond_f hF rfl hc1 (q_skipc (n_sq (q_seq (q_region (q_x (v := s1.v) hF hS (ex_move rfl) rfl rfl fun a hF => ?_)))))
  obtain ⟨t_4, ht_4, hr⟩ := bindS hr
  refine q_call (vs := [s1.v]) hF hS Tryz.func5 (by kernel_rfl) rfl rfl rfl (c_spec_DrawKeyGroups p_code t_4 ht_4 _ m hS.vis s1 h1) ?_
  have hT := hS
  rintro a w _ ⟨m5, q7, q8, s6, s7, s8, rfl, hm5, hR5, h6, h7, h8⟩ hF hS2
  have hS : St _ _ _ _ [q7, q8] := hS.join hR5 hm5
  have hm5 := MLe.weakX (O0 := []) hT hm5
  refine q_x (v := (.tuple #[s6.v, s7.v, s8.v])) hF hS (ex_move rfl) rfl rfl fun a hF => q_x (v := s6.v) hF hS (ex_extract rfl rfl) rfl rfl fun a hF => q_x (v := s7.v) hF hS (ex_extract rfl rfl) rfl rfl fun a hF => q_x (v := s8.v) hF hS (ex_extract rfl rfl) rfl rfl fun a hF => q_x (v := s6.v) hF hS (ex_assign rfl) rfl rfl fun a hF => q_x (v := s7.v) hF hS (ex_assign rfl) rfl rfl fun a hF => q_x (v := s8.v) hF hS (ex_assign rfl) rfl rfl fun a hF => q_end (n_sq (q_seq (q_region (q_x (v := s6.v) hF hS (ex_move rfl) rfl rfl fun a hF => q_x (v := s7.v) hF hS (ex_move rfl) rfl rfl fun a hF => q_x (v := s8.v) hF hS (ex_move rfl) rfl rfl fun a hF => ?_))))
  obtain ⟨m9, hm9, hS, hz9⟩ := hS.freeze
  have h9 := h7.froz hm9.le hz9
  obtain ⟨m10, hm10, hS, hz10⟩ := hS.freeze
  have h10 := (h8.mono hm9.le).froz hm10.le hz10
  obtain ⟨t_11, ht_11, hr⟩ := bindS hr
  refine q_call (vs := [s6.v, s7.v, s8.v]) hF hS Tryz.func6 (by kernel_rfl) rfl rfl rfl (c_impl_KeyGroups t_4.1 t_4.2.1 t_4.2.2 t_11 ht_11 _ m10 hS.vis s6 ((h6.mono hm9.le).mono hm10.le) s7 (h9.mono hm10.le) s8 h10) ?_
  have hT := hS
  rintro a w _ ⟨m12, q13, s13, rfl, hm12, hR12, h13⟩ hF hS2
  have hS : St _ _ _ _ [q13] := hS.join hR12 hm12
  have hm12 := MLe.weakX (O0 := []) hT hm12
  refine q_x (v := (.tuple #[s13.v, (.bool t_11.2)])) hF hS (ex_move rfl) rfl rfl fun a hF => q_x (v := s13.v) hF hS (ex_extract rfl rfl) rfl rfl fun a hF => q_x (v := (.bool t_11.2)) hF hS (ex_extract rfl rfl) rfl rfl fun a hF => q_x (v := s13.v) hF hS (ex_assign rfl) rfl rfl fun a hF => q_x (v := (.bool t_11.2)) hF hS (ex_assign rfl) rfl rfl fun a hF => q_end (n_sq (q_seq (q_region (q_x (v := s6.v) hF hS (ex_move rfl) rfl rfl fun a hF => q_x (v := s7.v) hF hS (ex_move rfl) rfl rfl fun a hF => q_x (v := s8.v) hF hS (ex_move rfl) rfl rfl fun a hF => ?_))))
  obtain ⟨t_14, ht_14, hr⟩ := bindS hr
  refine q_call (vs := [s6.v, s7.v, s8.v]) hF hS Tryz.func7 (by kernel_rfl) rfl rfl rfl (c_spec_KeyGroups t_4.1 t_4.2.1 t_4.2.2 t_14 ht_14 _ m12 hS.vis s6 (((h6.mono hm9.le).mono hm10.le).mono hm12.le) s7 ((h9.mono hm10.le).mono hm12.le) s8 (h10.mono hm12.le)) ?_
  have hT := hS
  rintro a w _ ⟨m15, q16, s16, rfl, hm15, hR15, h16⟩ hF hS2
  have hS : St _ _ _ _ [q16, q13] := hS.join hR15 hm15
  have hm15 := MLe.weakX (O0 := []) hT hm15
  refine q_x (v := (.tuple #[s16.v, (.bool t_14.2)])) hF hS (ex_move rfl) rfl rfl fun a hF => q_x (v := s16.v) hF hS (ex_extract rfl rfl) rfl rfl fun a hF => q_x (v := (.bool t_14.2)) hF hS (ex_extract rfl rfl) rfl rfl fun a hF => q_x (v := s16.v) hF hS (ex_assign rfl) rfl rfl fun a hF => q_x (v := (.bool t_14.2)) hF hS (ex_assign rfl) rfl rfl fun a hF => q_end (n_sq (q_seq (q_seq ?_)))
  obtain ⟨t_19, hj2, hr⟩ := bindS hr
  refine q_join (fun a w => Fr a 184 [(1, s2.v), (5, s6.v), (6, s7.v), (7, s8.v), (9, (.bool t_11.2)), (10, s16.v), (67, (.bool t_19))] ∧ St [] w0 w m15 [q16]) ?_ ?_
  ·refine q_region (q_x (v := (.bool t_11.2)) hF hS (ex_move rfl) rfl rfl fun a hF => q_x (v := (.bool t_14.2)) hF hS (ex_move rfl) rfl rfl fun a hF => q_x (v := (.bool (t_11.2 != t_14.2))) hF hS (ex_bne Tryz.underlying4 rfl rfl) rfl rfl fun a hF => q_x (v := (.bool (t_11.2 != t_14.2))) hF hS (ex_move rfl) rfl rfl fun a hF => ?_)
   rcases bcase (t_11.2 != t_14.2) with hc3 | hc3
   ·have hj2 := cond_f hc3 hj2
    refine q_xg (v := s13.v) hF hS (ex_move rfl) (wanted_t hF rfl rfl rfl hc3) rfl fun a hF => q_xg (v := s16.v) hF hS (ex_move rfl) (wanted_t hF rfl rfl rfl hc3) rfl fun a hF => ?_
    obtain ⟨m18, hl18, hv18, hz18⟩ := hS.lend
    obtain ⟨t_17, ht_17, hj2⟩ := bindS hj2
    refine q_callg (vs := [s13.v, s16.v]) hF hS (wanted_t hF rfl rfl rfl hc3) Tryz.func8 (by kernel_rfl) rfl rfl rfl (c_laws_sameLists t_11.1 t_14.1 t_17 ht_17 _ m18 hv18 s13 ((h13.mono hm15.le).froz hl18 (hz18 1 _ rfl)) s16 (h16.froz hl18 (hz18 0 _ rfl))) ?_
    rintro a w _ rfl hF hS
    refine q_xg (v := (.bool (!t_17))) hF hS (ex_not rfl) (wanted_t hF rfl rfl rfl hc3) rfl fun a hF => q_x (v := (.bool (!t_17))) hF hS (ex_pick_f rfl rfl hc3) rfl rfl fun a hF => q_end (n_jn ?_)
    obtain rfl := someI hj2
    exact ⟨hF.sub ⟨rfl, rfl, rfl, rfl, rfl, rfl, rfl, trivial⟩, hS.mask [true, false]⟩
   ·have hj2 := cond_t hc3 hj2
    refine q_skip hF (wanted_f hF rfl rfl rfl hc3 rfl) rfl fun a hF => q_skip hF (wanted_f hF rfl rfl rfl hc3 rfl) rfl fun a hF => q_skip hF (wanted_f hF rfl rfl rfl hc3 rfl) rfl fun a hF => q_skip hF (wanted_f hF rfl rfl rfl hc3 rfl) rfl fun a hF => q_x (v := (.bool true)) hF hS (ex_pick_t rfl rfl hc3) rfl rfl fun a hF => q_end (n_jn ?_)
    obtain rfl := someI hj2
    exact ⟨hF.sub ⟨rfl, rfl, rfl, rfl, rfl, rfl, rfl, trivial⟩, hS.mask [true, false]⟩
  ·rintro a w ⟨hF, hS⟩
   refine n_sq ?_
   rcases bcase (t_19) with hc4 | hc4
   ·have hr := cond_f hc4 hr
    refine q_cond_f hF rfl hc4 (q_skipc (n_sq (q_seq (q_region (q_x (v := (.int .i64 0)) hF hS (ex_assign rfl) rfl rfl fun a hF => q_end (n_sq (q_seq (q_seq (q_region (q_x (v := s16.v) hF hS (ex_move rfl) rfl rfl fun a hF => q_x (v := (.int .i64 (goLen t_14.1))) hF hS (ex_len Tryz.underlying29 rfl h16.len) rfl rfl fun a hF => q_x (v := (.int .i64 0)) hF hS (ex_move rfl) rfl rfl fun a hF => q_end (n_sq (q_block ?_))))))))))))
    obtain ⟨o5, hl5, hr⟩ := bindS hr
    refine q_loop (fun (s : Int × Int) a w => ∃ n_20, ∃ t_21, s = (n_20, t_21) ∧ Fr a 184 [(1, s2.v), (5, s6.v), (6, s7.v), (7, s8.v), (9, (.bool t_11.2)), (12, (.int .i64 n_20)), (68, s16.v), (69, (.int .i64 (goLen t_14.1))), (70, (.int .i64 t_21))] ∧ St [] w0 w m15 [q16]) (fun (o : (Int) ⊕ (Bool)) e a w => ∃ n_41, o = .inl n_41 ∧ e = .exit 0 ∧ Fr a 184 [(1, s2.v), (6, s7.v), (9, (.bool t_11.2)), (12, (.int .i64 n_41))] ∧ St [] w0 w m15 []) hl5 ⟨_, _, rfl, hF.sub ⟨rfl, rfl, rfl, rfl, rfl, rfl, rfl, rfl, rfl, trivial⟩, hS⟩ ?_ ?_
    ·clear hF hS
     rintro s a w st ⟨n_20, t_21, rfl, hF, hS⟩ hb5
     unfold laws_FnKeys_l1 at hb5
     refine q_seq (q_region (q_x (v := (.bool (decide (t_21 < (goLen t_14.1))))) hF hS (ex_ibin rfl rfl rfl) rfl rfl fun a hF => q_end (n_sq (q_seq ?_))))
     rcases bcase (decide (t_21 < (goLen t_14.1))) with hc6 | hc6
     ·have hb5 := cond_f hc6 hb5
      refine q_cond_f hF rfl hc6 (q_exit (x_sq ?_))
      obtain rfl := someI hb5
      exact ⟨nofun, .inl ⟨_, rfl, rfl, hF.sub ⟨rfl, rfl, rfl, rfl, trivial⟩, hS.mask [false]⟩⟩
     ·have hb5 := cond_t hc6 hb5
      refine q_cond_t hF rfl hc6 (q_skipc (n_sq (q_seq (q_block (q_seq (q_region ?_))))))
      obtain ⟨e_22, he_22, hb5⟩ := bindS hb5
      obtain ⟨vs23, at23, d23⟩ := h16.at he_22 1 rfl
      obtain ⟨s24, rfl, h24⟩ : ∃ s24 : Sl, vs23 = [s24.v] ∧ Rd m15 s24 e_22 := d23
      refine q_x (v := (elP s16 (t_21.toNat * 1))) hF hS (ex_indexAddr Tryz.underlying29 sz26 rfl rfl (h16.idx he_22)) rfl rfl fun a hF => q_x (v := s24.v) hF hS (ex_loadE1 0 Tryz.underlying26 rfl rfl (at23.at 0 rfl) rfl rfl) rfl rfl fun a hF => q_x (v := s24.v) hF hS (ex_assign rfl) rfl rfl fun a hF => q_end (n_sq (q_seq (q_region (q_x (v := s6.v) hF hS (ex_move rfl) rfl rfl fun a hF => q_x (v := s7.v) hF hS (ex_move rfl) rfl rfl fun a hF => q_x (v := s24.v) hF hS (ex_move rfl) rfl rfl fun a hF => ?_))))
      obtain ⟨e_25, he_25, hb5⟩ := bindS hb5
      obtain ⟨vs26, at26, d26⟩ := h24.at he_25 1 rfl
      obtain rfl : vs26 = [(.int .i64 e_25)] := d26
      refine q_x (v := (elP s24 ((0 : Int).toNat * 1))) hF hS (ex_indexAddr Tryz.underlying26 sz3 rfl rfl (h24.idx he_25)) rfl rfl fun a hF => q_x (v := (.int .i64 e_25)) hF hS (ex_loadE1 0 Tryz.underlying3 rfl rfl ((at26).at) rfl rfl) rfl rfl fun a hF => ?_
      obtain ⟨e_27, he_27, hb5⟩ := bindS hb5
      obtain ⟨vs28, at28, d28⟩ := (((h9.mono hm10.le).mono hm12.le).mono hm15.le).at he_27 3 rfl
      obtain ⟨s29, rfl, h29⟩ : ∃ s29 : Sl, vs28 = [(.int .i64 e_27.Area), (.int .i64 e_27.House), s29.v] ∧ Rd m15 s29 e_27.Values := d28
      refine q_x (v := (elP s7 (e_25.toNat * 3))) hF hS (ex_indexAddr Tryz.underlying25 sz36 rfl rfl ((((h9.mono hm10.le).mono hm12.le).mono hm15.le).idx he_27)) rfl rfl fun a hF => q_x (v := (.agg #[(.int .i64 e_27.Area), (.int .i64 e_27.House), s29.v])) hF hS (ex_loadEA (us := [(.int .i64 e_27.Area), (.int .i64 e_27.House), s29.v]) 0 Tryz.underlying36 rfl sz36 rfl ((at28).at) rfl rfl rfl) rfl rfl fun a hF => q_x (v := s8.v) hF hS (ex_move rfl) rfl rfl fun a hF => ?_
      obtain ⟨t_30, ht_30, hb5⟩ := bindS hb5
      refine q_call (vs := [s6.v, (.agg #[(.int .i64 e_27.Area), (.int .i64 e_27.House), s29.v]), s8.v]) hF hS Tryz.func9 (by kernel_rfl) rfl rfl rfl (c_impl_KeyOf t_4.1 e_27 t_4.2.2 t_30 ht_30 _ m15 hS.vis s6 ((((h6.mono hm9.le).mono hm10.le).mono hm12.le).mono hm15.le) s29 h29 s8 ((h10.mono hm12.le).mono hm15.le)) ?_
      rintro a w _ rfl hF hS
      refine q_x (v := (.tuple #[(.int .i64 t_30.1), (.bool t_30.2)])) hF hS (ex_move rfl) rfl rfl fun a hF => q_x (v := (.int .i64 t_30.1)) hF hS (ex_extract rfl rfl) rfl rfl fun a hF => q_x (v := (.bool t_30.2)) hF hS (ex_extract rfl rfl) rfl rfl fun a hF => q_x (v := (.int .i64 t_30.1)) hF hS (ex_assign rfl) rfl rfl fun a hF => q_x (v := (.bool t_30.2)) hF hS (ex_assign rfl) rfl rfl fun a hF => q_end (n_sq (q_seq (q_region (q_x (v := s24.v) hF hS (ex_move rfl) rfl rfl fun a hF => q_x (v := (.int .i64 (goLen e_22))) hF hS (ex_len Tryz.underlying26 rfl h24.len) rfl rfl fun a hF => q_x (v := (.int .i64 0)) hF hS (ex_move rfl) rfl rfl fun a hF => q_end (n_sq (q_block ?_))))))
      obtain ⟨o7, hl7, hb5⟩ := bindS hb5
      refine q_loop (fun (s : Int × Int) a w => ∃ n_31, ∃ t_32, s = (n_31, t_32) ∧ Fr a 184 [(1, s2.v), (5, s6.v), (6, s7.v), (7, s8.v), (9, (.bool t_11.2)), (12, (.int .i64 n_31)), (15, (.int .i64 t_30.1)), (16, (.bool t_30.2)), (68, s16.v), (69, (.int .i64 (goLen t_14.1))), (70, (.int .i64 t_21)), (86, s24.v), (87, (.int .i64 (goLen e_22))), (88, (.int .i64 t_32))] ∧ St [] w0 w m15 [q16]) (fun (o : (Int) ⊕ (Stp (Int × Int) ((Int) ⊕ (Bool)))) e a w => ∃ n_40, o = .inl n_40 ∧ e = .exit 2 ∧ Fr a 184 [(1, s2.v), (5, s6.v), (6, s7.v), (7, s8.v), (9, (.bool t_11.2)), (12, (.int .i64 n_40)), (68, s16.v), (69, (.int .i64 (goLen t_14.1))), (70, (.int .i64 t_21))] ∧ St [] w0 w m15 [q16]) hl7 ⟨_, _, rfl, hF.sub ⟨rfl, rfl, rfl, rfl, rfl, rfl, rfl, rfl, rfl, rfl, rfl, rfl, rfl, rfl, trivial⟩, hS⟩ ?_ ?_
      ·clear hF hS
       rintro s a w st ⟨n_31, t_32, rfl, hF, hS⟩ hb7
       unfold laws_FnKeys_l2 at hb7
       refine q_seq (q_region (q_x (v := (.bool (decide (t_32 < (goLen e_22))))) hF hS (ex_ibin rfl rfl rfl) rfl rfl fun a hF => q_end (n_sq (q_seq ?_))))
       rcases bcase (decide (t_32 < (goLen e_22))) with hc8 | hc8
       ·have hb7 := cond_f hc8 hb7
        refine q_cond_f hF rfl hc8 (q_exit (x_sq ?_))
        obtain rfl := someI hb7
        exact ⟨nofun, .inl ⟨_, rfl, rfl, hF.sub ⟨rfl, rfl, rfl, rfl, rfl, rfl, rfl, rfl, rfl, trivial⟩, hS⟩⟩
       ·have hb7 := cond_t hc8 hb7
        refine q_cond_t hF rfl hc8 (q_skipc (n_sq (q_seq (q_block (q_seq (q_region ?_))))))
        obtain ⟨e_33, he_33, hb7⟩ := bindS hb7
        obtain ⟨vs34, at34, d34⟩ := h24.at he_33 1 rfl
        obtain rfl : vs34 = [(.int .i64 e_33)] := d34
        refine q_x (v := (elP s24 (t_32.toNat * 1))) hF hS (ex_indexAddr Tryz.underlying26 sz3 rfl rfl (h24.idx he_33)) rfl rfl fun a hF => q_x (v := (.int .i64 e_33)) hF hS (ex_loadE1 0 Tryz.underlying3 rfl rfl ((at34).at) rfl rfl) rfl rfl fun a hF => q_x (v := (.int .i64 e_33)) hF hS (ex_assign rfl) rfl rfl fun a hF => q_end (n_sq (q_seq (q_region (q_x (v := s6.v) hF hS (ex_move rfl) rfl rfl fun a hF => q_x (v := s7.v) hF hS (ex_move rfl) rfl rfl fun a hF => q_x (v := (.int .i64 e_33)) hF hS (ex_move rfl) rfl rfl fun a hF => ?_))))
        obtain ⟨e_35, he_35, hb7⟩ := bindS hb7
        obtain ⟨vs36, at36, d36⟩ := (((h9.mono hm10.le).mono hm12.le).mono hm15.le).at he_35 3 rfl
        obtain ⟨s37, rfl, h37⟩ : ∃ s37 : Sl, vs36 = [(.int .i64 e_35.Area), (.int .i64 e_35.House), s37.v] ∧ Rd m15 s37 e_35.Values := d36
        refine q_x (v := (elP s7 (e_33.toNat * 3))) hF hS (ex_indexAddr Tryz.underlying25 sz36 rfl rfl ((((h9.mono hm10.le).mono hm12.le).mono hm15.le).idx he_35)) rfl rfl fun a hF => q_x (v := (.agg #[(.int .i64 e_35.Area), (.int .i64 e_35.House), s37.v])) hF hS (ex_loadEA (us := [(.int .i64 e_35.Area), (.int .i64 e_35.House), s37.v]) 0 Tryz.underlying36 rfl sz36 rfl ((at36).at) rfl rfl rfl) rfl rfl fun a hF => q_x (v := s8.v) hF hS (ex_move rfl) rfl rfl fun a hF => ?_
        obtain ⟨t_38, ht_38, hb7⟩ := bindS hb7
        refine q_call (vs := [s6.v, (.agg #[(.int .i64 e_35.Area), (.int .i64 e_35.House), s37.v]), s8.v]) hF hS Tryz.func9 (by kernel_rfl) rfl rfl rfl (c_impl_KeyOf t_4.1 e_35 t_4.2.2 t_38 ht_38 _ m15 hS.vis s6 ((((h6.mono hm9.le).mono hm10.le).mono hm12.le).mono hm15.le) s37 h37 s8 ((h10.mono hm12.le).mono hm15.le)) ?_
        rintro a w _ rfl hF hS
        refine q_x (v := (.tuple #[(.int .i64 t_38.1), (.bool t_38.2)])) hF hS (ex_move rfl) rfl rfl fun a hF => q_x (v := (.int .i64 t_38.1)) hF hS (ex_extract rfl rfl) rfl rfl fun a hF => q_x (v := (.bool t_38.2)) hF hS (ex_extract rfl rfl) rfl rfl fun a hF => q_x (v := (.int .i64 t_38.1)) hF hS (ex_assign rfl) rfl rfl fun a hF => q_x (v := (.bool t_38.2)) hF hS (ex_assign rfl) rfl rfl fun a hF => q_end (n_sq (q_seq (q_seq ?_)))
        obtain ⟨t_39, hj9, hb7⟩ := bindS hb7
        refine q_join (fun a w => Fr a 184 [(1, s2.v), (5, s6.v), (6, s7.v), (7, s8.v), (9, (.bool t_11.2)), (12, (.int .i64 n_31)), (15, (.int .i64 t_30.1)), (16, (.bool t_30.2)), (68, s16.v), (69, (.int .i64 (goLen t_14.1))), (70, (.int .i64 t_21)), (86, s24.v), (87, (.int .i64 (goLen e_22))), (88, (.int .i64 t_32)), (112, (.bool t_39))] ∧ St [] w0 w m15 [q16]) ?_ ?_
        ·refine q_region (q_x (v := (.bool t_30.2)) hF hS (ex_move rfl) rfl rfl fun a hF => q_x (v := (.bool (!t_30.2))) hF hS (ex_not rfl) rfl rfl fun a hF => q_x (v := (.bool (!t_30.2))) hF hS (ex_move rfl) rfl rfl fun a hF => ?_)
         rcases bcase (!t_30.2) with hc10 | hc10
         ·have hj9 := cond_f hc10 hj9
          refine q_xg (v := (.bool t_38.2)) hF hS (ex_move rfl) (wanted_t hF rfl rfl rfl hc10) rfl fun a hF => q_xg (v := (.bool (!t_38.2))) hF hS (ex_not rfl) (wanted_t hF rfl rfl rfl hc10) rfl fun a hF => q_x (v := (.bool (!t_38.2))) hF hS (ex_pick_f rfl rfl hc10) rfl rfl fun a hF => q_x (v := (.bool (!t_38.2))) hF hS (ex_move rfl) rfl rfl fun a hF => ?_
          rcases bcase (!t_38.2) with hc11 | hc11
          ·have hj9 := cond_f hc11 hj9
           refine q_xg (v := (.int .i64 t_38.1)) hF hS (ex_move rfl) (wanted_t hF rfl rfl rfl hc11) rfl fun a hF => q_xg (v := (.int .i64 t_30.1)) hF hS (ex_move rfl) (wanted_t hF rfl rfl rfl hc11) rfl fun a hF => q_xg (v := (.bool (t_38.1 != t_30.1))) hF hS (ex_ibin rfl rfl rfl) (wanted_t hF rfl rfl rfl hc11) rfl fun a hF => q_x (v := (.bool (t_38.1 != t_30.1))) hF hS (ex_pick_f rfl rfl hc11) rfl rfl fun a hF => q_end (n_jn ?_)
           obtain rfl := someI hj9
           exact ⟨hF.sub ⟨rfl, rfl, rfl, rfl, rfl, rfl, rfl, rfl, rfl, rfl, rfl, rfl, rfl, rfl, rfl, trivial⟩, hS⟩
          ·have hj9 := cond_t hc11 hj9
           refine q_skip hF (wanted_f hF rfl rfl rfl hc11 rfl) rfl fun a hF => q_skip hF (wanted_f hF rfl rfl rfl hc11 rfl) rfl fun a hF => q_skip hF (wanted_f hF rfl rfl rfl hc11 rfl) rfl fun a hF => q_x (v := (.bool true)) hF hS (ex_pick_t rfl rfl hc11) rfl rfl fun a hF => q_end (n_jn ?_)
           obtain rfl := someI hj9
           exact ⟨hF.sub ⟨rfl, rfl, rfl, rfl, rfl, rfl, rfl, rfl, rfl, rfl, rfl, rfl, rfl, rfl, rfl, trivial⟩, hS⟩
         ·have hj9 := cond_t hc10 hj9
          refine q_skip hF (wanted_f hF rfl rfl rfl hc10 rfl) rfl fun a hF => q_skip hF (wanted_f hF rfl rfl rfl hc10 rfl) rfl fun a hF => q_x (v := (.bool true)) hF hS (ex_pick_t rfl rfl hc10) rfl rfl fun a hF => q_x (v := (.bool true)) hF hS (ex_move rfl) rfl rfl fun a hF => q_skip hF (wanted_f hF rfl rfl rfl rfl rfl) rfl fun a hF => q_skip hF (wanted_f hF rfl rfl rfl rfl rfl) rfl fun a hF => q_skip hF (wanted_f hF rfl rfl rfl rfl rfl) rfl fun a hF => q_x (v := (.bool true)) hF hS (ex_pick_t rfl rfl rfl) rfl rfl fun a hF => q_end (n_jn ?_)
          obtain rfl := someI hj9
          exact ⟨hF.sub ⟨rfl, rfl, rfl, rfl, rfl, rfl, rfl, rfl, rfl, rfl, rfl, rfl, rfl, rfl, rfl, trivial⟩, hS⟩
        ·rintro a w ⟨hF, hS⟩
         refine n_sq ?_
         rcases bcase (t_39) with hc12 | hc12
         ·have hb7 := cond_f hc12 hb7
          refine q_cond_f hF rfl hc12 (q_skipc (n_sq (q_region (q_x (v := (.int .i64 n_31)) hF hS (ex_move rfl) rfl rfl fun a hF => q_x (v := (.int .i64 (w64 (n_31 + 1)))) hF hS (ex_ibin rfl rfl rfl) rfl rfl fun a hF => q_x (v := (.int .i64 (w64 (n_31 + 1)))) hF hS (ex_assign rfl) rfl rfl fun a hF => q_end (n_ib (n_sq (q_region (q_x (v := (.int .i64 (w64 (t_32 + 1)))) hF hS (ex_ibin rfl rfl rfl) rfl rfl fun a hF => q_x (v := (.int .i64 (w64 (t_32 + 1)))) hF hS (ex_move rfl) rfl rfl fun a hF => q_end ?_))))))))
          obtain rfl := someI hb7
          exact ⟨rfl, _, _, rfl, hF.sub ⟨rfl, rfl, rfl, rfl, rfl, rfl, rfl, rfl, rfl, rfl, rfl, rfl, rfl, rfl, trivial⟩, hS⟩
         ·have hb7 := cond_t hc12 hb7
          refine q_cond_t hF rfl hc12 (q_seq (q_region (q_x (v := (.bool false)) hF hS (ex_assign rfl) rfl rfl fun a hF => q_end (n_sq (q_ret (r_sq (r_ib (r_sq ?_))))))))
          obtain rfl := someI hb7
          refine ⟨nofun, .inr fun ho => ?_⟩
          subst ho
          refine r_ib (r_ib (r_sq ?_))
          obtain rfl := someI hb5
          refine ⟨nofun, .inr fun ho => ?_⟩
          subst ho
          refine r_ib (r_sq ?_)
          obtain rfl := someI hr
          exact ret_of hF hS rfl (.tmp rfl .nil) rfl
      ·rintro e a w ⟨n_40, rfl, rfl, hF, hS⟩
       refine x_ib (n_ib (n_sq ?_))
       refine q_region (q_x (v := (.int .i64 (w64 (t_21 + 1)))) hF hS (ex_ibin rfl rfl rfl) rfl rfl fun a hF => q_x (v := (.int .i64 (w64 (t_21 + 1)))) hF hS (ex_move rfl) rfl rfl fun a hF => q_end ?_)
       obtain rfl := someI hb5
       exact ⟨rfl, _, _, rfl, hF.sub ⟨rfl, rfl, rfl, rfl, rfl, rfl, rfl, rfl, rfl, trivial⟩, hS⟩
    ·rintro e a w ⟨n_41, rfl, rfl, hF, hS⟩
     refine x_ib (n_sq ?_)
     refine q_seq (q_seq ?_)
     obtain ⟨t_42, hj13, hr⟩ := bindS hr
     refine q_join (fun a w => Fr a 184 [(1, s2.v), (123, (.bool t_42))] ∧ St [] w0 w m15 []) ?_ ?_
     ·refine q_region (q_x (v := (.bool t_11.2)) hF hS (ex_move rfl) rfl rfl fun a hF => q_x (v := (.bool t_11.2)) hF hS (ex_move rfl) rfl rfl fun a hF => ?_)
      rcases bcase (t_11.2) with hc14 | hc14
      ·have hj13 := cond_f hc14 hj13
       refine q_skip hF (wanted_f hF rfl rfl rfl hc14 rfl) rfl fun a hF => q_skip hF (wanted_f hF rfl rfl rfl hc14 rfl) rfl fun a hF => q_skip hF (wanted_f hF rfl rfl rfl hc14 rfl) rfl fun a hF => q_skip hF (wanted_f hF rfl rfl rfl hc14 rfl) rfl fun a hF => q_x (v := (.bool false)) hF hS (ex_pick_f rfl rfl hc14) rfl rfl fun a hF => q_end (n_jn ?_)
       obtain rfl := someI hj13
       exact ⟨hF.sub ⟨rfl, rfl, trivial⟩, hS⟩
      ·have hj13 := cond_t hc14 hj13
       refine q_xg (v := (.int .i64 n_41)) hF hS (ex_move rfl) (wanted_t hF rfl rfl rfl hc14) rfl fun a hF => q_xg (v := s7.v) hF hS (ex_move rfl) (wanted_t hF rfl rfl rfl hc14) rfl fun a hF => q_xg (v := (.int .i64 (goLen t_4.2.1))) hF hS (ex_len Tryz.underlying25 rfl (((h9.mono hm10.le).mono hm12.le).mono hm15.le).len) (wanted_t hF rfl rfl rfl hc14) rfl fun a hF => q_xg (v := (.bool (n_41 != (goLen t_4.2.1)))) hF hS (ex_ibin rfl rfl rfl) (wanted_t hF rfl rfl rfl hc14) rfl fun a hF => q_x (v := (.bool (n_41 != (goLen t_4.2.1)))) hF hS (ex_pick_t rfl rfl hc14) rfl rfl fun a hF => q_end (n_jn ?_)
       obtain rfl := someI hj13
       exact ⟨hF.sub ⟨rfl, rfl, trivial⟩, hS⟩
     ·rintro a w ⟨hF, hS⟩
      refine n_sq ?_
      rcases bcase (t_42) with hc15 | hc15
      ·have hr := cond_f hc15 hr
       refine q_cond_f hF rfl hc15 (q_skipc (n_sq (q_seq (q_region (q_x (v := s2.v) hF hS (ex_move rfl) rfl rfl fun a hF => ?_)))))
       obtain ⟨t_43, ht_43, hr⟩ := bindS hr
       refine q_call (vs := [s2.v]) hF hS Tryz.func10 (by kernel_rfl) rfl rfl rfl (c_spec_DrawSwapCandidates p_more t_43 ht_43 _ m15 hS.vis s2 (((((h2.mono hm5.le).mono hm9.le).mono hm10.le).mono hm12.le).mono hm15.le)) ?_
       have hT := hS
       rintro a w _ ⟨m44, q46, q47, s45, s46, s47, rfl, hm44, hR44, h45, h46, h47⟩ hF hS2
       have hS : St _ _ _ _ [q46, q47] := hS.join hR44 hm44
       have hm44 := MLe.weakX (O0 := []) hT hm44
       refine q_x (v := (.tuple #[s45.v, s46.v, s47.v])) hF hS (ex_move rfl) rfl rfl fun a hF => q_x (v := s45.v) hF hS (ex_extract rfl rfl) rfl rfl fun a hF => q_x (v := s46.v) hF hS (ex_extract rfl rfl) rfl rfl fun a hF => q_x (v := s47.v) hF hS (ex_extract rfl rfl) rfl rfl fun a hF => q_x (v := s45.v) hF hS (ex_assign rfl) rfl rfl fun a hF => q_x (v := s46.v) hF hS (ex_assign rfl) rfl rfl fun a hF => q_x (v := s47.v) hF hS (ex_assign rfl) rfl rfl fun a hF => q_end (n_sq (q_seq (q_region (q_x (v := s45.v) hF hS (ex_move rfl) rfl rfl fun a hF => q_x (v := s46.v) hF hS (ex_move rfl) rfl rfl fun a hF => q_x (v := s47.v) hF hS (ex_move rfl) rfl rfl fun a hF => ?_))))
       obtain ⟨m48, hm48, hS, hz48⟩ := hS.freeze
       have h48 := h46.froz hm48.le hz48
       obtain ⟨m49, hm49, hS, hz49⟩ := hS.freeze
       have h49 := (h47.mono hm48.le).froz hm49.le hz49
       obtain ⟨t_50, ht_50, hr⟩ := bindS hr
       refine q_call (vs := [s45.v, s46.v, s47.v]) hF hS Tryz.func11 (by kernel_rfl) rfl rfl rfl (c_impl_SwapCandidates t_43.1 t_43.2.1 t_43.2.2 t_50 ht_50 _ m49 hS.vis s45 ((h45.mono hm48.le).mono hm49.le) s46 (h48.mono hm49.le) s47 h49) ?_
       have hT := hS
       rintro a w _ ⟨m51, q52, s52, rfl, hm51, hR51, h52⟩ hF hS2
       have hS : St _ _ _ _ [q52] := hS.join hR51 hm51
       have hm51 := MLe.weakX (O0 := []) hT hm51
       refine q_x (v := (.tuple #[s52.v, (.bool t_50.2)])) hF hS (ex_move rfl) rfl rfl fun a hF => q_x (v := s52.v) hF hS (ex_extract rfl rfl) rfl rfl fun a hF => q_x (v := (.bool t_50.2)) hF hS (ex_extract rfl rfl) rfl rfl fun a hF => q_x (v := s52.v) hF hS (ex_assign rfl) rfl rfl fun a hF => q_x (v := (.bool t_50.2)) hF hS (ex_assign rfl) rfl rfl fun a hF => q_end (n_sq (q_seq (q_region (q_x (v := s45.v) hF hS (ex_move rfl) rfl rfl fun a hF => q_x (v := s46.v) hF hS (ex_move rfl) rfl rfl fun a hF => q_x (v := s47.v) hF hS (ex_move rfl) rfl rfl fun a hF => ?_))))
       obtain ⟨t_53, ht_53, hr⟩ := bindS hr
       refine q_call (vs := [s45.v, s46.v, s47.v]) hF hS Tryz.func12 (by kernel_rfl) rfl rfl rfl (c_spec_SwapCandidates t_43.1 t_43.2.1 t_43.2.2 t_53 ht_53 _ m51 hS.vis s45 (((h45.mono hm48.le).mono hm49.le).mono hm51.le) s46 ((h48.mono hm49.le).mono hm51.le) s47 (h49.mono hm51.le)) ?_
       have hT := hS
       rintro a w _ ⟨m54, q55, s55, rfl, hm54, hR54, h55⟩ hF hS2
       have hS : St _ _ _ _ [q55, q52] := hS.join hR54 hm54
       have hm54 := MLe.weakX (O0 := []) hT hm54
       refine q_x (v := (.tuple #[s55.v, (.bool t_53.2)])) hF hS (ex_move rfl) rfl rfl fun a hF => q_x (v := s55.v) hF hS (ex_extract rfl rfl) rfl rfl fun a hF => q_x (v := (.bool t_53.2)) hF hS (ex_extract rfl rfl) rfl rfl fun a hF => q_x (v := s55.v) hF hS (ex_assign rfl) rfl rfl fun a hF => q_x (v := (.bool t_53.2)) hF hS (ex_assign rfl) rfl rfl fun a hF => q_end (n_sq (q_seq (q_seq ?_)))
       obtain ⟨t_58, hj16, hr⟩ := bindS hr
       refine q_join (fun a w => Fr a 184 [(1, s2.v), (152, (.bool t_58))] ∧ St [] w0 w m54 []) ?_ ?_
       ·refine q_region (q_x (v := (.bool t_50.2)) hF hS (ex_move rfl) rfl rfl fun a hF => q_x (v := (.bool t_53.2)) hF hS (ex_move rfl) rfl rfl fun a hF => q_x (v := (.bool (t_50.2 != t_53.2))) hF hS (ex_bne Tryz.underlying4 rfl rfl) rfl rfl fun a hF => q_x (v := (.bool (t_50.2 != t_53.2))) hF hS (ex_move rfl) rfl rfl fun a hF => ?_)
        rcases bcase (t_50.2 != t_53.2) with hc17 | hc17
        ·have hj16 := cond_f hc17 hj16
         refine q_xg (v := s52.v) hF hS (ex_move rfl) (wanted_t hF rfl rfl rfl hc17) rfl fun a hF => q_xg (v := s55.v) hF hS (ex_move rfl) (wanted_t hF rfl rfl rfl hc17) rfl fun a hF => ?_
         obtain ⟨m57, hl57, hv57, hz57⟩ := hS.lend
         obtain ⟨t_56, ht_56, hj16⟩ := bindS hj16
         refine q_callg (vs := [s52.v, s55.v]) hF hS (wanted_t hF rfl rfl rfl hc17) Tryz.func8 (by kernel_rfl) rfl rfl rfl (c_laws_sameLists t_50.1 t_53.1 t_56 ht_56 _ m57 hv57 s52 ((h52.mono hm54.le).froz hl57 (hz57 1 _ rfl)) s55 (h55.froz hl57 (hz57 0 _ rfl))) ?_
         rintro a w _ rfl hF hS
         refine q_xg (v := (.bool (!t_56))) hF hS (ex_not rfl) (wanted_t hF rfl rfl rfl hc17) rfl fun a hF => q_x (v := (.bool (!t_56))) hF hS (ex_pick_f rfl rfl hc17) rfl rfl fun a hF => q_end (n_jn ?_)
         obtain rfl := someI hj16
         exact ⟨hF.sub ⟨rfl, rfl, trivial⟩, hS.mask [false, false]⟩
        ·have hj16 := cond_t hc17 hj16
         refine q_skip hF (wanted_f hF rfl rfl rfl hc17 rfl) rfl fun a hF => q_skip hF (wanted_f hF rfl rfl rfl hc17 rfl) rfl fun a hF => q_skip hF (wanted_f hF rfl rfl rfl hc17 rfl) rfl fun a hF => q_skip hF (wanted_f hF rfl rfl rfl hc17 rfl) rfl fun a hF => q_x (v := (.bool true)) hF hS (ex_pick_t rfl rfl hc17) rfl rfl fun a hF => q_end (n_jn ?_)
         obtain rfl := someI hj16
         exact ⟨hF.sub ⟨rfl, rfl, trivial⟩, hS.mask [false, false]⟩
       ·rintro a w ⟨hF, hS⟩
        refine n_sq ?_
        rcases bcase (t_58) with hc18 | hc18
        ·have hr := cond_f hc18 hr
         refine q_cond_f hF rfl hc18 (q_skipc (n_sq (q_seq (q_region (q_x (v := s2.v) hF hS (ex_move rfl) rfl rfl fun a hF => ?_)))))
         obtain ⟨t_59, ht_59, hr⟩ := bindS hr
         refine q_call (vs := [s2.v]) hF hS Tryz.func13 (by kernel_rfl) rfl rfl rfl (c_spec_DrawKeepsCounts p_more t_59 ht_59 _ m54 hS.vis s2 ((((((((((h2.mono hm5.le).mono hm9.le).mono hm10.le).mono hm12.le).mono hm15.le).mono hm44.le).mono hm48.le).mono hm49.le).mono hm51.le).mono hm54.le)) ?_
         have hT := hS
         rintro a w _ ⟨m60, q63, q64, s61, s62, s63, s64, rfl, hm60, hR60, h61, h62, h63, h64⟩ hF hS2
         have hS : St _ _ _ _ [q63, q64] := hS.join hR60 hm60
         have hm60 := MLe.weakX (O0 := []) hT hm60
         refine q_x (v := (.tuple #[s61.v, s62.v, s63.v, s64.v])) hF hS (ex_move rfl) rfl rfl fun a hF => q_x (v := s61.v) hF hS (ex_extract rfl rfl) rfl rfl fun a hF => q_x (v := s62.v) hF hS (ex_extract rfl rfl) rfl rfl fun a hF => q_x (v := s63.v) hF hS (ex_extract rfl rfl) rfl rfl fun a hF => q_x (v := s64.v) hF hS (ex_extract rfl rfl) rfl rfl fun a hF => q_x (v := s61.v) hF hS (ex_assign rfl) rfl rfl fun a hF => q_x (v := s62.v) hF hS (ex_assign rfl) rfl rfl fun a hF => q_x (v := s63.v) hF hS (ex_assign rfl) rfl rfl fun a hF => q_x (v := s64.v) hF hS (ex_assign rfl) rfl rfl fun a hF => q_end (n_sq (q_seq (q_region (q_x (v := s61.v) hF hS (ex_move rfl) rfl rfl fun a hF => q_x (v := s62.v) hF hS (ex_move rfl) rfl rfl fun a hF => q_x (v := s63.v) hF hS (ex_move rfl) rfl rfl fun a hF => q_x (v := s64.v) hF hS (ex_move rfl) rfl rfl fun a hF => ?_))))
         obtain ⟨m66, hl66, hv66, hz66⟩ := hS.lend
         obtain ⟨t_65, ht_65, hr⟩ := bindS hr
         refine q_call (vs := [s61.v, s62.v, s63.v, s64.v]) hF hS Tryz.func14 (by kernel_rfl) rfl rfl rfl (c_impl_KeepsCounts t_59.1 t_59.2.1 t_59.2.2.1 t_59.2.2.2 t_65 ht_65 _ m66 hv66 s61 (h61.mono hl66) s62 (h62.mono hl66) s63 (h63.froz hl66 (hz66 0 _ rfl)) s64 (h64.froz hl66 (hz66 1 _ rfl))) ?_
         rintro a w _ rfl hF hS
         refine q_x (v := (.tuple #[(.bool t_65.1), (.bool t_65.2)])) hF hS (ex_move rfl) rfl rfl fun a hF => q_x (v := (.bool t_65.1)) hF hS (ex_extract rfl rfl) rfl rfl fun a hF => q_x (v := (.bool t_65.2)) hF hS (ex_extract rfl rfl) rfl rfl fun a hF => q_x (v := (.bool t_65.1)) hF hS (ex_assign rfl) rfl rfl fun a hF => q_x (v := (.bool t_65.2)) hF hS (ex_assign rfl) rfl rfl fun a hF => q_end (n_sq (q_seq (q_region (q_x (v := s61.v) hF hS (ex_move rfl) rfl rfl fun a hF => q_x (v := s62.v) hF hS (ex_move rfl) rfl rfl fun a hF => q_x (v := s63.v) hF hS (ex_move rfl) rfl rfl fun a hF => q_x (v := s64.v) hF hS (ex_move rfl) rfl rfl fun a hF => ?_))))
         obtain ⟨m68, hl68, hv68, hz68⟩ := hS.lend
         obtain ⟨t_67, ht_67, hr⟩ := bindS hr
         refine q_call (vs := [s61.v, s62.v, s63.v, s64.v]) hF hS Tryz.func15 (by kernel_rfl) rfl rfl rfl (c_spec_KeepsCounts t_59.1 t_59.2.1 t_59.2.2.1 t_59.2.2.2 t_67 ht_67 _ m68 hv68 s61 (h61.mono hl68) s62 (h62.mono hl68) s63 (h63.froz hl68 (hz68 0 _ rfl)) s64 (h64.froz hl68 (hz68 1 _ rfl))) ?_
         rintro a w _ rfl hF hS
         refine q_x (v := (.tuple #[(.bool t_67.1), (.bool t_67.2)])) hF hS (ex_move rfl) rfl rfl fun a hF => q_x (v := (.bool t_67.1)) hF hS (ex_extract rfl rfl) rfl rfl fun a hF => q_x (v := (.bool t_67.2)) hF hS (ex_extract rfl rfl) rfl rfl fun a hF => q_x (v := (.bool t_67.1)) hF hS (ex_assign rfl) rfl rfl fun a hF => q_x (v := (.bool t_67.2)) hF hS (ex_assign rfl) rfl rfl fun a hF => q_end (n_sq (q_seq ?_))
         obtain ⟨t_69, hj19, hr⟩ := bindS hr
         refine q_join (fun a w => Fr a 184 [(4, (.bool t_69))] ∧ St [] w0 w m60 []) ?_ ?_
         ·refine q_region (q_x (v := (.bool t_65.2)) hF hS (ex_move rfl) rfl rfl fun a hF => q_x (v := (.bool t_67.2)) hF hS (ex_move rfl) rfl rfl fun a hF => q_x (v := (.bool (t_65.2 == t_67.2))) hF hS (ex_beq Tryz.underlying4 rfl rfl) rfl rfl fun a hF => q_x (v := (.bool (t_65.2 == t_67.2))) hF hS (ex_move rfl) rfl rfl fun a hF => ?_)
          rcases bcase (t_65.2 == t_67.2) with hc20 | hc20
          ·have hj19 := cond_f hc20 hj19
           refine q_skip hF (wanted_f hF rfl rfl rfl hc20 rfl) rfl fun a hF => q_skip hF (wanted_f hF rfl rfl rfl hc20 rfl) rfl fun a hF => q_skip hF (wanted_f hF rfl rfl rfl hc20 rfl) rfl fun a hF => q_x (v := (.bool false)) hF hS (ex_pick_f rfl rfl hc20) rfl rfl fun a hF => q_x (v := (.bool false)) hF hS (ex_assign rfl) rfl rfl fun a hF => q_end (n_jn ?_)
           obtain rfl := someI hj19
           exact ⟨hF.sub ⟨rfl, trivial⟩, hS.mask [false, false]⟩
          ·have hj19 := cond_t hc20 hj19
           refine q_xg (v := (.bool t_65.1)) hF hS (ex_move rfl) (wanted_t hF rfl rfl rfl hc20) rfl fun a hF => q_xg (v := (.bool t_67.1)) hF hS (ex_move rfl) (wanted_t hF rfl rfl rfl hc20) rfl fun a hF => q_xg (v := (.bool (t_65.1 == t_67.1))) hF hS (ex_beq Tryz.underlying4 rfl rfl) (wanted_t hF rfl rfl rfl hc20) rfl fun a hF => q_x (v := (.bool (t_65.1 == t_67.1))) hF hS (ex_pick_t rfl rfl hc20) rfl rfl fun a hF => q_x (v := (.bool (t_65.1 == t_67.1))) hF hS (ex_assign rfl) rfl rfl fun a hF => q_end (n_jn ?_)
           obtain rfl := someI hj19
           exact ⟨hF.sub ⟨rfl, trivial⟩, hS.mask [false, false]⟩
         ·rintro a w ⟨hF, hS⟩
          refine n_sq (q_ret ?_)
          obtain rfl := someI hr
          exact ret_of hF hS rfl (.tmp rfl .nil) rfl
        ·have hr := cond_t hc18 hr
         refine q_cond_t hF rfl hc18 (q_seq (q_region (q_x (v := (.bool false)) hF hS (ex_assign rfl) rfl rfl fun a hF => q_end (n_sq (q_ret (r_sq ?_))))))
         obtain rfl := someI hr
         exact ret_of hF hS rfl (.tmp rfl .nil) rfl
      ·have hr := cond_t hc15 hr
       refine q_cond_t hF rfl hc15 (q_seq (q_region (q_x (v := (.bool false)) hF hS (ex_assign rfl) rfl rfl fun a hF => q_end (n_sq (q_ret (r_sq ?_))))))
       obtain rfl := someI hr
       exact ret_of hF hS rfl (.tmp rfl .nil) rfl
   ·have hr := cond_t hc4 hr
    refine q_cond_t hF rfl hc4 (q_seq (q_region (q_x (v := (.bool false)) hF hS (ex_assign rfl) rfl rfl fun a hF => q_end (n_sq (q_ret (r_sq ?_))))))
    obtain rfl := someI hr
    exact ret_of hF hS rfl (.tmp rfl .nil) rfl
 ·have hr := cond_t hc1 hr
  refine q_cond_t hF rfl hc1 (q_seq (q_region (q_x (v := (.bool true)) hF hS (ex_assign rfl) rfl rfl fun a hF => q_end (n_sq (q_ret (r_sq ?_))))))
  obtain rfl := someI hr
  exact ret_of hF hS rfl (.tmp rfl .nil) rfl

end Go.Proofs.YtebjhiflnemkhaaGreat
