/- The walks of the functions: each returns what its plain function says. -/
import Derived.Test.YtiikfhfnkppeeaaEDefs
import Derived.Test.YtiikfhfnkppeeaaRows
namespace Go.Proofs.Ytiikfhfnkppeeaa
open Go.Gx Go.Gx.F Go.RowKit
set_option linter.all false
set_option maxRecDepth 10000

theorem mixed : Try.prog.follows .mixedOrders = true := by kernel_rfl
theorem inf3 : inf Try.prog 3 = some (1, 8, [(.int .i64 0)]) := by kernel_rfl
theorem inf33 : inf Try.prog 33 = some (1, 24, [nilS.v]) := by kernel_rfl
theorem sz3 : szOf Try.prog 3 = some 1 := by kernel_rfl
theorem sz5 : szOf Try.prog 5 = some 1 := by kernel_rfl
theorem sz22 : szOf Try.prog 22 = some 1 := by kernel_rfl
theorem sz33 : szOf Try.prog 33 = some 1 := by kernel_rfl
theorem sz46 : szOf Try.prog 46 = some 2 := by kernel_rfl
theorem sz67 : szOf Try.prog 67 = some 1 := by kernel_rfl

theorem c_spec_l1Cur_next (p_c : spec_l1Cur) (r : Int × spec_l1Cur) (hr : spec_l1Cur_next p_c = some r) (w0 : World) (m : Mem) (b_p_c : Nat) (s1 : Sl) (h1 : Rd m s1 p_c.code) (X : List Nat) (hS : St X w0 w0 m [[⟨b_p_c, [s1.v, (.int .i64 p_c.at_), (.int .u64 p_c.seed.v)], 69⟩]]) :
    RetX Try.prog 85 [(.pointer (some ⟨b_p_c, 0, none⟩))] w0 (fun v w => v = (.int .i64 r.1) ∧ St X w0 w m [[⟨b_p_c, [s1.v, (.int .i64 r.2.at_), (.int .u64 r.2.seed.v)], 69⟩]] ∧ r.2.code = p_c.code) := by
  unfold spec_l1Cur_next at hr
  refine ret_startX Try.func85 rfl 62 rfl rfl fun a hF => ?_
  refine q_seq ?_
  refine q_region ?_
  refine q_x (v := (.int .i64 0)) hF hS (ex_assign rfl) rfl rfl fun a hF => ?_
  refine q_end (n_sq ?_)
  refine q_seq ?_
  refine q_region ?_
  refine q_x (v := (.int .i64 0)) hF hS (ex_assign rfl) rfl rfl fun a hF => ?_
  refine q_end (n_sq ?_)
  refine q_seq ?_
  refine q_seq ?_
  refine e_region [] mixed fun w' hw' => ?_
  have hS := hS.below hw'
  refine e_p (v := (.pointer (some ⟨b_p_c, 0, none⟩))) 0 hF rfl (ex_move rfl) rfl rfl (by kernel_rfl) (by kernel_rfl) (by kernel_rfl) fun a hF => ?_
  refine e_p (v := (.pointer (some ⟨b_p_c, 0, none⟩))) 1 hF rfl (ex_nilCheck rfl) rfl rfl (by kernel_rfl) (by kernel_rfl) (by kernel_rfl) fun a hF => ?_
  refine e_p (v := (.pointer (some ⟨b_p_c, 1, none⟩))) 2 hF rfl (ex_fieldAddr Try.underlying69 rfl sz3 rfl rfl) rfl rfl (by kernel_rfl) (by kernel_rfl) (by kernel_rfl) fun a hF => ?_
  refine e_x (v := (.int .i64 p_c.at_)) 3 hF hS rfl (ex_load1 0 0 Try.underlying3 rfl rfl rfl rfl) rfl rfl (by kernel_rfl) (by kernel_rfl) (by kernel_rfl) (by kernel_rfl) fun a hF => ?_
  refine e_p (v := (.pointer (some ⟨b_p_c, 0, none⟩))) 4 hF rfl (ex_move rfl) rfl rfl (by kernel_rfl) (by kernel_rfl) (by kernel_rfl) fun a hF => ?_
  refine e_p (v := (.pointer (some ⟨b_p_c, 0, none⟩))) 5 hF rfl (ex_nilCheck rfl) rfl rfl (by kernel_rfl) (by kernel_rfl) (by kernel_rfl) fun a hF => ?_
  refine e_p (v := (.pointer (some ⟨b_p_c, 0, none⟩))) 6 hF rfl (ex_fieldAddr Try.underlying69 rfl sz22 rfl rfl) rfl rfl (by kernel_rfl) (by kernel_rfl) (by kernel_rfl) fun a hF => ?_
  refine e_x (v := s1.v) 7 hF hS rfl (ex_load1 0 0 Try.underlying22 rfl rfl rfl rfl) rfl rfl (by kernel_rfl) (by kernel_rfl) (by kernel_rfl) (by kernel_rfl) fun a hF => ?_
  refine e_p (v := (.int .i64 (goLen p_c.code))) 8 hF rfl (ex_len Try.underlying22 rfl h1.len) rfl rfl (by kernel_rfl) (by kernel_rfl) (by kernel_rfl) fun a hF => ?_
  refine e_p (v := (.bool (decide (p_c.at_ < (goLen p_c.code))))) 9 hF rfl (ex_ibin rfl rfl rfl) rfl rfl (by kernel_rfl) (by kernel_rfl) (by kernel_rfl) fun a hF => ?_
  refine e_end (by kernel_rfl) (n_sq ?_) _
  obtain ⟨b_4, hj1, hr⟩ := bindS hr
  refine q_join (fun a w => Fr a 62 [(0, (.pointer (some ⟨b_p_c, 0, none⟩))), (3, (.int .i64 b_4))] ∧ St X w0 w m [[⟨b_p_c, [s1.v, (.int .i64 p_c.at_), (.int .u64 p_c.seed.v)], 69⟩]]) ?_ ?_
  · rcases bcase (decide (p_c.at_ < (goLen p_c.code))) with hc2 | hc2
    · have hj1 := cond_f hc2 hj1
      refine q_cond_f hF rfl hc2 ?_
      refine q_skipc (n_jn ?_)
      obtain rfl := someI hj1
      exact ⟨hF.sub ⟨rfl, rfl, trivial⟩, hS⟩
    · have hj1 := cond_t hc2 hj1
      refine q_cond_t hF rfl hc2 ?_
      refine e_region [] mixed fun w' hw' => ?_
      have hS := hS.below hw'
      refine e_p (v := (.pointer (some ⟨b_p_c, 0, none⟩))) 0 hF rfl (ex_move rfl) rfl rfl (by kernel_rfl) (by kernel_rfl) (by kernel_rfl) fun a hF => ?_
      refine e_p (v := (.pointer (some ⟨b_p_c, 0, none⟩))) 1 hF rfl (ex_nilCheck rfl) rfl rfl (by kernel_rfl) (by kernel_rfl) (by kernel_rfl) fun a hF => ?_
      refine e_p (v := (.pointer (some ⟨b_p_c, 0, none⟩))) 2 hF rfl (ex_fieldAddr Try.underlying69 rfl sz22 rfl rfl) rfl rfl (by kernel_rfl) (by kernel_rfl) (by kernel_rfl) fun a hF => ?_
      refine e_x (v := s1.v) 3 hF hS rfl (ex_load1 0 0 Try.underlying22 rfl rfl rfl rfl) rfl rfl (by kernel_rfl) (by kernel_rfl) (by kernel_rfl) (by kernel_rfl) fun a hF => ?_
      refine e_p (v := (.pointer (some ⟨b_p_c, 0, none⟩))) 4 hF rfl (ex_move rfl) rfl rfl (by kernel_rfl) (by kernel_rfl) (by kernel_rfl) fun a hF => ?_
      refine e_p (v := (.pointer (some ⟨b_p_c, 0, none⟩))) 5 hF rfl (ex_nilCheck rfl) rfl rfl (by kernel_rfl) (by kernel_rfl) (by kernel_rfl) fun a hF => ?_
      refine e_p (v := (.pointer (some ⟨b_p_c, 1, none⟩))) 6 hF rfl (ex_fieldAddr Try.underlying69 rfl sz3 rfl rfl) rfl rfl (by kernel_rfl) (by kernel_rfl) (by kernel_rfl) fun a hF => ?_
      refine e_x (v := (.int .i64 p_c.at_)) 7 hF hS rfl (ex_load1 0 0 Try.underlying3 rfl rfl rfl rfl) rfl rfl (by kernel_rfl) (by kernel_rfl) (by kernel_rfl) (by kernel_rfl) fun a hF => ?_
      obtain ⟨e_2, he_2, hj1⟩ := bindS hj1
      obtain ⟨vs3, at3, d3⟩ := h1.at he_2 1 rfl
      obtain rfl : vs3 = [(.int .u8 e_2.v)] := d3
      refine e_p (v := (elP s1 (p_c.at_.toNat * 1))) 8 hF rfl (ex_indexAddr Try.underlying22 sz5 rfl rfl (h1.idx he_2)) rfl rfl (by kernel_rfl) (by kernel_rfl) (by kernel_rfl) fun a hF => ?_
      refine e_x (v := (.int .u8 e_2.v)) 9 hF hS rfl (ex_loadE1 0 Try.underlying5 rfl rfl ((at3).at) rfl rfl) rfl rfl (by kernel_rfl) (by kernel_rfl) (by kernel_rfl) (by kernel_rfl) fun a hF => ?_
      refine e_p (v := (.int .i64 (w64 e_2.v))) 10 hF rfl (ex_conv Try.underlying5 Try.underlying3 rfl) rfl rfl (by kernel_rfl) (by kernel_rfl) (by kernel_rfl) fun a hF => ?_
      refine e_p (v := (.int .i64 (w64 e_2.v))) 11 hF rfl (ex_assign rfl) rfl rfl (by kernel_rfl) (by kernel_rfl) (by kernel_rfl) fun a hF => ?_
      refine e_end (by kernel_rfl) (n_jn ?_) _
      obtain rfl := someI hj1
      exact ⟨hF.sub ⟨rfl, rfl, trivial⟩, hS⟩
  · rintro a w ⟨hF, hS⟩
    refine n_sq ?_
    refine q_seq ?_
    refine q_region ?_
    refine q_x (v := (.pointer (some ⟨b_p_c, 0, none⟩))) hF hS (ex_move rfl) rfl rfl fun a hF => ?_
    refine q_x (v := (.pointer (some ⟨b_p_c, 0, none⟩))) hF hS (ex_nilCheck rfl) rfl rfl fun a hF => ?_
    refine q_x (v := (.pointer (some ⟨b_p_c, 1, none⟩))) hF hS (ex_fieldAddr Try.underlying69 rfl sz3 rfl rfl) rfl rfl fun a hF => ?_
    refine q_x (v := (.int .i64 p_c.at_)) hF hS (ex_load1 0 0 Try.underlying3 rfl rfl rfl rfl) rfl rfl fun a hF => ?_
    refine q_x (v := (.int .i64 (w64 (p_c.at_ + 1)))) hF hS (ex_ibin rfl rfl rfl) rfl rfl fun a hF => ?_
    refine q_x (v := (.pointer (some ⟨b_p_c, 0, none⟩))) hF hS (ex_nilCheck rfl) rfl rfl fun a hF => ?_
    refine q_x (v := (.pointer (some ⟨b_p_c, 1, none⟩))) hF hS (ex_fieldAddr Try.underlying69 rfl sz3 rfl rfl) rfl rfl fun a hF => ?_
    refine q_store (vs := [(.int .i64 (w64 (p_c.at_ + 1)))]) (cs' := [s1.v, (.int .i64 (w64 (p_c.at_ + 1))), (.int .u64 p_c.seed.v)]) 0 0 hF hS sz3 rfl rfl rfl rfl rfl rfl rfl rfl fun a w hF hS => ?_
    refine q_end (n_sq ?_)
    refine q_seq ?_
    refine q_region ?_
    refine q_x (v := (.pointer (some ⟨b_p_c, 0, none⟩))) hF hS (ex_move rfl) rfl rfl fun a hF => ?_
    refine q_x (v := (.pointer (some ⟨b_p_c, 0, none⟩))) hF hS (ex_move rfl) rfl rfl fun a hF => ?_
    refine q_x (v := (.pointer (some ⟨b_p_c, 0, none⟩))) hF hS (ex_nilCheck rfl) rfl rfl fun a hF => ?_
    refine q_x (v := (.pointer (some ⟨b_p_c, 2, none⟩))) hF hS (ex_fieldAddr Try.underlying69 rfl sz67 rfl rfl) rfl rfl fun a hF => ?_
    refine q_x (v := (.int .u64 p_c.seed.v)) hF hS (ex_load1 0 0 Try.underlying67 rfl rfl rfl rfl) rfl rfl fun a hF => ?_
    refine q_x (v := (.int .u64 (IntKind.wrap .u64 (p_c.seed.v * 6364136223846793005)))) hF hS (ex_ibin rfl rfl rfl) rfl rfl fun a hF => ?_
    refine q_x (v := (.int .i64 b_4)) hF hS (ex_move rfl) rfl rfl fun a hF => ?_
    refine q_x (v := (.int .u64 (IntKind.wrap .u64 b_4))) hF hS (ex_conv Try.underlying3 Try.underlying67 rfl) rfl rfl fun a hF => ?_
    refine q_x (v := (.int .u64 (IntKind.wrap .u64 ((IntKind.wrap .u64 (p_c.seed.v * 6364136223846793005)) + (IntKind.wrap .u64 b_4))))) hF hS (ex_ibin rfl rfl rfl) rfl rfl fun a hF => ?_
    refine q_x (v := (.int .u64 (IntKind.wrap .u64 ((IntKind.wrap .u64 ((IntKind.wrap .u64 (p_c.seed.v * 6364136223846793005)) + (IntKind.wrap .u64 b_4))) + 1442695040888963407)))) hF hS (ex_ibin rfl rfl rfl) rfl rfl fun a hF => ?_
    refine q_x (v := (.pointer (some ⟨b_p_c, 0, none⟩))) hF hS (ex_nilCheck rfl) rfl rfl fun a hF => ?_
    refine q_x (v := (.pointer (some ⟨b_p_c, 2, none⟩))) hF hS (ex_fieldAddr Try.underlying69 rfl sz67 rfl rfl) rfl rfl fun a hF => ?_
    refine q_store (vs := [(.int .u64 (IntKind.wrap .u64 ((IntKind.wrap .u64 ((IntKind.wrap .u64 (p_c.seed.v * 6364136223846793005)) + (IntKind.wrap .u64 b_4))) + 1442695040888963407)))]) (cs' := [s1.v, (.int .i64 (w64 (p_c.at_ + 1))), (.int .u64 (IntKind.wrap .u64 ((IntKind.wrap .u64 ((IntKind.wrap .u64 (p_c.seed.v * 6364136223846793005)) + (IntKind.wrap .u64 b_4))) + 1442695040888963407)))]) 0 0 hF hS sz67 rfl rfl rfl rfl rfl rfl rfl rfl fun a w hF hS => ?_
    refine q_end (n_sq ?_)
    refine q_seq ?_
    refine q_seq ?_
    refine e_region [] mixed fun w' hw' => ?_
    have hS := hS.below hw'
    refine e_p (v := (.pointer (some ⟨b_p_c, 0, none⟩))) 0 hF rfl (ex_move rfl) rfl rfl (by kernel_rfl) (by kernel_rfl) (by kernel_rfl) fun a hF => ?_
    refine e_p (v := (.pointer (some ⟨b_p_c, 0, none⟩))) 1 hF rfl (ex_nilCheck rfl) rfl rfl (by kernel_rfl) (by kernel_rfl) (by kernel_rfl) fun a hF => ?_
    refine e_p (v := (.pointer (some ⟨b_p_c, 1, none⟩))) 2 hF rfl (ex_fieldAddr Try.underlying69 rfl sz3 rfl rfl) rfl rfl (by kernel_rfl) (by kernel_rfl) (by kernel_rfl) fun a hF => ?_
    refine e_x (v := (.int .i64 (w64 (p_c.at_ + 1)))) 3 hF hS rfl (ex_load1 0 0 Try.underlying3 rfl rfl rfl rfl) rfl rfl (by kernel_rfl) (by kernel_rfl) (by kernel_rfl) (by kernel_rfl) fun a hF => ?_
    refine e_p (v := (.pointer (some ⟨b_p_c, 0, none⟩))) 4 hF rfl (ex_move rfl) rfl rfl (by kernel_rfl) (by kernel_rfl) (by kernel_rfl) fun a hF => ?_
    refine e_p (v := (.pointer (some ⟨b_p_c, 0, none⟩))) 5 hF rfl (ex_nilCheck rfl) rfl rfl (by kernel_rfl) (by kernel_rfl) (by kernel_rfl) fun a hF => ?_
    refine e_p (v := (.pointer (some ⟨b_p_c, 0, none⟩))) 6 hF rfl (ex_fieldAddr Try.underlying69 rfl sz22 rfl rfl) rfl rfl (by kernel_rfl) (by kernel_rfl) (by kernel_rfl) fun a hF => ?_
    refine e_x (v := s1.v) 7 hF hS rfl (ex_load1 0 0 Try.underlying22 rfl rfl rfl rfl) rfl rfl (by kernel_rfl) (by kernel_rfl) (by kernel_rfl) (by kernel_rfl) fun a hF => ?_
    refine e_p (v := (.int .i64 (goLen p_c.code))) 8 hF rfl (ex_len Try.underlying22 rfl h1.len) rfl rfl (by kernel_rfl) (by kernel_rfl) (by kernel_rfl) fun a hF => ?_
    refine e_p (v := (.bool (decide ((w64 (p_c.at_ + 1)) ≤ (goLen p_c.code))))) 9 hF rfl (ex_ibin rfl rfl rfl) rfl rfl (by kernel_rfl) (by kernel_rfl) (by kernel_rfl) fun a hF => ?_
    refine e_end (by kernel_rfl) (n_sq ?_) _
    rcases bcase (decide ((w64 (p_c.at_ + 1)) ≤ (goLen p_c.code))) with hc3 | hc3
    · have hr := cond_f hc3 hr
      refine q_cond_f hF rfl hc3 ?_
      refine q_skipc (n_sq ?_)
      refine q_seq ?_
      refine q_region ?_
      refine q_x (v := (.pointer (some ⟨b_p_c, 0, none⟩))) hF hS (ex_move rfl) rfl rfl fun a hF => ?_
      refine q_x (v := (.pointer (some ⟨b_p_c, 0, none⟩))) hF hS (ex_nilCheck rfl) rfl rfl fun a hF => ?_
      refine q_x (v := (.pointer (some ⟨b_p_c, 2, none⟩))) hF hS (ex_fieldAddr Try.underlying69 rfl sz67 rfl rfl) rfl rfl fun a hF => ?_
      refine q_x (v := (.int .u64 (IntKind.wrap .u64 ((IntKind.wrap .u64 ((IntKind.wrap .u64 (p_c.seed.v * 6364136223846793005)) + (IntKind.wrap .u64 b_4))) + 1442695040888963407)))) hF hS (ex_load1 0 0 Try.underlying67 rfl rfl rfl rfl) rfl rfl fun a hF => ?_
      obtain ⟨t_5, ht_5, hr⟩ := bindS hr
      refine q_x (v := (.int .u64 t_5)) hF hS (ex_shr rfl rfl ht_5) rfl rfl fun a hF => ?_
      refine q_x (v := (.int .u64 (goBits .and .u64 t_5 255))) hF hS (ex_bits rfl rfl rfl) rfl rfl fun a hF => ?_
      refine q_x (v := (.int .i64 (w64 (goBits .and .u64 t_5 255)))) hF hS (ex_conv Try.underlying67 Try.underlying3 rfl) rfl rfl fun a hF => ?_
      refine q_x (v := (.int .i64 (w64 (goBits .and .u64 t_5 255)))) hF hS (ex_assign rfl) rfl rfl fun a hF => ?_
      refine q_end (n_sq (q_ret ?_))
      obtain rfl := someI hr
      exact ret_ofX hF hS rfl (.tmp rfl .nil) ⟨rfl, hS.sel [0] (by decide), rfl⟩
    · have hr := cond_t hc3 hr
      refine q_cond_t hF rfl hc3 ?_
      refine q_seq ?_
      refine q_region ?_
      refine q_x (v := (.int .i64 b_4)) hF hS (ex_move rfl) rfl rfl fun a hF => ?_
      refine q_x (v := (.int .i64 b_4)) hF hS (ex_assign rfl) rfl rfl fun a hF => ?_
      refine q_end (n_sq (q_ret (r_sq ?_)))
      obtain rfl := someI hr
      exact ret_ofX hF hS rfl (.tmp rfl .nil) ⟨rfl, hS.sel [0] (by decide), rfl⟩

theorem c_spec_l1Cur_pick (p_c : spec_l1Cur) (p_n : Int) (r : Int × spec_l1Cur) (hr : spec_l1Cur_pick p_c p_n = some r) (w0 : World) (m : Mem) (b_p_c : Nat) (s1 : Sl) (h1 : Rd m s1 p_c.code) (X : List Nat) (hS : St X w0 w0 m [[⟨b_p_c, [s1.v, (.int .i64 p_c.at_), (.int .u64 p_c.seed.v)], 69⟩]]) :
    RetX Try.prog 41 [(.pointer (some ⟨b_p_c, 0, none⟩)), (.int .i64 p_n)] w0 (fun v w => v = (.int .i64 r.1) ∧ St X w0 w m [[⟨b_p_c, [s1.v, (.int .i64 r.2.at_), (.int .u64 r.2.seed.v)], 69⟩]] ∧ r.2.code = p_c.code) := by
  unfold spec_l1Cur_pick at hr
  refine ret_startX Try.func41 rfl 20 rfl rfl fun a hF => ?_
  refine q_seq ?_
  refine q_region ?_
  refine q_x (v := (.int .i64 0)) hF hS (ex_assign rfl) rfl rfl fun a hF => ?_
  refine q_end (n_sq ?_)
  refine q_seq ?_
  refine q_seq ?_
  refine q_region ?_
  refine q_x (v := (.int .i64 p_n)) hF hS (ex_move rfl) rfl rfl fun a hF => ?_
  refine q_x (v := (.bool (decide (p_n ≤ 1)))) hF hS (ex_ibin rfl rfl rfl) rfl rfl fun a hF => ?_
  refine q_end (n_sq ?_)
  rcases bcase (decide (p_n ≤ 1)) with hc1 | hc1
  · have hr := cond_f hc1 hr
    refine q_cond_f hF rfl hc1 ?_
    refine q_skipc (n_sq ?_)
    refine q_seq ?_
    refine q_region ?_
    refine q_x (v := (.pointer (some ⟨b_p_c, 0, none⟩))) hF hS (ex_move rfl) rfl rfl fun a hF => ?_
    have hS2 : St _ _ _ _ ([[⟨b_p_c, [s1.v, (.int .i64 p_c.at_), (.int .u64 p_c.seed.v)], 69⟩]] ++ []) := hS
    have hE2 := hS2.enter
    obtain ⟨t_3, ht_3, hr⟩ := bindS hr
    refine q_do rfl fun _ hK => wp_callX (vs := [(.pointer (some ⟨b_p_c, 0, none⟩))]) hF Try.func85 (by kernel_rfl) rfl rfl rfl (c_spec_l1Cur_next p_c t_3 ht_3 _ m b_p_c s1 h1 _ hE2) fun a w _ hR hF => hK _ _ ?_
    obtain ⟨rfl, hR2, hk4⟩ := hR
    have hS : St _ _ _ _ [[⟨b_p_c, [s1.v, (.int .i64 t_3.2.at_), (.int .u64 t_3.2.seed.v)], 69⟩]] := hS2.leaveF hR2
    have h4 : Rd m s1 t_3.2.code := by rw [hk4]; exact h1
    refine q_x (v := (.int .i64 t_3.1)) hF hS (ex_assign rfl) rfl rfl fun a hF => ?_
    refine q_end (n_sq ?_)
    refine q_seq ?_
    refine q_seq ?_
    refine q_region ?_
    refine q_x (v := (.int .i64 p_n)) hF hS (ex_move rfl) rfl rfl fun a hF => ?_
    refine q_x (v := (.bool (decide (200 < p_n)))) hF hS (ex_ibin rfl rfl rfl) rfl rfl fun a hF => ?_
    refine q_end (n_sq ?_)
    obtain ⟨j2, hj2, hr⟩ := bindS hr
    refine q_join (fun a w => ∃ x_8, ∃ p_c_9, j2 = (x_8, p_c_9) ∧ Fr a 20 [(1, (.int .i64 p_n)), (5, (.int .i64 x_8))] ∧ St X w0 w m [[⟨b_p_c, [s1.v, (.int .i64 p_c_9.at_), (.int .u64 p_c_9.seed.v)], 69⟩]] ∧ Rd m s1 p_c_9.code ∧ p_c_9.code = p_c.code) ?_ ?_
    · rcases bcase (decide (200 < p_n)) with hc3 | hc3
      · have hj2 := cond_f hc3 hj2
        refine q_cond_f hF rfl hc3 ?_
        refine q_skipc (n_jn ?_)
        obtain rfl := someI hj2
        exact ⟨_, _, rfl, hF.sub ⟨rfl, rfl, trivial⟩, hS, h4, hk4⟩
      · have hj2 := cond_t hc3 hj2
        refine q_cond_t hF rfl hc3 ?_
        refine q_region ?_
        refine q_x (v := (.int .i64 t_3.1)) hF hS (ex_move rfl) rfl rfl fun a hF => ?_
        refine q_x (v := (.int .i64 (w64 (t_3.1 * 256)))) hF hS (ex_ibin rfl rfl rfl) rfl rfl fun a hF => ?_
        refine q_x (v := (.pointer (some ⟨b_p_c, 0, none⟩))) hF hS (ex_move rfl) rfl rfl fun a hF => ?_
        have hS5 : St _ _ _ _ ([[⟨b_p_c, [s1.v, (.int .i64 t_3.2.at_), (.int .u64 t_3.2.seed.v)], 69⟩]] ++ []) := hS
        have hE5 := hS5.enter
        obtain ⟨t_6, ht_6, hj2⟩ := bindS hj2
        refine q_do rfl fun _ hK => wp_callX (vs := [(.pointer (some ⟨b_p_c, 0, none⟩))]) hF Try.func85 (by kernel_rfl) rfl rfl rfl (c_spec_l1Cur_next t_3.2 t_6 ht_6 _ m b_p_c s1 h4 _ hE5) fun a w _ hR hF => hK _ _ ?_
        obtain ⟨rfl, hR5, hk7⟩ := hR
        have hS : St _ _ _ _ [[⟨b_p_c, [s1.v, (.int .i64 t_6.2.at_), (.int .u64 t_6.2.seed.v)], 69⟩]] := hS5.leaveF hR5
        have h7 : Rd m s1 t_6.2.code := by rw [hk7]; exact h4
        refine q_x (v := (.int .i64 (w64 ((w64 (t_3.1 * 256)) + t_6.1)))) hF hS (ex_ibin rfl rfl rfl) rfl rfl fun a hF => ?_
        refine q_x (v := (.int .i64 (w64 ((w64 (t_3.1 * 256)) + t_6.1)))) hF hS (ex_assign rfl) rfl rfl fun a hF => ?_
        refine q_end (n_jn ?_)
        obtain rfl := someI hj2
        exact ⟨_, _, rfl, hF.sub ⟨rfl, rfl, trivial⟩, hS, h7, (hk7.trans hk4)⟩
    · rintro a w ⟨x_8, p_c_9, rfl, hF, hS, h10, h10k⟩
      refine n_sq ?_
      refine q_seq ?_
      refine q_region ?_
      refine q_x (v := (.int .i64 x_8)) hF hS (ex_move rfl) rfl rfl fun a hF => ?_
      refine q_x (v := (.int .i64 p_n)) hF hS (ex_move rfl) rfl rfl fun a hF => ?_
      obtain ⟨t_11, ht_11, hr⟩ := bindS hr
      refine q_x (v := (.int .i64 t_11)) hF hS (ex_rem rfl rfl ht_11) rfl rfl fun a hF => ?_
      refine q_x (v := (.int .i64 t_11)) hF hS (ex_assign rfl) rfl rfl fun a hF => ?_
      refine q_end (n_sq (q_ret ?_))
      obtain rfl := someI hr
      exact ret_ofX hF hS rfl (.tmp rfl .nil) ⟨rfl, hS.sel [0] (by decide), h10k⟩
  · have hr := cond_t hc1 hr
    refine q_cond_t hF rfl hc1 ?_
    refine q_seq ?_
    refine q_region ?_
    refine q_x (v := (.int .i64 0)) hF hS (ex_assign rfl) rfl rfl fun a hF => ?_
    refine q_end (n_sq (q_ret (r_sq ?_)))
    obtain rfl := someI hr
    exact ret_ofX hF hS rfl (.tmp rfl .nil) ⟨rfl, hS.sel [0] (by decide), rfl⟩

theorem c_spec_l1Cur_among (p_c : spec_l1Cur) (p_list : List Int) (r : Int × spec_l1Cur) (hr : spec_l1Cur_among p_c p_list = some r) (w0 : World) (m : Mem) (b_p_c : Nat) (s1 : Sl) (h1 : Rd m s1 p_c.code) (s2 : Sl) (h2 : Rd m s2 p_list) (X : List Nat) (hS : St X w0 w0 m [[⟨b_p_c, [s1.v, (.int .i64 p_c.at_), (.int .u64 p_c.seed.v)], 69⟩]]) :
    RetX Try.prog 40 [(.pointer (some ⟨b_p_c, 0, none⟩)), s2.v] w0 (fun v w => v = (.int .i64 r.1) ∧ St X w0 w m [[⟨b_p_c, [s1.v, (.int .i64 r.2.at_), (.int .u64 r.2.seed.v)], 69⟩]] ∧ r.2.code = p_c.code) := by
  unfold spec_l1Cur_among at hr
  refine ret_startX Try.func40 rfl 12 rfl rfl fun a hF => ?_
  refine q_seq ?_
  refine q_region ?_
  refine q_x (v := (.int .i64 0)) hF hS (ex_assign rfl) rfl rfl fun a hF => ?_
  refine q_end (n_sq ?_)
  refine q_seq ?_
  refine q_region ?_
  refine q_x (v := s2.v) hF hS (ex_move rfl) rfl rfl fun a hF => ?_
  refine q_x (v := (.pointer (some ⟨b_p_c, 0, none⟩))) hF hS (ex_move rfl) rfl rfl fun a hF => ?_
  refine q_x (v := s2.v) hF hS (ex_move rfl) rfl rfl fun a hF => ?_
  refine q_x (v := (.int .i64 (goLen p_list))) hF hS (ex_len Try.underlying33 rfl h2.len) rfl rfl fun a hF => ?_
  have hS3 : St _ _ _ _ ([[⟨b_p_c, [s1.v, (.int .i64 p_c.at_), (.int .u64 p_c.seed.v)], 69⟩]] ++ []) := hS
  have hE3 := hS3.enter
  obtain ⟨t_4, ht_4, hr⟩ := bindS hr
  refine q_do rfl fun _ hK => wp_callX (vs := [(.pointer (some ⟨b_p_c, 0, none⟩)), (.int .i64 (goLen p_list))]) hF Try.func41 (by kernel_rfl) rfl rfl rfl (c_spec_l1Cur_pick p_c (goLen p_list) t_4 ht_4 _ m b_p_c s1 h1 _ hE3) fun a w _ hR hF => hK _ _ ?_
  obtain ⟨rfl, hR3, hk5⟩ := hR
  have hS : St _ _ _ _ [[⟨b_p_c, [s1.v, (.int .i64 t_4.2.at_), (.int .u64 t_4.2.seed.v)], 69⟩]] := hS3.leaveF hR3
  have h5 : Rd m s1 t_4.2.code := by rw [hk5]; exact h1
  obtain ⟨e_6, he_6, hr⟩ := bindS hr
  obtain ⟨vs7, at7, d7⟩ := h2.at he_6 1 rfl
  obtain rfl : vs7 = [(.int .i64 e_6)] := d7
  refine q_x (v := (elP s2 (t_4.1.toNat * 1))) hF hS (ex_indexAddr Try.underlying33 sz3 rfl rfl (h2.idx he_6)) rfl rfl fun a hF => ?_
  refine q_x (v := (.int .i64 e_6)) hF hS (ex_loadE1 0 Try.underlying3 rfl rfl ((at7).at) rfl rfl) rfl rfl fun a hF => ?_
  refine q_x (v := (.int .i64 e_6)) hF hS (ex_assign rfl) rfl rfl fun a hF => ?_
  refine q_end (n_sq (q_ret ?_))
  obtain rfl := someI hr
  exact ret_ofX hF hS rfl (.tmp rfl .nil) ⟨rfl, hS.sel [0] (by decide), hk5⟩

theorem c_spec_l1Cur_sizes (p_c : spec_l1Cur) (r : (List Int) × spec_l1Cur) (hr : spec_l1Cur_sizes p_c = some r) (w0 : World) (m : Mem) (b_p_c : Nat) (s1 : Sl) (h1 : Rd m s1 p_c.code) (X : List Nat) (hS : St X w0 w0 m [[⟨b_p_c, [s1.v, (.int .i64 p_c.at_), (.int .u64 p_c.seed.v)], 69⟩]]) :
    RetX Try.prog 55 [(.pointer (some ⟨b_p_c, 0, none⟩))] w0 (fun v w => ∃ (m' : Mem) (s0' : Sl), v = s0'.v ∧ MLe X w0.heap.size m m' ∧ St X w0 w m' [[⟨b_p_c, [s1.v, (.int .i64 r.2.at_), (.int .u64 r.2.seed.v)], 69⟩]] ∧ Rd m' s0' r.1 ∧ r.2.code = p_c.code) := by
  unfold spec_l1Cur_sizes at hr
  refine ret_startX Try.func55 rfl 47 rfl rfl fun a hF => ?_
  refine q_seq ?_
  refine q_region ?_
  refine q_x (v := nilS.v) hF hS (ex_assign rfl) rfl rfl fun a hF => ?_
  refine q_end (n_sq ?_)
  refine q_seq ?_
  refine q_region ?_
  refine q_x (v := nilS.v) hF hS (ex_assign rfl) rfl rfl fun a hF => ?_
  refine q_end (n_sq ?_)
  refine q_seq ?_
  refine q_seq ?_
  refine q_region ?_
  refine q_x (v := (.pointer (some ⟨b_p_c, 0, none⟩))) hF hS (ex_move rfl) rfl rfl fun a hF => ?_
  have hS2 : St _ _ _ _ ([[⟨b_p_c, [s1.v, (.int .i64 p_c.at_), (.int .u64 p_c.seed.v)], 69⟩]] ++ []) := hS
  have hE2 := hS2.enter
  obtain ⟨t_3, ht_3, hr⟩ := bindS hr
  refine q_do rfl fun _ hK => wp_callX (vs := [(.pointer (some ⟨b_p_c, 0, none⟩)), (.int .i64 4)]) hF Try.func41 (by kernel_rfl) rfl rfl rfl (c_spec_l1Cur_pick p_c 4 t_3 ht_3 _ m b_p_c s1 h1 _ hE2) fun a w _ hR hF => hK _ _ ?_
  obtain ⟨rfl, hR2, hk4⟩ := hR
  have hS : St _ _ _ _ [[⟨b_p_c, [s1.v, (.int .i64 t_3.2.at_), (.int .u64 t_3.2.seed.v)], 69⟩]] := hS2.leaveF hR2
  have h4 : Rd m s1 t_3.2.code := by rw [hk4]; exact h1
  refine q_x (v := (.int .i64 t_3.1)) hF hS (ex_assign rfl) rfl rfl fun a hF => ?_
  refine q_end (n_sq ?_)
  refine q_block ?_
  obtain ⟨o1, hl1, hr⟩ := bindS hr
  refine q_loop (fun (s : (List Int) × Int × spec_l1Cur) a w => ∃ (q6 : Piece), ∃ (s6 : Sl), ∃ out_5, ∃ k_7, ∃ p_c_8, s = (out_5, k_7, p_c_8) ∧ Fr a 47 [(0, (.pointer (some ⟨b_p_c, 0, none⟩))), (3, s6.v), (4, (.int .i64 k_7))] ∧ St X w0 w m [q6, [⟨b_p_c, [s1.v, (.int .i64 p_c_8.at_), (.int .u64 p_c_8.seed.v)], 69⟩]] ∧ OwnL m 3 q6 s6 out_5 ∧ Rd m s1 p_c_8.code ∧ p_c_8.code = p_c.code) (fun (o : (List Int) × spec_l1Cur) e a w => ∃ (q17 : Piece), ∃ (s17 : Sl), ∃ out_16, ∃ p_c_18, o = (out_16, p_c_18) ∧ e = .exit 0 ∧ Fr a 47 [(0, (.pointer (some ⟨b_p_c, 0, none⟩))), (3, s17.v)] ∧ St X w0 w m [q17, [⟨b_p_c, [s1.v, (.int .i64 p_c_18.at_), (.int .u64 p_c_18.seed.v)], 69⟩]] ∧ OwnL m 3 q17 s17 out_16 ∧ Rd m s1 p_c_18.code ∧ p_c_18.code = p_c.code) hl1 ⟨[], nilS, _, _, _, rfl, hF.sub ⟨rfl, rfl, rfl, trivial⟩, hS.sel [1, 0] (by decide), (OwnL.nil (α := Int) m 3), h4, hk4⟩ ?_ ?_
  · clear hF hS
    rintro s a w st ⟨q6, s6, out_5, k_7, p_c_8, rfl, hF, hS, h6, h9, h9k⟩ hb1
    unfold spec_l1Cur_sizes_l1 at hb1
    refine q_seq ?_
    refine q_seq ?_
    refine q_region ?_
    refine q_x (v := (.int .i64 k_7)) hF hS (ex_move rfl) rfl rfl fun a hF => ?_
    refine q_x (v := (.bool (decide (0 < k_7)))) hF hS (ex_ibin rfl rfl rfl) rfl rfl fun a hF => ?_
    refine q_end (n_sq ?_)
    rcases bcase (decide (0 < k_7)) with hc2 | hc2
    · have hb1 := cond_f hc2 hb1
      refine q_cond_f hF rfl hc2 ?_
      refine q_exit (x_sq ?_)
      obtain rfl := someI hb1
      exact ⟨nofun, .inl ⟨q6, s6, _, _, rfl, rfl, hF.sub ⟨rfl, rfl, trivial⟩, hS, h6, h9, h9k⟩⟩
    · have hb1 := cond_t hc2 hb1
      refine q_cond_t hF rfl hc2 ?_
      refine q_skipc (n_sq ?_)
      refine q_seq ?_
      refine q_block ?_
      refine q_region ?_
      refine q_x (v := s6.v) hF hS (ex_move rfl) rfl rfl fun a hF => ?_
      refine q_x (v := (.pointer (some ⟨b_p_c, 0, none⟩))) hF hS (ex_move rfl) rfl rfl fun a hF => ?_
      have hS : St _ _ _ _ [[⟨b_p_c, [s1.v, (.int .i64 p_c_8.at_), (.int .u64 p_c_8.seed.v)], 69⟩], q6] := hS.sel [1, 0] (by decide)
      have hS10 : St _ _ _ _ ([[⟨b_p_c, [s1.v, (.int .i64 p_c_8.at_), (.int .u64 p_c_8.seed.v)], 69⟩]] ++ [q6]) := hS
      have hE10 := hS10.enter
      obtain ⟨t_11, ht_11, hb1⟩ := bindS hb1
      refine q_do rfl fun _ hK => wp_callX (vs := [(.pointer (some ⟨b_p_c, 0, none⟩)), (.int .i64 4)]) hF Try.func41 (by kernel_rfl) rfl rfl rfl (c_spec_l1Cur_pick p_c_8 4 t_11 ht_11 _ m b_p_c s1 h9 _ hE10) fun a w _ hR hF => hK _ _ ?_
      obtain ⟨rfl, hR10, hk12⟩ := hR
      have hS : St _ _ _ _ [[⟨b_p_c, [s1.v, (.int .i64 t_11.2.at_), (.int .u64 t_11.2.seed.v)], 69⟩], q6] := hS10.leaveF hR10
      have h12 : Rd m s1 t_11.2.code := by rw [hk12]; exact h9
      refine q_x (v := (.int .i64 (w64 (1 + t_11.1)))) hF hS (ex_ibin rfl rfl rfl) rfl rfl fun a hF => ?_
      refine q_do rfl fun _ hK => wp_buildSlice' (l := ([(w64 (1 + t_11.1))] : List Int)) (cells := [(.int .i64 (w64 (1 + t_11.1)))]) hF hS Try.underlying33 inf3 rfl rfl (by kernel_rfl) rfl rfl rfl ⟨rfl, rfl⟩ rfl rfl fun a w q13 s13 hF hS h13 _ => hK _ _ ?_
      have hS : St _ _ _ _ [q6, q13, [⟨b_p_c, [s1.v, (.int .i64 t_11.2.at_), (.int .u64 t_11.2.seed.v)], 69⟩]] := hS.sel [2, 0, 1] (by decide)
      obtain ⟨l_14, hl_14, hb1⟩ := bindS hb1
      refine q_do rfl fun _ hK => wp_append hF hS h6 Try.underlying33 inf3 rfl rfl rfl rfl (h13.vw hS (j := 1) rfl) rfl (by decide) hl_14 rfl fun a w q15 s15 hF hS h15 => hK _ _ ?_
      refine q_x (v := s15.v) hF hS (ex_assign rfl) rfl rfl fun a hF => ?_
      refine q_end (n_ib (n_sq ?_))
      refine q_region ?_
      refine q_x (v := (.int .i64 k_7)) hF hS (ex_move rfl) rfl rfl fun a hF => ?_
      refine q_x (v := (.int .i64 (w64 (k_7 - 1)))) hF hS (ex_ibin rfl rfl rfl) rfl rfl fun a hF => ?_
      refine q_x (v := (.int .i64 (w64 (k_7 - 1)))) hF hS (ex_assign rfl) rfl rfl fun a hF => ?_
      refine q_end ?_
      obtain rfl := someI hb1
      exact ⟨rfl, q15, s15, _, _, _, rfl, hF.sub ⟨rfl, rfl, rfl, trivial⟩, hS.mask [true, false, true], h15, h12, (hk12.trans h9k)⟩
  · rintro e a w ⟨q17, s17, out_16, p_c_18, rfl, rfl, hF, hS, h17, h19, h19k⟩
    refine x_ib (n_sq ?_)
    refine q_seq ?_
    refine q_seq ?_
    refine q_region ?_
    refine q_x (v := (.pointer (some ⟨b_p_c, 0, none⟩))) hF hS (ex_move rfl) rfl rfl fun a hF => ?_
    have hS : St _ _ _ _ [[⟨b_p_c, [s1.v, (.int .i64 p_c_18.at_), (.int .u64 p_c_18.seed.v)], 69⟩], q17] := hS.sel [1, 0] (by decide)
    have hS20 : St _ _ _ _ ([[⟨b_p_c, [s1.v, (.int .i64 p_c_18.at_), (.int .u64 p_c_18.seed.v)], 69⟩]] ++ [q17]) := hS
    have hE20 := hS20.enter
    obtain ⟨t_21, ht_21, hr⟩ := bindS hr
    refine q_do rfl fun _ hK => wp_callX (vs := [(.pointer (some ⟨b_p_c, 0, none⟩)), (.int .i64 24)]) hF Try.func41 (by kernel_rfl) rfl rfl rfl (c_spec_l1Cur_pick p_c_18 24 t_21 ht_21 _ m b_p_c s1 h19 _ hE20) fun a w _ hR hF => hK _ _ ?_
    obtain ⟨rfl, hR20, hk22⟩ := hR
    have hS : St _ _ _ _ [[⟨b_p_c, [s1.v, (.int .i64 t_21.2.at_), (.int .u64 t_21.2.seed.v)], 69⟩], q17] := hS20.leaveF hR20
    have h22 : Rd m s1 t_21.2.code := by rw [hk22]; exact h19
    refine q_end (n_sq ?_)
    refine q_block ?_
    refine q_seq ?_
    refine q_region ?_
    refine q_x (v := (.bool (t_21.1 == 0))) hF hS (ex_ibin rfl rfl rfl) rfl rfl fun a hF => ?_
    refine q_x (v := (.bool (t_21.1 == 0))) hF hS (ex_assign rfl) rfl rfl fun a hF => ?_
    refine q_end (n_sq ?_)
    obtain ⟨j3, hj3, hr⟩ := bindS hr
    refine q_join (fun a w => ∃ (q51 : Piece), ∃ (s51 : Sl), ∃ out_50, ∃ p_c_52, j3 = .inl (out_50, p_c_52) ∧ Fr a 47 [(3, s51.v)] ∧ St X w0 w m [q51, [⟨b_p_c, [s1.v, (.int .i64 p_c_52.at_), (.int .u64 p_c_52.seed.v)], 69⟩]] ∧ OwnL m 3 q51 s51 out_50 ∧ Rd m s1 p_c_52.code ∧ p_c_52.code = p_c.code) ?_ ?_
    · rcases bcase (t_21.1 == 0) with hc4 | hc4
      · have hj3 := cond_f hc4 hj3
        refine q_cond_f hF rfl hc4 ?_
        refine q_seq ?_
        refine q_region ?_
        refine q_x (v := (.bool (t_21.1 == 1))) hF hS (ex_ibin rfl rfl rfl) rfl rfl fun a hF => ?_
        refine q_x (v := (.bool (t_21.1 == 1))) hF hS (ex_assign rfl) rfl rfl fun a hF => ?_
        refine q_end (n_sq ?_)
        rcases bcase (t_21.1 == 1) with hc5 | hc5
        · have hj3 := cond_f hc5 hj3
          refine q_cond_f hF rfl hc5 ?_
          refine q_seq ?_
          refine q_region ?_
          refine q_x (v := (.bool (t_21.1 == 2))) hF hS (ex_ibin rfl rfl rfl) rfl rfl fun a hF => ?_
          refine q_x (v := (.bool (t_21.1 == 2))) hF hS (ex_assign rfl) rfl rfl fun a hF => ?_
          refine q_end (n_sq ?_)
          rcases bcase (t_21.1 == 2) with hc6 | hc6
          · have hj3 := cond_f hc6 hj3
            refine q_cond_f hF rfl hc6 ?_
            refine q_seq ?_
            refine q_region ?_
            refine q_x (v := (.bool (t_21.1 == 3))) hF hS (ex_ibin rfl rfl rfl) rfl rfl fun a hF => ?_
            refine q_x (v := (.bool (t_21.1 == 3))) hF hS (ex_assign rfl) rfl rfl fun a hF => ?_
            refine q_end (n_sq ?_)
            rcases bcase (t_21.1 == 3) with hc7 | hc7
            · have hj3 := cond_f hc7 hj3
              refine q_cond_f hF rfl hc7 ?_
              refine q_skipc (n_jn ?_)
              obtain rfl := someI hj3
              exact ⟨q17, s17, _, _, rfl, hF.sub ⟨rfl, trivial⟩, hS.sel [1, 0] (by decide), h17, h22, (hk22.trans h19k)⟩
            · have hj3 := cond_t hc7 hj3
              refine q_cond_t hF rfl hc7 ?_
              refine q_seq ?_
              refine q_region ?_
              refine q_do rfl fun _ hK => wp_buildSlice' (l := ([24, 19, 3] : List Int)) (cells := [(.int .i64 24), (.int .i64 19), (.int .i64 3)]) hF hS Try.underlying33 inf3 rfl rfl (by kernel_rfl) rfl rfl rfl ⟨rfl, rfl, rfl, rfl⟩ rfl rfl fun a w q23 s23 hF hS h23 _ => hK _ _ ?_
              refine q_do rfl fun _ hK => wp_buildSlice' (l := ([2, 22, 28] : List Int)) (cells := [(.int .i64 2), (.int .i64 22), (.int .i64 28)]) hF hS Try.underlying33 inf3 rfl rfl (by kernel_rfl) rfl rfl rfl ⟨rfl, rfl, rfl, rfl⟩ rfl rfl fun a w q24 s24 hF hS h24 _ => hK _ _ ?_
              have hS : St _ _ _ _ [q23, q24, [⟨b_p_c, [s1.v, (.int .i64 t_21.2.at_), (.int .u64 t_21.2.seed.v)], 69⟩], q17] := hS.sel [1, 0, 2, 3] (by decide)
              obtain ⟨m26, hm26, hS, hz26⟩ := hS.freeze
              have h26 := h23.froz hm26.le hz26
              obtain ⟨m27, hm27, hS, hz27⟩ := hS.freeze
              have h27 := (h24.mono hm26.le).froz hm27.le hz27
              refine q_do rfl fun _ hK => wp_buildSlice' (l := ([([24, 19, 3] : List Int), ([2, 22, 28] : List Int)] : List (List Int))) (cells := [s23.v, s24.v]) hF hS Try.underlying23 inf33 rfl rfl (by kernel_rfl) rfl rfl rfl ⟨⟨s23, rfl, (h26.mono hm27.le)⟩, ⟨s24, rfl, h27⟩, rfl⟩ rfl rfl fun a w q25 s25 hF hS h25 _ => hK _ _ ?_
              refine q_x (v := (.pointer (some ⟨b_p_c, 0, none⟩))) hF hS (ex_move rfl) rfl rfl fun a hF => ?_
              have hS : St _ _ _ _ [[⟨b_p_c, [s1.v, (.int .i64 t_21.2.at_), (.int .u64 t_21.2.seed.v)], 69⟩], q25, q17] := hS.sel [1, 0, 2] (by decide)
              have hS28 : St _ _ _ _ ([[⟨b_p_c, [s1.v, (.int .i64 t_21.2.at_), (.int .u64 t_21.2.seed.v)], 69⟩]] ++ [q25, q17]) := hS
              have hE28 := hS28.enter
              obtain ⟨t_29, ht_29, hj3⟩ := bindS hj3
              refine q_do rfl fun _ hK => wp_callX (vs := [(.pointer (some ⟨b_p_c, 0, none⟩)), (.int .i64 2)]) hF Try.func41 (by kernel_rfl) rfl rfl rfl (c_spec_l1Cur_pick t_21.2 2 t_29 ht_29 _ m27 b_p_c s1 ((h22.mono hm26.le).mono hm27.le) _ hE28) fun a w _ hR hF => hK _ _ ?_
              obtain ⟨rfl, hR28, hk30⟩ := hR
              have hS : St _ _ _ _ [[⟨b_p_c, [s1.v, (.int .i64 t_29.2.at_), (.int .u64 t_29.2.seed.v)], 69⟩], q25, q17] := hS28.leaveF hR28
              have h30 : Rd m27 s1 t_29.2.code := by rw [hk30]; exact ((h22.mono hm26.le).mono hm27.le)
              obtain ⟨e_31, he_31, hj3⟩ := bindS hj3
              obtain ⟨vs32, at32, d32⟩ := h25.at he_31 1 rfl
              obtain ⟨s33, rfl, h33⟩ : ∃ s33 : Sl, vs32 = [s33.v] ∧ Rd m27 s33 e_31 := d32
              refine q_x (v := (elP s25 (t_29.1.toNat * 1))) hF hS (ex_indexAddr Try.underlying23 sz33 rfl rfl (h25.idx he_31)) rfl rfl fun a hF => ?_
              refine q_x (v := s33.v) hF hS (ex_loadE1 0 Try.underlying33 rfl rfl (at32.at 1 rfl) rfl rfl) rfl rfl fun a hF => ?_
              refine q_x (v := s33.v) hF hS (ex_assign rfl) rfl rfl fun a hF => ?_
              refine q_end (n_sq (q_ret (r_jn ?_)))
              obtain rfl := someI hj3
              refine r_ib (r_sq ?_)
              obtain rfl := someI hr
              exact ret_ofX hF hS rfl (.tmp rfl .nil) ⟨m27, s33, rfl, (hm26.trans hm27), hS.sel [0] (by decide), h33, (hk30.trans (hk22.trans h19k))⟩
          · have hj3 := cond_t hc6 hj3
            refine q_cond_t hF rfl hc6 ?_
            refine q_seq ?_
            refine q_region ?_
            refine q_do rfl fun _ hK => wp_buildSlice' (l := ([11, 12, 13] : List Int)) (cells := [(.int .i64 11), (.int .i64 12), (.int .i64 13)]) hF hS Try.underlying33 inf3 rfl rfl (by kernel_rfl) rfl rfl rfl ⟨rfl, rfl, rfl, rfl⟩ rfl rfl fun a w q34 s34 hF hS h34 _ => hK _ _ ?_
            refine q_x (v := s34.v) hF hS (ex_assign rfl) rfl rfl fun a hF => ?_
            refine q_end (n_sq (q_ret (r_jn ?_)))
            obtain rfl := someI hj3
            refine r_ib (r_sq ?_)
            obtain rfl := someI hr
            obtain ⟨m35, hm35, hS, hz35⟩ := hS.freeze
            have h35 := h34.froz hm35.le hz35
            exact ret_ofX hF hS rfl (.tmp rfl .nil) ⟨m35, s34, rfl, hm35, hS.sel [0] (by decide), h35, (hk22.trans h19k)⟩
        · have hj3 := cond_t hc5 hj3
          refine q_cond_t hF rfl hc5 ?_
          refine q_seq ?_
          refine q_region ?_
          refine q_do rfl fun _ hK => wp_buildSlice' (l := ([2, 2, 2, 2, 2] : List Int)) (cells := [(.int .i64 2), (.int .i64 2), (.int .i64 2), (.int .i64 2), (.int .i64 2)]) hF hS Try.underlying33 inf3 rfl rfl (by kernel_rfl) rfl rfl rfl ⟨rfl, rfl, rfl, rfl, rfl, rfl⟩ rfl rfl fun a w q36 s36 hF hS h36 _ => hK _ _ ?_
          refine q_x (v := (.pointer (some ⟨b_p_c, 0, none⟩))) hF hS (ex_move rfl) rfl rfl fun a hF => ?_
          have hS : St _ _ _ _ [[⟨b_p_c, [s1.v, (.int .i64 t_21.2.at_), (.int .u64 t_21.2.seed.v)], 69⟩], q36, q17] := hS.sel [1, 0, 2] (by decide)
          have hS37 : St _ _ _ _ ([[⟨b_p_c, [s1.v, (.int .i64 t_21.2.at_), (.int .u64 t_21.2.seed.v)], 69⟩]] ++ [q36, q17]) := hS
          have hE37 := hS37.enter
          obtain ⟨t_38, ht_38, hj3⟩ := bindS hj3
          refine q_do rfl fun _ hK => wp_callX (vs := [(.pointer (some ⟨b_p_c, 0, none⟩)), (.int .i64 3)]) hF Try.func41 (by kernel_rfl) rfl rfl rfl (c_spec_l1Cur_pick t_21.2 3 t_38 ht_38 _ m b_p_c s1 h22 _ hE37) fun a w _ hR hF => hK _ _ ?_
          obtain ⟨rfl, hR37, hk39⟩ := hR
          have hS : St _ _ _ _ [[⟨b_p_c, [s1.v, (.int .i64 t_38.2.at_), (.int .u64 t_38.2.seed.v)], 69⟩], q36, q17] := hS37.leaveF hR37
          have h39 : Rd m s1 t_38.2.code := by rw [hk39]; exact h22
          refine q_x (v := (.int .i64 (w64 (3 + t_38.1)))) hF hS (ex_ibin rfl rfl rfl) rfl rfl fun a hF => ?_
          obtain ⟨l_40, hl_40, hj3⟩ := bindS hj3
          have h41 : OwnL m 3 q36 (subS s36 1 (0 : Int).toNat (w64 (3 + t_38.1)).toNat s36.cap) l_40 := h36.sub0 hl_40
          refine q_x (v := (subS s36 1 (0 : Int).toNat (w64 (3 + t_38.1)).toNat s36.cap).v) hF hS (ex_slice Try.underlying33 sz3 rfl rfl rfl (.inl ⟨rfl, rfl⟩) (.inr ⟨_, rfl⟩) (h36.subok hl_40)) rfl rfl fun a hF => ?_
          refine q_x (v := (subS s36 1 (0 : Int).toNat (w64 (3 + t_38.1)).toNat s36.cap).v) hF hS (ex_assign rfl) rfl rfl fun a hF => ?_
          refine q_end (n_sq (q_ret (r_jn ?_)))
          obtain rfl := someI hj3
          refine r_ib (r_sq ?_)
          obtain rfl := someI hr
          have hS : St _ _ _ _ [q36, [⟨b_p_c, [s1.v, (.int .i64 t_38.2.at_), (.int .u64 t_38.2.seed.v)], 69⟩], q17] := hS.sel [1, 0, 2] (by decide)
          obtain ⟨m42, hm42, hS, hz42⟩ := hS.freeze
          have h42 := h41.froz hm42.le hz42
          have h42_1 := (h36.froz hm42.le (hz42))
          exact ret_ofX hF hS rfl (.tmp rfl .nil) ⟨m42, (subS s36 1 (0 : Int).toNat (w64 (3 + t_38.1)).toNat s36.cap), rfl, hm42, hS.sel [0] (by decide), h42, (hk39.trans (hk22.trans h19k))⟩
      · have hj3 := cond_t hc4 hj3
        refine q_cond_t hF rfl hc4 ?_
        refine q_region ?_
        refine q_x (v := s17.v) hF hS (ex_move rfl) rfl rfl fun a hF => ?_
        refine q_x (v := (.pointer (some ⟨b_p_c, 0, none⟩))) hF hS (ex_move rfl) rfl rfl fun a hF => ?_
        refine q_do rfl fun _ hK => wp_buildSlice' (l := ([0, 30, 31] : List Int)) (cells := [(.int .i64 0), (.int .i64 30), (.int .i64 31)]) hF hS Try.underlying33 inf3 rfl rfl (by kernel_rfl) rfl rfl rfl ⟨rfl, rfl, rfl, rfl⟩ rfl rfl fun a w q43 s43 hF hS h43 _ => hK _ _ ?_
        have hS : St _ _ _ _ [[⟨b_p_c, [s1.v, (.int .i64 t_21.2.at_), (.int .u64 t_21.2.seed.v)], 69⟩], q43, q17] := hS.sel [1, 0, 2] (by decide)
        have hS44 : St _ _ _ _ ([[⟨b_p_c, [s1.v, (.int .i64 t_21.2.at_), (.int .u64 t_21.2.seed.v)], 69⟩]] ++ [q43, q17]) := hS
        obtain ⟨m44, hl44, hE44, hz44⟩ := hS44.lendX
        obtain ⟨t_45, ht_45, hj3⟩ := bindS hj3
        refine q_do rfl fun _ hK => wp_callX (vs := [(.pointer (some ⟨b_p_c, 0, none⟩)), s43.v]) hF Try.func40 (by kernel_rfl) rfl rfl rfl (c_spec_l1Cur_among t_21.2 ([0, 30, 31] : List Int) t_45 ht_45 _ m44 b_p_c s1 (h22.mono hl44) s43 (h43.froz hl44 (hz44 0 _ rfl)) _ hE44) fun a w _ hR hF => hK _ _ ?_
        obtain ⟨rfl, hR44, hk46⟩ := hR
        have hS : St _ _ _ _ [[⟨b_p_c, [s1.v, (.int .i64 t_45.2.at_), (.int .u64 t_45.2.seed.v)], 69⟩], q43, q17] := hS44.leaveF hR44
        have h46 : Rd m s1 t_45.2.code := by rw [hk46]; exact h22
        refine q_do rfl fun _ hK => wp_buildSlice' (l := ([t_45.1] : List Int)) (cells := [(.int .i64 t_45.1)]) hF hS Try.underlying33 inf3 rfl rfl (by kernel_rfl) rfl rfl rfl ⟨rfl, rfl⟩ rfl rfl fun a w q47 s47 hF hS h47 _ => hK _ _ ?_
        have hS : St _ _ _ _ [q17, q47, [⟨b_p_c, [s1.v, (.int .i64 t_45.2.at_), (.int .u64 t_45.2.seed.v)], 69⟩], q43] := hS.sel [3, 0, 1, 2] (by decide)
        obtain ⟨l_48, hl_48, hj3⟩ := bindS hj3
        refine q_do rfl fun _ hK => wp_append hF hS h17 Try.underlying33 inf3 rfl rfl rfl rfl (h47.vw hS (j := 1) rfl) rfl (by decide) hl_48 rfl fun a w q49 s49 hF hS h49 => hK _ _ ?_
        refine q_x (v := s49.v) hF hS (ex_assign rfl) rfl rfl fun a hF => ?_
        refine q_end (n_jn ?_)
        obtain rfl := someI hj3
        exact ⟨q49, s49, _, _, rfl, hF.sub ⟨rfl, trivial⟩, hS.mask [true, false, true, false], h49, h46, (hk46.trans (hk22.trans h19k))⟩
    · rintro a w ⟨q51, s51, out_50, p_c_52, rfl, hF, hS, h51, h53, h53k⟩
      refine n_ib (n_sq ?_)
      refine q_seq ?_
      refine q_region ?_
      refine q_x (v := s51.v) hF hS (ex_move rfl) rfl rfl fun a hF => ?_
      refine q_x (v := s51.v) hF hS (ex_assign rfl) rfl rfl fun a hF => ?_
      refine q_end (n_sq (q_ret ?_))
      obtain rfl := someI hr
      obtain ⟨m54, hm54, hS, hz54⟩ := hS.freeze
      have h54 := h51.froz hm54.le hz54
      exact ret_ofX hF hS rfl (.tmp rfl .nil) ⟨m54, s51, rfl, hm54, hS.sel [0] (by decide), h54, h53k⟩

theorem c_spec_l1In (p_n : Int) (p_lo : Int) (p_hi : Int) (r : Bool) (hr : spec_l1In p_n p_lo p_hi = some r) (w0 : World) (m : Mem) (hv : Vis m w0) :
    Ret Try.prog 44 [(.int .i64 p_n), (.int .i64 p_lo), (.int .i64 p_hi)] w0 (fun v _ => v = (.bool r)) := by
  unfold spec_l1In at hr
  refine ret_start Try.func44 rfl 15 rfl rfl m hv fun a hF hS => ?_
  refine q_seq ?_
  refine q_region ?_
  refine q_x (v := (.bool false)) hF hS (ex_assign rfl) rfl rfl fun a hF => ?_
  refine q_end (n_sq ?_)
  refine q_seq ?_
  obtain ⟨t_1, hj1, hr⟩ := bindS hr
  refine q_join (fun a w => Fr a 15 [(6, (.bool t_1))] ∧ St [] w0 w m []) ?_ ?_
  · refine q_region ?_
    refine q_x (v := (.int .i64 p_n)) hF hS (ex_move rfl) rfl rfl fun a hF => ?_
    refine q_x (v := (.int .i64 p_lo)) hF hS (ex_move rfl) rfl rfl fun a hF => ?_
    refine q_x (v := (.bool (decide (p_lo ≤ p_n)))) hF hS (ex_ibin rfl rfl rfl) rfl rfl fun a hF => ?_
    refine q_x (v := (.bool (decide (p_lo ≤ p_n)))) hF hS (ex_move rfl) rfl rfl fun a hF => ?_
    rcases bcase (decide (p_lo ≤ p_n)) with hc2 | hc2
    · have hj1 := cond_f hc2 hj1
      refine q_skip hF (wanted_f hF rfl rfl rfl hc2 rfl) rfl fun a hF => ?_
      refine q_skip hF (wanted_f hF rfl rfl rfl hc2 rfl) rfl fun a hF => ?_
      refine q_skip hF (wanted_f hF rfl rfl rfl hc2 rfl) rfl fun a hF => ?_
      refine q_x (v := (.bool false)) hF hS (ex_pick_f rfl rfl hc2) rfl rfl fun a hF => ?_
      refine q_x (v := (.bool false)) hF hS (ex_assign rfl) rfl rfl fun a hF => ?_
      refine q_end (n_jn ?_)
      obtain rfl := someI hj1
      exact ⟨hF.sub ⟨rfl, trivial⟩, hS⟩
    · have hj1 := cond_t hc2 hj1
      refine q_xg (v := (.int .i64 p_n)) hF hS (ex_move rfl) (wanted_t hF rfl rfl rfl hc2) rfl fun a hF => ?_
      refine q_xg (v := (.int .i64 p_hi)) hF hS (ex_move rfl) (wanted_t hF rfl rfl rfl hc2) rfl fun a hF => ?_
      refine q_xg (v := (.bool (decide (p_n ≤ p_hi)))) hF hS (ex_ibin rfl rfl rfl) (wanted_t hF rfl rfl rfl hc2) rfl fun a hF => ?_
      refine q_x (v := (.bool (decide (p_n ≤ p_hi)))) hF hS (ex_pick_t rfl rfl hc2) rfl rfl fun a hF => ?_
      refine q_x (v := (.bool (decide (p_n ≤ p_hi)))) hF hS (ex_assign rfl) rfl rfl fun a hF => ?_
      refine q_end (n_jn ?_)
      obtain rfl := someI hj1
      exact ⟨hF.sub ⟨rfl, trivial⟩, hS⟩
  · rintro a w ⟨hF, hS⟩
    refine n_sq (q_ret ?_)
    obtain rfl := someI hr
    exact ret_of hF hS rfl (.tmp rfl .nil) rfl

theorem c_spec_l1All (p_l : List Int) (p_lo : Int) (p_hi : Int) (r : Bool) (hr : spec_l1All p_l p_lo p_hi = some r) (w0 : World) (m : Mem) (hv : Vis m w0) (s1 : Sl) (h1 : Rd m s1 p_l) :
    Ret Try.prog 61 [s1.v, (.int .i64 p_lo), (.int .i64 p_hi)] w0 (fun v _ => v = (.bool r)) := by
  unfold spec_l1All at hr
  refine ret_start Try.func61 rfl 21 rfl rfl m hv fun a hF hS => ?_
  refine q_seq ?_
  refine q_region ?_
  refine q_x (v := (.bool false)) hF hS (ex_assign rfl) rfl rfl fun a hF => ?_
  refine q_end (n_sq ?_)
  refine q_seq ?_
  refine q_seq ?_
  refine q_region ?_
  refine q_x (v := s1.v) hF hS (ex_move rfl) rfl rfl fun a hF => ?_
  refine q_x (v := (.int .i64 (goLen p_l))) hF hS (ex_len Try.underlying33 rfl h1.len) rfl rfl fun a hF => ?_
  refine q_x (v := (.int .i64 0)) hF hS (ex_move rfl) rfl rfl fun a hF => ?_
  refine q_end (n_sq ?_)
  refine q_block ?_
  obtain ⟨o1, hl1, hr⟩ := bindS hr
  refine q_loop (fun (t_2 : Int) a w => Fr a 21 [(1, (.int .i64 p_lo)), (2, (.int .i64 p_hi)), (9, s1.v), (10, (.int .i64 (goLen p_l))), (11, (.int .i64 t_2))] ∧ St [] w0 w m []) (fun (o : (Unit) ⊕ (Bool)) e a w => o = .inl () ∧ e = .exit 0 ∧ Fr a 21 [] ∧ St [] w0 w m []) hl1 ⟨hF.sub ⟨rfl, rfl, rfl, rfl, rfl, trivial⟩, hS⟩ ?_ ?_
  · clear hF hS
    rintro t_2 a w st ⟨hF, hS⟩ hb1
    unfold spec_l1All_l1 at hb1
    refine q_seq ?_
    refine q_region ?_
    refine q_x (v := (.bool (decide (t_2 < (goLen p_l))))) hF hS (ex_ibin rfl rfl rfl) rfl rfl fun a hF => ?_
    refine q_end (n_sq ?_)
    refine q_seq ?_
    rcases bcase (decide (t_2 < (goLen p_l))) with hc2 | hc2
    · have hb1 := cond_f hc2 hb1
      refine q_cond_f hF rfl hc2 ?_
      refine q_exit (x_sq ?_)
      obtain rfl := someI hb1
      exact ⟨nofun, .inl ⟨rfl, rfl, hF.sub trivial, hS⟩⟩
    · have hb1 := cond_t hc2 hb1
      refine q_cond_t hF rfl hc2 ?_
      refine q_skipc (n_sq ?_)
      refine q_seq ?_
      refine q_block ?_
      refine q_seq ?_
      refine q_region ?_
      obtain ⟨e_3, he_3, hb1⟩ := bindS hb1
      obtain ⟨vs4, at4, d4⟩ := h1.at he_3 1 rfl
      obtain rfl : vs4 = [(.int .i64 e_3)] := d4
      refine q_x (v := (elP s1 (t_2.toNat * 1))) hF hS (ex_indexAddr Try.underlying33 sz3 rfl rfl (h1.idx he_3)) rfl rfl fun a hF => ?_
      refine q_x (v := (.int .i64 e_3)) hF hS (ex_loadE1 0 Try.underlying3 rfl rfl ((at4).at) rfl rfl) rfl rfl fun a hF => ?_
      refine q_x (v := (.int .i64 e_3)) hF hS (ex_assign rfl) rfl rfl fun a hF => ?_
      refine q_end (n_sq ?_)
      refine q_seq ?_
      refine q_region ?_
      refine q_x (v := (.int .i64 e_3)) hF hS (ex_move rfl) rfl rfl fun a hF => ?_
      refine q_x (v := (.int .i64 p_lo)) hF hS (ex_move rfl) rfl rfl fun a hF => ?_
      refine q_x (v := (.int .i64 p_hi)) hF hS (ex_move rfl) rfl rfl fun a hF => ?_
      obtain ⟨t_5, ht_5, hb1⟩ := bindS hb1
      refine q_call (vs := [(.int .i64 e_3), (.int .i64 p_lo), (.int .i64 p_hi)]) hF hS Try.func44 (by kernel_rfl) rfl rfl rfl (c_spec_l1In e_3 p_lo p_hi t_5 ht_5 _ m hS.vis) ?_
      rintro a w _ rfl hF hS
      refine q_x (v := (.bool (!t_5))) hF hS (ex_not rfl) rfl rfl fun a hF => ?_
      refine q_end (n_sq ?_)
      rcases bcase (!t_5) with hc3 | hc3
      · have hb1 := cond_f hc3 hb1
        refine q_cond_f hF rfl hc3 ?_
        refine q_skipc (n_ib (n_sq ?_))
        refine q_region ?_
        refine q_x (v := (.int .i64 (w64 (t_2 + 1)))) hF hS (ex_ibin rfl rfl rfl) rfl rfl fun a hF => ?_
        refine q_x (v := (.int .i64 (w64 (t_2 + 1)))) hF hS (ex_move rfl) rfl rfl fun a hF => ?_
        refine q_end ?_
        obtain rfl := someI hb1
        exact ⟨rfl, hF.sub ⟨rfl, rfl, rfl, rfl, rfl, trivial⟩, hS⟩
      · have hb1 := cond_t hc3 hb1
        refine q_cond_t hF rfl hc3 ?_
        refine q_seq ?_
        refine q_region ?_
        refine q_x (v := (.bool false)) hF hS (ex_assign rfl) rfl rfl fun a hF => ?_
        refine q_end (n_sq (q_ret (r_ib (r_sq ?_))))
        obtain rfl := someI hb1
        refine ⟨nofun, .inr fun ho => ?_⟩
        subst ho
        refine r_ib (r_sq ?_)
        obtain rfl := someI hr
        exact ret_of hF hS rfl (.tmp rfl .nil) rfl
  · rintro e a w ⟨rfl, rfl, hF, hS⟩
    refine x_ib (n_sq ?_)
    refine q_seq ?_
    refine q_region ?_
    refine q_x (v := (.bool true)) hF hS (ex_assign rfl) rfl rfl fun a hF => ?_
    refine q_end (n_sq (q_ret ?_))
    obtain rfl := someI hr
    exact ret_of hF hS rfl (.tmp rfl .nil) rfl

theorem c_spec_cbCount (p_sizes : List Int) (r : Int) (hr : spec_cbCount p_sizes = some r) (w0 : World) (m : Mem) (hv : Vis m w0) (s1 : Sl) (h1 : Rd m s1 p_sizes) :
    Ret Try.prog 59 [s1.v] w0 (fun v _ => v = (.int .i64 r)) := by
  unfold spec_cbCount at hr
  refine ret_start Try.func59 rfl 28 rfl rfl m hv fun a hF hS => ?_
  refine q_seq ?_
  refine q_region ?_
  refine q_x (v := (.int .i64 0)) hF hS (ex_assign rfl) rfl rfl fun a hF => ?_
  refine q_end (n_sq ?_)
  refine q_seq ?_
  refine q_seq ?_
  obtain ⟨t_3, hj1, hr⟩ := bindS hr
  refine q_join (fun a w => Fr a 28 [(0, s1.v), (13, (.bool t_3))] ∧ St [] w0 w m []) ?_ ?_
  · refine q_region ?_
    refine q_x (v := s1.v) hF hS (ex_move rfl) rfl rfl fun a hF => ?_
    refine q_x (v := (.int .i64 (goLen p_sizes))) hF hS (ex_len Try.underlying33 rfl h1.len) rfl rfl fun a hF => ?_
    refine q_x (v := (.bool (decide (4 < (goLen p_sizes))))) hF hS (ex_ibin rfl rfl rfl) rfl rfl fun a hF => ?_
    refine q_x (v := (.bool (decide (4 < (goLen p_sizes))))) hF hS (ex_move rfl) rfl rfl fun a hF => ?_
    rcases bcase (decide (4 < (goLen p_sizes))) with hc2 | hc2
    · have hj1 := cond_f hc2 hj1
      refine q_xg (v := s1.v) hF hS (ex_move rfl) (wanted_t hF rfl rfl rfl hc2) rfl fun a hF => ?_
      obtain ⟨t_2, ht_2, hj1⟩ := bindS hj1
      refine q_callg (vs := [s1.v, (.int .i64 1), (.int .i64 30)]) hF hS (wanted_t hF rfl rfl rfl hc2) Try.func61 (by kernel_rfl) rfl rfl rfl (c_spec_l1All p_sizes 1 30 t_2 ht_2 _ m hS.vis s1 h1) ?_
      rintro a w _ rfl hF hS
      refine q_xg (v := (.bool (!t_2))) hF hS (ex_not rfl) (wanted_t hF rfl rfl rfl hc2) rfl fun a hF => ?_
      refine q_x (v := (.bool (!t_2))) hF hS (ex_pick_f rfl rfl hc2) rfl rfl fun a hF => ?_
      refine q_end (n_jn ?_)
      obtain rfl := someI hj1
      exact ⟨hF.sub ⟨rfl, rfl, trivial⟩, hS⟩
    · have hj1 := cond_t hc2 hj1
      refine q_skip hF (wanted_f hF rfl rfl rfl hc2 rfl) rfl fun a hF => ?_
      refine q_skip hF (wanted_f hF rfl rfl rfl hc2 rfl) rfl fun a hF => ?_
      refine q_skip hF (wanted_f hF rfl rfl rfl hc2 rfl) rfl fun a hF => ?_
      refine q_x (v := (.bool true)) hF hS (ex_pick_t rfl rfl hc2) rfl rfl fun a hF => ?_
      refine q_end (n_jn ?_)
      obtain rfl := someI hj1
      exact ⟨hF.sub ⟨rfl, rfl, trivial⟩, hS⟩
  · rintro a w ⟨hF, hS⟩
    refine n_sq ?_
    rcases bcase (t_3) with hc3 | hc3
    · have hr := cond_f hc3 hr
      refine q_cond_f hF rfl hc3 ?_
      refine q_skipc (n_sq ?_)
      refine q_seq ?_
      refine q_region ?_
      refine q_x (v := (.int .i64 1)) hF hS (ex_assign rfl) rfl rfl fun a hF => ?_
      refine q_end (n_sq ?_)
      refine q_seq ?_
      refine q_seq ?_
      refine q_region ?_
      refine q_x (v := s1.v) hF hS (ex_move rfl) rfl rfl fun a hF => ?_
      refine q_x (v := (.int .i64 (goLen p_sizes))) hF hS (ex_len Try.underlying33 rfl h1.len) rfl rfl fun a hF => ?_
      refine q_x (v := (.int .i64 0)) hF hS (ex_move rfl) rfl rfl fun a hF => ?_
      refine q_end (n_sq ?_)
      refine q_block ?_
      obtain ⟨n_8, hl4, hr⟩ := bindS hr
      refine q_loop (fun (s : Int × Int) a w => ∃ n_4, ∃ t_5, s = (n_4, t_5) ∧ Fr a 28 [(3, (.int .i64 n_4)), (14, s1.v), (15, (.int .i64 (goLen p_sizes))), (16, (.int .i64 t_5))] ∧ St [] w0 w m []) (fun (n_8 : Int) e a w => e = .exit 0 ∧ Fr a 28 [(3, (.int .i64 n_8))] ∧ St [] w0 w m []) hl4 ⟨_, _, rfl, hF.sub ⟨rfl, rfl, rfl, rfl, trivial⟩, hS⟩ ?_ ?_
      · clear hF hS
        rintro s a w st ⟨n_4, t_5, rfl, hF, hS⟩ hb4
        unfold spec_cbCount_l1 at hb4
        refine q_seq ?_
        refine q_region ?_
        refine q_x (v := (.bool (decide (t_5 < (goLen p_sizes))))) hF hS (ex_ibin rfl rfl rfl) rfl rfl fun a hF => ?_
        refine q_end (n_sq ?_)
        refine q_seq ?_
        rcases bcase (decide (t_5 < (goLen p_sizes))) with hc5 | hc5
        · have hb4 := cond_f hc5 hb4
          refine q_cond_f hF rfl hc5 ?_
          refine q_exit (x_sq ?_)
          obtain rfl := someI hb4
          exact ⟨nofun, .inl ⟨rfl, hF.sub ⟨rfl, trivial⟩, hS⟩⟩
        · have hb4 := cond_t hc5 hb4
          refine q_cond_t hF rfl hc5 ?_
          refine q_skipc (n_sq ?_)
          refine q_seq ?_
          refine q_block ?_
          refine q_seq ?_
          refine q_region ?_
          obtain ⟨e_6, he_6, hb4⟩ := bindS hb4
          obtain ⟨vs7, at7, d7⟩ := h1.at he_6 1 rfl
          obtain rfl : vs7 = [(.int .i64 e_6)] := d7
          refine q_x (v := (elP s1 (t_5.toNat * 1))) hF hS (ex_indexAddr Try.underlying33 sz3 rfl rfl (h1.idx he_6)) rfl rfl fun a hF => ?_
          refine q_x (v := (.int .i64 e_6)) hF hS (ex_loadE1 0 Try.underlying3 rfl rfl ((at7).at) rfl rfl) rfl rfl fun a hF => ?_
          refine q_x (v := (.int .i64 e_6)) hF hS (ex_assign rfl) rfl rfl fun a hF => ?_
          refine q_end (n_sq ?_)
          refine q_region ?_
          refine q_x (v := (.int .i64 n_4)) hF hS (ex_move rfl) rfl rfl fun a hF => ?_
          refine q_x (v := (.int .i64 e_6)) hF hS (ex_move rfl) rfl rfl fun a hF => ?_
          refine q_x (v := (.int .i64 (w64 (e_6 + 1)))) hF hS (ex_ibin rfl rfl rfl) rfl rfl fun a hF => ?_
          refine q_x (v := (.int .i64 (w64 (n_4 * (w64 (e_6 + 1)))))) hF hS (ex_ibin rfl rfl rfl) rfl rfl fun a hF => ?_
          refine q_x (v := (.int .i64 (w64 (n_4 * (w64 (e_6 + 1)))))) hF hS (ex_assign rfl) rfl rfl fun a hF => ?_
          refine q_end (n_ib (n_sq ?_))
          refine q_region ?_
          refine q_x (v := (.int .i64 (w64 (t_5 + 1)))) hF hS (ex_ibin rfl rfl rfl) rfl rfl fun a hF => ?_
          refine q_x (v := (.int .i64 (w64 (t_5 + 1)))) hF hS (ex_move rfl) rfl rfl fun a hF => ?_
          refine q_end ?_
          obtain rfl := someI hb4
          exact ⟨rfl, _, _, rfl, hF.sub ⟨rfl, rfl, rfl, rfl, trivial⟩, hS⟩
      · rintro e a w ⟨rfl, hF, hS⟩
        refine x_ib (n_sq ?_)
        refine q_seq ?_
        refine q_seq ?_
        refine q_region ?_
        refine q_x (v := (.int .i64 n_8)) hF hS (ex_move rfl) rfl rfl fun a hF => ?_
        refine q_x (v := (.bool (decide (2000 < n_8)))) hF hS (ex_ibin rfl rfl rfl) rfl rfl fun a hF => ?_
        refine q_end (n_sq ?_)
        rcases bcase (decide (2000 < n_8)) with hc6 | hc6
        · have hr := cond_f hc6 hr
          refine q_cond_f hF rfl hc6 ?_
          refine q_skipc (n_sq ?_)
          refine q_seq ?_
          refine q_region ?_
          refine q_x (v := (.int .i64 n_8)) hF hS (ex_move rfl) rfl rfl fun a hF => ?_
          refine q_x (v := (.int .i64 n_8)) hF hS (ex_assign rfl) rfl rfl fun a hF => ?_
          refine q_end (n_sq (q_ret ?_))
          obtain rfl := someI hr
          exact ret_of hF hS rfl (.tmp rfl .nil) rfl
        · have hr := cond_t hc6 hr
          refine q_cond_t hF rfl hc6 ?_
          refine q_seq ?_
          refine q_region ?_
          refine q_x (v := (.int .i64 0)) hF hS (ex_assign rfl) rfl rfl fun a hF => ?_
          refine q_end (n_sq (q_ret (r_sq ?_)))
          obtain rfl := someI hr
          exact ret_of hF hS rfl (.tmp rfl .nil) rfl
    · have hr := cond_t hc3 hr
      refine q_cond_t hF rfl hc3 ?_
      refine q_seq ?_
      refine q_region ?_
      refine q_x (v := (.int .i64 0)) hF hS (ex_assign rfl) rfl rfl fun a hF => ?_
      refine q_end (n_sq (q_ret (r_sq ?_)))
      obtain rfl := someI hr
      exact ret_of hF hS rfl (.tmp rfl .nil) rfl

theorem c_spec_cbIndices (p_sizes : List Int) (p_i : Int) (r : (List Int)) (hr : spec_cbIndices p_sizes p_i = some r) (w0 : World) (m : Mem) (hv : Vis m w0) (s1 : Sl) (h1 : Rd m s1 p_sizes) :
    Ret Try.prog 82 [s1.v, (.int .i64 p_i)] w0 (fun v w => ∃ (q0' : Piece) (s0' : Sl), v = s0'.v ∧ St [] w0 w m [q0'] ∧ OwnL m 3 q0' s0' r) := by
  unfold spec_cbIndices at hr
  refine ret_start Try.func82 rfl 35 rfl rfl m hv fun a hF hS => ?_
  refine q_seq ?_
  refine q_region ?_
  refine q_x (v := nilS.v) hF hS (ex_assign rfl) rfl rfl fun a hF => ?_
  refine q_end (n_sq ?_)
  refine q_seq ?_
  refine q_region ?_
  refine q_x (v := s1.v) hF hS (ex_move rfl) rfl rfl fun a hF => ?_
  refine q_x (v := (.int .i64 (goLen p_sizes))) hF hS (ex_len Try.underlying33 rfl h1.len) rfl rfl fun a hF => ?_
  obtain ⟨l_2, hl_2, hr⟩ := bindS hr
  refine q_do rfl fun _ hK => wp_make (z := (0 : Int)) hF hS Try.underlying33 inf3 rfl rfl rfl rfl rfl (by decide) hl_2 rfl fun a w q3 s3 hF hS h3 _ => hK _ _ ?_
  refine q_x (v := s3.v) hF hS (ex_assign rfl) rfl rfl fun a hF => ?_
  refine q_end (n_sq ?_)
  refine q_seq ?_
  refine q_seq ?_
  refine q_region ?_
  refine q_x (v := s1.v) hF hS (ex_move rfl) rfl rfl fun a hF => ?_
  refine q_x (v := (.int .i64 (goLen p_sizes))) hF hS (ex_len Try.underlying33 rfl h1.len) rfl rfl fun a hF => ?_
  refine q_x (v := (.int .i64 (w64 ((goLen p_sizes) - 1)))) hF hS (ex_ibin rfl rfl rfl) rfl rfl fun a hF => ?_
  refine q_x (v := (.int .i64 (w64 ((goLen p_sizes) - 1)))) hF hS (ex_assign rfl) rfl rfl fun a hF => ?_
  refine q_end (n_sq ?_)
  refine q_block ?_
  obtain ⟨out_17, hl1, hr⟩ := bindS hr
  refine q_loop (fun (s : Int × (List Int) × Int) a w => ∃ (q6 : Piece), ∃ i_4, ∃ out_5, ∃ d_7, s = (i_4, out_5, d_7) ∧ Fr a 35 [(0, s1.v), (1, (.int .i64 i_4)), (5, s3.v), (6, (.int .i64 d_7))] ∧ St [] w0 w m [q6] ∧ OwnL m 3 q6 s3 out_5) (fun (out_17 : (List Int)) e a w => ∃ (q18 : Piece), e = .exit 0 ∧ Fr a 35 [(5, s3.v)] ∧ St [] w0 w m [q18] ∧ OwnL m 3 q18 s3 out_17) hl1 ⟨q3, _, _, _, rfl, hF.sub ⟨rfl, rfl, rfl, rfl, trivial⟩, hS, h3⟩ ?_ ?_
  · clear hF hS
    rintro s a w st ⟨q6, i_4, out_5, d_7, rfl, hF, hS, h6⟩ hb1
    unfold spec_cbIndices_l1 at hb1
    refine q_seq ?_
    refine q_seq ?_
    refine q_region ?_
    refine q_x (v := (.int .i64 d_7)) hF hS (ex_move rfl) rfl rfl fun a hF => ?_
    refine q_x (v := (.bool (decide (0 ≤ d_7)))) hF hS (ex_ibin rfl rfl rfl) rfl rfl fun a hF => ?_
    refine q_end (n_sq ?_)
    rcases bcase (decide (0 ≤ d_7)) with hc2 | hc2
    · have hb1 := cond_f hc2 hb1
      refine q_cond_f hF rfl hc2 ?_
      refine q_exit (x_sq ?_)
      obtain rfl := someI hb1
      exact ⟨nofun, .inl ⟨q6, rfl, hF.sub ⟨rfl, trivial⟩, hS, h6⟩⟩
    · have hb1 := cond_t hc2 hb1
      refine q_cond_t hF rfl hc2 ?_
      refine q_skipc (n_sq ?_)
      refine q_seq ?_
      refine q_block ?_
      refine q_seq ?_
      refine q_region ?_
      refine q_x (v := s3.v) hF hS (ex_move rfl) rfl rfl fun a hF => ?_
      refine q_x (v := (.int .i64 d_7)) hF hS (ex_move rfl) rfl rfl fun a hF => ?_
      refine q_x (v := (.int .i64 i_4)) hF hS (ex_move rfl) rfl rfl fun a hF => ?_
      refine q_x (v := s1.v) hF hS (ex_move rfl) rfl rfl fun a hF => ?_
      refine q_x (v := (.int .i64 d_7)) hF hS (ex_move rfl) rfl rfl fun a hF => ?_
      obtain ⟨e_8, he_8, hb1⟩ := bindS hb1
      obtain ⟨vs9, at9, d9⟩ := h1.at he_8 1 rfl
      obtain rfl : vs9 = [(.int .i64 e_8)] := d9
      refine q_x (v := (elP s1 (d_7.toNat * 1))) hF hS (ex_indexAddr Try.underlying33 sz3 rfl rfl (h1.idx he_8)) rfl rfl fun a hF => ?_
      refine q_x (v := (.int .i64 e_8)) hF hS (ex_loadE1 0 Try.underlying3 rfl rfl ((at9).at) rfl rfl) rfl rfl fun a hF => ?_
      refine q_x (v := (.int .i64 (w64 (e_8 + 1)))) hF hS (ex_ibin rfl rfl rfl) rfl rfl fun a hF => ?_
      obtain ⟨t_10, ht_10, hb1⟩ := bindS hb1
      refine q_x (v := (.int .i64 t_10)) hF hS (ex_rem rfl rfl ht_10) rfl rfl fun a hF => ?_
      obtain ⟨e_11, he_11, hb1⟩ := bindS hb1
      obtain ⟨vs12, at12, d12⟩ := h6.at he_11 1 rfl
      obtain rfl : vs12 = [(.int .i64 e_11)] := d12
      refine q_x (v := (elP s3 (d_7.toNat * 1))) hF hS (ex_indexAddr Try.underlying33 sz3 rfl rfl (h6.idx he_11)) rfl rfl fun a hF => ?_
      refine q_do rfl fun _ hK => wp_storeE (e' := t_10) (us := [(.int .i64 t_10)]) (vs := [(.int .i64 e_11)]) 0 hF hS h6 sz3 rfl rfl rfl rfl rfl rfl rfl he_11 at12 rfl rfl rfl fun w q13 hS h13 => hK _ _ ?_
      refine q_end (n_sq ?_)
      refine q_region ?_
      refine q_x (v := (.int .i64 i_4)) hF hS (ex_move rfl) rfl rfl fun a hF => ?_
      refine q_x (v := s1.v) hF hS (ex_move rfl) rfl rfl fun a hF => ?_
      refine q_x (v := (.int .i64 d_7)) hF hS (ex_move rfl) rfl rfl fun a hF => ?_
      obtain ⟨e_14, he_14, hb1⟩ := bindS hb1
      obtain ⟨vs15, at15, d15⟩ := h1.at he_14 1 rfl
      obtain rfl : vs15 = [(.int .i64 e_14)] := d15
      refine q_x (v := (elP s1 (d_7.toNat * 1))) hF hS (ex_indexAddr Try.underlying33 sz3 rfl rfl (h1.idx he_14)) rfl rfl fun a hF => ?_
      refine q_x (v := (.int .i64 e_14)) hF hS (ex_loadE1 0 Try.underlying3 rfl rfl ((at15).at) rfl rfl) rfl rfl fun a hF => ?_
      refine q_x (v := (.int .i64 (w64 (e_14 + 1)))) hF hS (ex_ibin rfl rfl rfl) rfl rfl fun a hF => ?_
      obtain ⟨t_16, ht_16, hb1⟩ := bindS hb1
      refine q_x (v := (.int .i64 t_16)) hF hS (ex_quo rfl rfl ht_16) rfl rfl fun a hF => ?_
      refine q_x (v := (.int .i64 t_16)) hF hS (ex_assign rfl) rfl rfl fun a hF => ?_
      refine q_end (n_ib (n_sq ?_))
      refine q_region ?_
      refine q_x (v := (.int .i64 d_7)) hF hS (ex_move rfl) rfl rfl fun a hF => ?_
      refine q_x (v := (.int .i64 (w64 (d_7 - 1)))) hF hS (ex_ibin rfl rfl rfl) rfl rfl fun a hF => ?_
      refine q_x (v := (.int .i64 (w64 (d_7 - 1)))) hF hS (ex_assign rfl) rfl rfl fun a hF => ?_
      refine q_end ?_
      obtain rfl := someI hb1
      exact ⟨rfl, q13, _, _, _, rfl, hF.sub ⟨rfl, rfl, rfl, rfl, trivial⟩, hS, h13⟩
  · rintro e a w ⟨q18, rfl, hF, hS, h18⟩
    refine x_ib (n_sq ?_)
    refine q_seq ?_
    refine q_region ?_
    refine q_x (v := s3.v) hF hS (ex_move rfl) rfl rfl fun a hF => ?_
    refine q_x (v := s3.v) hF hS (ex_assign rfl) rfl rfl fun a hF => ?_
    refine q_end (n_sq (q_ret ?_))
    obtain rfl := someI hr
    exact ret_of hF hS rfl (.tmp rfl .nil) ⟨q18, s3, rfl, hS.sel [0] (by decide), h18⟩

theorem c_spec_cbBase (p_sizes : List Int) (r : (List Int)) (hr : spec_cbBase p_sizes = some r) (w0 : World) (m : Mem) (hv : Vis m w0) (s1 : Sl) (h1 : Rd m s1 p_sizes) :
    Ret Try.prog 60 [s1.v] w0 (fun v w => ∃ (q0' : Piece) (s0' : Sl), v = s0'.v ∧ St [] w0 w m [q0'] ∧ OwnL m 3 q0' s0' r) := by
  unfold spec_cbBase at hr
  refine ret_start Try.func60 rfl 39 rfl rfl m hv fun a hF hS => ?_
  refine q_seq ?_
  refine q_region ?_
  refine q_x (v := nilS.v) hF hS (ex_assign rfl) rfl rfl fun a hF => ?_
  refine q_end (n_sq ?_)
  refine q_seq ?_
  refine q_region ?_
  refine q_x (v := nilS.v) hF hS (ex_assign rfl) rfl rfl fun a hF => ?_
  refine q_end (n_sq ?_)
  refine q_seq ?_
  refine q_seq ?_
  refine q_region ?_
  refine q_x (v := (.int .i64 0)) hF hS (ex_assign rfl) rfl rfl fun a hF => ?_
  refine q_end (n_sq ?_)
  refine q_block ?_
  obtain ⟨out_22, hl1, hr⟩ := bindS hr
  refine q_loop (fun (s : (List Int) × Int) a w => ∃ (q3 : Piece), ∃ (s3 : Sl), ∃ out_2, ∃ i_4, s = (out_2, i_4) ∧ Fr a 39 [(0, s1.v), (3, s3.v), (4, (.int .i64 i_4))] ∧ St [] w0 w m [q3] ∧ OwnL m 3 q3 s3 out_2) (fun (out_22 : (List Int)) e a w => ∃ (q23 : Piece), ∃ (s23 : Sl), e = .exit 0 ∧ Fr a 39 [(3, s23.v)] ∧ St [] w0 w m [q23] ∧ OwnL m 3 q23 s23 out_22) hl1 ⟨[], nilS, _, _, rfl, hF.sub ⟨rfl, rfl, rfl, trivial⟩, hS.sel [0] (by decide), (OwnL.nil (α := Int) m 3)⟩ ?_ ?_
  · clear hF hS
    rintro s a w st ⟨q3, s3, out_2, i_4, rfl, hF, hS, h3⟩ hb1
    unfold spec_cbBase_l1 at hb1
    refine q_seq ?_
    refine q_seq ?_
    refine q_region ?_
    refine q_x (v := (.int .i64 i_4)) hF hS (ex_move rfl) rfl rfl fun a hF => ?_
    refine q_x (v := s1.v) hF hS (ex_move rfl) rfl rfl fun a hF => ?_
    obtain ⟨t_5, ht_5, hb1⟩ := bindS hb1
    refine q_call (vs := [s1.v]) hF hS Try.func59 (by kernel_rfl) rfl rfl rfl (c_spec_cbCount p_sizes t_5 ht_5 _ m hS.vis s1 h1) ?_
    rintro a w _ rfl hF hS
    refine q_x (v := (.bool (decide (i_4 < t_5)))) hF hS (ex_ibin rfl rfl rfl) rfl rfl fun a hF => ?_
    refine q_end (n_sq ?_)
    rcases bcase (decide (i_4 < t_5)) with hc2 | hc2
    · have hb1 := cond_f hc2 hb1
      refine q_cond_f hF rfl hc2 ?_
      refine q_exit (x_sq ?_)
      obtain rfl := someI hb1
      exact ⟨nofun, .inl ⟨q3, s3, rfl, hF.sub ⟨rfl, trivial⟩, hS, h3⟩⟩
    · have hb1 := cond_t hc2 hb1
      refine q_cond_t hF rfl hc2 ?_
      refine q_skipc (n_sq ?_)
      refine q_seq ?_
      refine q_block ?_
      refine q_seq ?_
      refine q_region ?_
      refine q_x (v := (.bool true)) hF hS (ex_assign rfl) rfl rfl fun a hF => ?_
      refine q_end (n_sq ?_)
      refine q_seq ?_
      refine q_seq ?_
      refine q_region ?_
      refine q_x (v := s1.v) hF hS (ex_move rfl) rfl rfl fun a hF => ?_
      refine q_x (v := (.int .i64 i_4)) hF hS (ex_move rfl) rfl rfl fun a hF => ?_
      obtain ⟨t_6, ht_6, hb1⟩ := bindS hb1
      refine q_call (vs := [s1.v, (.int .i64 i_4)]) hF hS Try.func82 (by kernel_rfl) rfl rfl rfl (c_spec_cbIndices p_sizes i_4 t_6 ht_6 _ m hS.vis s1 h1) ?_
      rintro a w _ ⟨q8, s8, rfl, hR7, h8⟩ hF hS2
      have hS : St _ _ _ _ [q8, q3] := hS.joinF hR7
      refine q_x (v := (.int .i64 (goLen t_6))) hF hS (ex_len Try.underlying33 rfl h8.len) rfl rfl fun a hF => ?_
      refine q_x (v := (.int .i64 0)) hF hS (ex_move rfl) rfl rfl fun a hF => ?_
      refine q_end (n_sq ?_)
      refine q_block ?_
      obtain ⟨base_16, hl3, hb1⟩ := bindS hb1
      refine q_loop (fun (s : Bool × Int) a w => ∃ base_9, ∃ t_10, s = (base_9, t_10) ∧ Fr a 39 [(0, s1.v), (3, s3.v), (4, (.int .i64 i_4)), (5, (.bool base_9)), (16, s8.v), (17, (.int .i64 (goLen t_6))), (18, (.int .i64 t_10))] ∧ St [] w0 w m [q8, q3]) (fun (base_16 : Bool) e a w => e = .exit 2 ∧ Fr a 39 [(0, s1.v), (3, s3.v), (4, (.int .i64 i_4)), (5, (.bool base_16))] ∧ St [] w0 w m [q3]) hl3 ⟨_, _, rfl, hF.sub ⟨rfl, rfl, rfl, rfl, rfl, rfl, rfl, trivial⟩, hS⟩ ?_ ?_
      · clear hF hS
        rintro s a w st ⟨base_9, t_10, rfl, hF, hS⟩ hb3
        unfold spec_cbBase_l2 at hb3
        refine q_seq ?_
        refine q_region ?_
        refine q_x (v := (.bool (decide (t_10 < (goLen t_6))))) hF hS (ex_ibin rfl rfl rfl) rfl rfl fun a hF => ?_
        refine q_end (n_sq ?_)
        refine q_seq ?_
        rcases bcase (decide (t_10 < (goLen t_6))) with hc4 | hc4
        · have hb3 := cond_f hc4 hb3
          refine q_cond_f hF rfl hc4 ?_
          refine q_exit (x_sq ?_)
          obtain rfl := someI hb3
          exact ⟨nofun, .inl ⟨rfl, hF.sub ⟨rfl, rfl, rfl, rfl, trivial⟩, hS.mask [false, true]⟩⟩
        · have hb3 := cond_t hc4 hb3
          refine q_cond_t hF rfl hc4 ?_
          refine q_skipc (n_sq ?_)
          refine q_seq ?_
          refine q_block ?_
          refine q_seq ?_
          refine q_region ?_
          refine q_x (v := (.int .i64 t_10)) hF hS (ex_move rfl) rfl rfl fun a hF => ?_
          obtain ⟨e_11, he_11, hb3⟩ := bindS hb3
          obtain ⟨vs12, at12, d12⟩ := h8.at he_11 1 rfl
          obtain rfl : vs12 = [(.int .i64 e_11)] := d12
          refine q_x (v := (elP s8 (t_10.toNat * 1))) hF hS (ex_indexAddr Try.underlying33 sz3 rfl rfl (h8.idx he_11)) rfl rfl fun a hF => ?_
          refine q_x (v := (.int .i64 e_11)) hF hS (ex_loadE1 0 Try.underlying3 rfl rfl (at12.at 0 rfl) rfl rfl) rfl rfl fun a hF => ?_
          refine q_x (v := (.int .i64 t_10)) hF hS (ex_assign rfl) rfl rfl fun a hF => ?_
          refine q_x (v := (.int .i64 e_11)) hF hS (ex_assign rfl) rfl rfl fun a hF => ?_
          refine q_end (n_sq ?_)
          obtain ⟨base_15, hj5, hb3⟩ := bindS hb3
          refine q_join (fun a w => Fr a 39 [(0, s1.v), (3, s3.v), (4, (.int .i64 i_4)), (5, (.bool base_15)), (16, s8.v), (17, (.int .i64 (goLen t_6))), (18, (.int .i64 t_10))] ∧ St [] w0 w m [q3, q8]) ?_ ?_
          · refine q_region ?_
            refine q_x (v := (.bool base_9)) hF hS (ex_move rfl) rfl rfl fun a hF => ?_
            refine q_x (v := (.bool base_9)) hF hS (ex_move rfl) rfl rfl fun a hF => ?_
            rcases bcase (base_9) with hc6 | hc6
            · have hj5 := cond_f hc6 hj5
              refine q_skip hF (wanted_f hF rfl rfl rfl hc6 rfl) rfl fun a hF => ?_
              refine q_skip hF (wanted_f hF rfl rfl rfl hc6 rfl) rfl fun a hF => ?_
              refine q_skip hF (wanted_f hF rfl rfl rfl hc6 rfl) rfl fun a hF => ?_
              refine q_skip hF (wanted_f hF rfl rfl rfl hc6 rfl) rfl fun a hF => ?_
              refine q_skip hF (wanted_f hF rfl rfl rfl hc6 rfl) rfl fun a hF => ?_
              refine q_skip hF (wanted_f hF rfl rfl rfl hc6 rfl) rfl fun a hF => ?_
              refine q_x (v := (.bool false)) hF hS (ex_pick_f rfl rfl hc6) rfl rfl fun a hF => ?_
              refine q_x (v := (.bool false)) hF hS (ex_assign rfl) rfl rfl fun a hF => ?_
              refine q_end (n_jn ?_)
              obtain rfl := someI hj5
              exact ⟨hF.sub ⟨rfl, rfl, rfl, rfl, rfl, rfl, rfl, trivial⟩, hS.sel [1, 0] (by decide)⟩
            · have hj5 := cond_t hc6 hj5
              refine q_xg (v := (.int .i64 e_11)) hF hS (ex_move rfl) (wanted_t hF rfl rfl rfl hc6) rfl fun a hF => ?_
              refine q_xg (v := s1.v) hF hS (ex_move rfl) (wanted_t hF rfl rfl rfl hc6) rfl fun a hF => ?_
              refine q_xg (v := (.int .i64 t_10)) hF hS (ex_move rfl) (wanted_t hF rfl rfl rfl hc6) rfl fun a hF => ?_
              obtain ⟨e_13, he_13, hj5⟩ := bindS hj5
              obtain ⟨vs14, at14, d14⟩ := h1.at he_13 1 rfl
              obtain rfl : vs14 = [(.int .i64 e_13)] := d14
              refine q_xg (v := (elP s1 (t_10.toNat * 1))) hF hS (ex_indexAddr Try.underlying33 sz3 rfl rfl (h1.idx he_13)) (wanted_t hF rfl rfl rfl hc6) rfl fun a hF => ?_
              refine q_xg (v := (.int .i64 e_13)) hF hS (ex_loadE1 0 Try.underlying3 rfl rfl ((at14).at) rfl rfl) (wanted_t hF rfl rfl rfl hc6) rfl fun a hF => ?_
              refine q_xg (v := (.bool (decide (e_11 < e_13)))) hF hS (ex_ibin rfl rfl rfl) (wanted_t hF rfl rfl rfl hc6) rfl fun a hF => ?_
              refine q_x (v := (.bool (decide (e_11 < e_13)))) hF hS (ex_pick_t rfl rfl hc6) rfl rfl fun a hF => ?_
              refine q_x (v := (.bool (decide (e_11 < e_13)))) hF hS (ex_assign rfl) rfl rfl fun a hF => ?_
              refine q_end (n_jn ?_)
              obtain rfl := someI hj5
              exact ⟨hF.sub ⟨rfl, rfl, rfl, rfl, rfl, rfl, rfl, trivial⟩, hS.sel [1, 0] (by decide)⟩
          · rintro a w ⟨hF, hS⟩
            refine n_ib (n_sq ?_)
            refine q_region ?_
            refine q_x (v := (.int .i64 (w64 (t_10 + 1)))) hF hS (ex_ibin rfl rfl rfl) rfl rfl fun a hF => ?_
            refine q_x (v := (.int .i64 (w64 (t_10 + 1)))) hF hS (ex_move rfl) rfl rfl fun a hF => ?_
            refine q_end ?_
            obtain rfl := someI hb3
            exact ⟨rfl, _, _, rfl, hF.sub ⟨rfl, rfl, rfl, rfl, rfl, rfl, rfl, trivial⟩, hS.sel [1, 0] (by decide)⟩
      · rintro e a w ⟨rfl, hF, hS⟩
        refine x_ib (n_sq ?_)
        refine q_seq ?_
        refine q_region ?_
        refine q_x (v := (.bool base_16)) hF hS (ex_move rfl) rfl rfl fun a hF => ?_
        refine q_end (n_sq ?_)
        obtain ⟨out_20, hj7, hb1⟩ := bindS hb1
        refine q_join (fun a w => ∃ (q21 : Piece), ∃ (s21 : Sl), Fr a 39 [(0, s1.v), (3, s21.v), (4, (.int .i64 i_4))] ∧ St [] w0 w m [q21] ∧ OwnL m 3 q21 s21 out_20) ?_ ?_
        · rcases bcase (base_16) with hc8 | hc8
          · have hj7 := cond_f hc8 hj7
            refine q_cond_f hF rfl hc8 ?_
            refine q_skipc (n_jn ?_)
            obtain rfl := someI hj7
            exact ⟨q3, s3, hF.sub ⟨rfl, rfl, rfl, trivial⟩, hS, h3⟩
          · have hj7 := cond_t hc8 hj7
            refine q_cond_t hF rfl hc8 ?_
            refine q_region ?_
            refine q_x (v := s3.v) hF hS (ex_move rfl) rfl rfl fun a hF => ?_
            refine q_x (v := (.int .i64 i_4)) hF hS (ex_move rfl) rfl rfl fun a hF => ?_
            refine q_do rfl fun _ hK => wp_buildSlice' (l := ([i_4] : List Int)) (cells := [(.int .i64 i_4)]) hF hS Try.underlying33 inf3 rfl rfl (by kernel_rfl) rfl rfl rfl ⟨rfl, rfl⟩ rfl rfl fun a w q17 s17 hF hS h17 _ => hK _ _ ?_
            have hS : St _ _ _ _ [q3, q17] := hS.sel [1, 0] (by decide)
            obtain ⟨l_18, hl_18, hj7⟩ := bindS hj7
            refine q_do rfl fun _ hK => wp_append hF hS h3 Try.underlying33 inf3 rfl rfl rfl rfl (h17.vw hS (j := 1) rfl) rfl (by decide) hl_18 rfl fun a w q19 s19 hF hS h19 => hK _ _ ?_
            refine q_x (v := s19.v) hF hS (ex_assign rfl) rfl rfl fun a hF => ?_
            refine q_end (n_jn ?_)
            obtain rfl := someI hj7
            exact ⟨q19, s19, hF.sub ⟨rfl, rfl, rfl, trivial⟩, hS.mask [true, false], h19⟩
        · rintro a w ⟨q21, s21, hF, hS, h21⟩
          refine n_ib (n_sq ?_)
          refine q_region ?_
          refine q_x (v := (.int .i64 i_4)) hF hS (ex_move rfl) rfl rfl fun a hF => ?_
          refine q_x (v := (.int .i64 (w64 (i_4 + 1)))) hF hS (ex_ibin rfl rfl rfl) rfl rfl fun a hF => ?_
          refine q_x (v := (.int .i64 (w64 (i_4 + 1)))) hF hS (ex_assign rfl) rfl rfl fun a hF => ?_
          refine q_end ?_
          obtain rfl := someI hb1
          exact ⟨rfl, q21, s21, _, _, rfl, hF.sub ⟨rfl, rfl, rfl, trivial⟩, hS, h21⟩
  · rintro e a w ⟨q23, s23, rfl, hF, hS, h23⟩
    refine x_ib (n_sq ?_)
    refine q_seq ?_
    refine q_region ?_
    refine q_x (v := s23.v) hF hS (ex_move rfl) rfl rfl fun a hF => ?_
    refine q_x (v := s23.v) hF hS (ex_assign rfl) rfl rfl fun a hF => ?_
    refine q_end (n_sq (q_ret ?_))
    obtain rfl := someI hr
    exact ret_of hF hS rfl (.tmp rfl .nil) ⟨q23, s23, rfl, hS.sel [0] (by decide), h23⟩

theorem c_spec_l1Cur_one (p_c : spec_l1Cur) (p_n : Int) (r : Bool × spec_l1Cur) (hr : spec_l1Cur_one p_c p_n = some r) (w0 : World) (m : Mem) (b_p_c : Nat) (s1 : Sl) (h1 : Rd m s1 p_c.code) (X : List Nat) (hS : St X w0 w0 m [[⟨b_p_c, [s1.v, (.int .i64 p_c.at_), (.int .u64 p_c.seed.v)], 69⟩]]) :
    RetX Try.prog 65 [(.pointer (some ⟨b_p_c, 0, none⟩)), (.int .i64 p_n)] w0 (fun v w => v = (.bool r.1) ∧ St X w0 w m [[⟨b_p_c, [s1.v, (.int .i64 r.2.at_), (.int .u64 r.2.seed.v)], 69⟩]] ∧ r.2.code = p_c.code) := by
  unfold spec_l1Cur_one at hr
  refine ret_startX Try.func65 rfl 9 rfl rfl fun a hF => ?_
  refine q_seq ?_
  refine q_region ?_
  refine q_x (v := (.bool false)) hF hS (ex_assign rfl) rfl rfl fun a hF => ?_
  refine q_end (n_sq ?_)
  refine q_seq ?_
  refine q_region ?_
  refine q_x (v := (.pointer (some ⟨b_p_c, 0, none⟩))) hF hS (ex_move rfl) rfl rfl fun a hF => ?_
  refine q_x (v := (.int .i64 p_n)) hF hS (ex_move rfl) rfl rfl fun a hF => ?_
  have hS2 : St _ _ _ _ ([[⟨b_p_c, [s1.v, (.int .i64 p_c.at_), (.int .u64 p_c.seed.v)], 69⟩]] ++ []) := hS
  have hE2 := hS2.enter
  obtain ⟨t_3, ht_3, hr⟩ := bindS hr
  refine q_do rfl fun _ hK => wp_callX (vs := [(.pointer (some ⟨b_p_c, 0, none⟩)), (.int .i64 p_n)]) hF Try.func41 (by kernel_rfl) rfl rfl rfl (c_spec_l1Cur_pick p_c p_n t_3 ht_3 _ m b_p_c s1 h1 _ hE2) fun a w _ hR hF => hK _ _ ?_
  obtain ⟨rfl, hR2, hk4⟩ := hR
  have hS : St _ _ _ _ [[⟨b_p_c, [s1.v, (.int .i64 t_3.2.at_), (.int .u64 t_3.2.seed.v)], 69⟩]] := hS2.leaveF hR2
  have h4 : Rd m s1 t_3.2.code := by rw [hk4]; exact h1
  refine q_x (v := (.bool (t_3.1 == 0))) hF hS (ex_ibin rfl rfl rfl) rfl rfl fun a hF => ?_
  refine q_x (v := (.bool (t_3.1 == 0))) hF hS (ex_assign rfl) rfl rfl fun a hF => ?_
  refine q_end (n_sq (q_ret ?_))
  obtain rfl := someI hr
  exact ret_ofX hF hS rfl (.tmp rfl .nil) ⟨rfl, hS.sel [0] (by decide), hk4⟩

theorem c_spec_l1Cur_baseCells (p_c : spec_l1Cur) (p_sizes : List Int) (r : (List Int) × spec_l1Cur) (hr : spec_l1Cur_baseCells p_c p_sizes = some r) (w0 : World) (m : Mem) (b_p_c : Nat) (s1 : Sl) (h1 : Rd m s1 p_c.code) (s2 : Sl) (h2 : Rd m s2 p_sizes) (X : List Nat) (hS : St X w0 w0 m [[⟨b_p_c, [s1.v, (.int .i64 p_c.at_), (.int .u64 p_c.seed.v)], 69⟩]]) :
    RetX Try.prog 56 [(.pointer (some ⟨b_p_c, 0, none⟩)), s2.v] w0 (fun v w => ∃ (q0' : Piece) (s0' : Sl), v = s0'.v ∧ St X w0 w m [[⟨b_p_c, [s1.v, (.int .i64 r.2.at_), (.int .u64 r.2.seed.v)], 69⟩], q0'] ∧ OwnL m 3 q0' s0' r.1 ∧ r.2.code = p_c.code) := by
  unfold spec_l1Cur_baseCells at hr
  refine ret_startX Try.func56 rfl 25 rfl rfl fun a hF => ?_
  refine q_seq ?_
  refine q_region ?_
  refine q_x (v := nilS.v) hF hS (ex_assign rfl) rfl rfl fun a hF => ?_
  refine q_end (n_sq ?_)
  refine q_seq ?_
  refine q_region ?_
  refine q_x (v := nilS.v) hF hS (ex_assign rfl) rfl rfl fun a hF => ?_
  refine q_end (n_sq ?_)
  refine q_seq ?_
  refine q_seq ?_
  refine q_region ?_
  refine q_x (v := s2.v) hF hS (ex_move rfl) rfl rfl fun a hF => ?_
  obtain ⟨t_3, ht_3, hr⟩ := bindS hr
  refine q_call (vs := [s2.v]) hF hS Try.func60 (by kernel_rfl) rfl rfl rfl (c_spec_cbBase p_sizes t_3 ht_3 _ m hS.vis s2 h2) ?_
  rintro a w _ ⟨q5, s5, rfl, hR4, h5⟩ hF hS2
  have hS : St _ _ _ _ [q5, [⟨b_p_c, [s1.v, (.int .i64 p_c.at_), (.int .u64 p_c.seed.v)], 69⟩]] := hS.joinF hR4
  refine q_x (v := (.int .i64 (goLen t_3))) hF hS (ex_len Try.underlying33 rfl h5.len) rfl rfl fun a hF => ?_
  refine q_x (v := (.int .i64 0)) hF hS (ex_move rfl) rfl rfl fun a hF => ?_
  refine q_end (n_sq ?_)
  refine q_block ?_
  obtain ⟨o1, hl1, hr⟩ := bindS hr
  refine q_loop (fun (s : (List Int) × Int × spec_l1Cur) a w => ∃ (q7 : Piece), ∃ (s7 : Sl), ∃ out_6, ∃ t_8, ∃ p_c_9, s = (out_6, t_8, p_c_9) ∧ Fr a 25 [(0, (.pointer (some ⟨b_p_c, 0, none⟩))), (5, s7.v), (9, (.int .i64 (goLen t_3))), (10, (.int .i64 t_8))] ∧ St X w0 w m [q7, [⟨b_p_c, [s1.v, (.int .i64 p_c_9.at_), (.int .u64 p_c_9.seed.v)], 69⟩]] ∧ OwnL m 3 q7 s7 out_6 ∧ Rd m s1 p_c_9.code ∧ p_c_9.code = p_c.code) (fun (o : (List Int) × spec_l1Cur) e a w => ∃ (q27 : Piece), ∃ (s27 : Sl), ∃ out_26, ∃ p_c_28, o = (out_26, p_c_28) ∧ e = .exit 0 ∧ Fr a 25 [(5, s27.v)] ∧ St X w0 w m [q27, [⟨b_p_c, [s1.v, (.int .i64 p_c_28.at_), (.int .u64 p_c_28.seed.v)], 69⟩]] ∧ OwnL m 3 q27 s27 out_26 ∧ Rd m s1 p_c_28.code ∧ p_c_28.code = p_c.code) hl1 ⟨[], nilS, _, _, _, rfl, hF.sub ⟨rfl, rfl, rfl, rfl, trivial⟩, hS.sel [2, 1] (by decide), (OwnL.nil (α := Int) m 3), h1, rfl⟩ ?_ ?_
  · clear hF hS
    rintro s a w st ⟨q7, s7, out_6, t_8, p_c_9, rfl, hF, hS, h7, h10, h10k⟩ hb1
    unfold spec_l1Cur_baseCells_l1 at hb1
    refine q_seq ?_
    refine q_region ?_
    refine q_x (v := (.bool (decide (t_8 < (goLen t_3))))) hF hS (ex_ibin rfl rfl rfl) rfl rfl fun a hF => ?_
    refine q_end (n_sq ?_)
    refine q_seq ?_
    rcases bcase (decide (t_8 < (goLen t_3))) with hc2 | hc2
    · have hb1 := cond_f hc2 hb1
      refine q_cond_f hF rfl hc2 ?_
      refine q_exit (x_sq ?_)
      obtain rfl := someI hb1
      exact ⟨nofun, .inl ⟨q7, s7, _, _, rfl, rfl, hF.sub ⟨rfl, trivial⟩, hS, h7, h10, h10k⟩⟩
    · have hb1 := cond_t hc2 hb1
      refine q_cond_t hF rfl hc2 ?_
      refine q_skipc (n_sq ?_)
      refine q_seq ?_
      refine q_block ?_
      refine q_seq ?_
      refine q_region ?_
      refine q_x (v := (.pointer (some ⟨b_p_c, 0, none⟩))) hF hS (ex_move rfl) rfl rfl fun a hF => ?_
      have hS : St _ _ _ _ [[⟨b_p_c, [s1.v, (.int .i64 p_c_9.at_), (.int .u64 p_c_9.seed.v)], 69⟩], q7] := hS.sel [1, 0] (by decide)
      have hS11 : St _ _ _ _ ([[⟨b_p_c, [s1.v, (.int .i64 p_c_9.at_), (.int .u64 p_c_9.seed.v)], 69⟩]] ++ [q7]) := hS
      have hE11 := hS11.enter
      obtain ⟨t_12, ht_12, hb1⟩ := bindS hb1
      refine q_do rfl fun _ hK => wp_callX (vs := [(.pointer (some ⟨b_p_c, 0, none⟩)), (.int .i64 12)]) hF Try.func41 (by kernel_rfl) rfl rfl rfl (c_spec_l1Cur_pick p_c_9 12 t_12 ht_12 _ m b_p_c s1 h10 _ hE11) fun a w _ hR hF => hK _ _ ?_
      obtain ⟨rfl, hR11, hk13⟩ := hR
      have hS : St _ _ _ _ [[⟨b_p_c, [s1.v, (.int .i64 t_12.2.at_), (.int .u64 t_12.2.seed.v)], 69⟩], q7] := hS11.leaveF hR11
      have h13 : Rd m s1 t_12.2.code := by rw [hk13]; exact h10
      refine q_x (v := (.int .i64 t_12.1)) hF hS (ex_assign rfl) rfl rfl fun a hF => ?_
      refine q_end (n_sq ?_)
      refine q_seq ?_
      refine q_seq ?_
      refine q_region ?_
      refine q_x (v := (.pointer (some ⟨b_p_c, 0, none⟩))) hF hS (ex_move rfl) rfl rfl fun a hF => ?_
      have hS14 : St _ _ _ _ ([[⟨b_p_c, [s1.v, (.int .i64 t_12.2.at_), (.int .u64 t_12.2.seed.v)], 69⟩]] ++ [q7]) := hS
      have hE14 := hS14.enter
      obtain ⟨t_15, ht_15, hb1⟩ := bindS hb1
      refine q_do rfl fun _ hK => wp_callX (vs := [(.pointer (some ⟨b_p_c, 0, none⟩)), (.int .i64 6)]) hF Try.func65 (by kernel_rfl) rfl rfl rfl (c_spec_l1Cur_one t_12.2 6 t_15 ht_15 _ m b_p_c s1 h13 _ hE14) fun a w _ hR hF => hK _ _ ?_
      obtain ⟨rfl, hR14, hk16⟩ := hR
      have hS : St _ _ _ _ [[⟨b_p_c, [s1.v, (.int .i64 t_15.2.at_), (.int .u64 t_15.2.seed.v)], 69⟩], q7] := hS14.leaveF hR14
      have h16 : Rd m s1 t_15.2.code := by rw [hk16]; exact h13
      refine q_end (n_sq ?_)
      obtain ⟨j3, hj3, hb1⟩ := bindS hb1
      refine q_join (fun a w => ∃ x_20, ∃ p_c_21, j3 = (x_20, p_c_21) ∧ Fr a 25 [(0, (.pointer (some ⟨b_p_c, 0, none⟩))), (5, s7.v), (6, (.int .i64 x_20)), (9, (.int .i64 (goLen t_3))), (10, (.int .i64 t_8))] ∧ St X w0 w m [q7, [⟨b_p_c, [s1.v, (.int .i64 p_c_21.at_), (.int .u64 p_c_21.seed.v)], 69⟩]] ∧ Rd m s1 p_c_21.code ∧ p_c_21.code = p_c.code) ?_ ?_
      · rcases bcase (t_15.1) with hc4 | hc4
        · have hj3 := cond_f hc4 hj3
          refine q_cond_f hF rfl hc4 ?_
          refine q_skipc (n_jn ?_)
          obtain rfl := someI hj3
          exact ⟨_, _, rfl, hF.sub ⟨rfl, rfl, rfl, rfl, rfl, trivial⟩, hS.sel [1, 0] (by decide), h16, (hk16.trans (hk13.trans h10k))⟩
        · have hj3 := cond_t hc4 hj3
          refine q_cond_t hF rfl hc4 ?_
          refine q_region ?_
          refine q_x (v := (.pointer (some ⟨b_p_c, 0, none⟩))) hF hS (ex_move rfl) rfl rfl fun a hF => ?_
          have hS17 : St _ _ _ _ ([[⟨b_p_c, [s1.v, (.int .i64 t_15.2.at_), (.int .u64 t_15.2.seed.v)], 69⟩]] ++ [q7]) := hS
          have hE17 := hS17.enter
          obtain ⟨t_18, ht_18, hj3⟩ := bindS hj3
          refine q_do rfl fun _ hK => wp_callX (vs := [(.pointer (some ⟨b_p_c, 0, none⟩)), (.int .i64 4)]) hF Try.func41 (by kernel_rfl) rfl rfl rfl (c_spec_l1Cur_pick t_15.2 4 t_18 ht_18 _ m b_p_c s1 h16 _ hE17) fun a w _ hR hF => hK _ _ ?_
          obtain ⟨rfl, hR17, hk19⟩ := hR
          have hS : St _ _ _ _ [[⟨b_p_c, [s1.v, (.int .i64 t_18.2.at_), (.int .u64 t_18.2.seed.v)], 69⟩], q7] := hS17.leaveF hR17
          have h19 : Rd m s1 t_18.2.code := by rw [hk19]; exact h16
          refine q_x (v := (.int .i64 (w64 (-t_18.1)))) hF hS (ex_neg rfl) rfl rfl fun a hF => ?_
          refine q_x (v := (.int .i64 (w64 (-t_18.1)))) hF hS (ex_assign rfl) rfl rfl fun a hF => ?_
          refine q_end (n_jn ?_)
          obtain rfl := someI hj3
          exact ⟨_, _, rfl, hF.sub ⟨rfl, rfl, rfl, rfl, rfl, trivial⟩, hS.sel [1, 0] (by decide), h19, (hk19.trans (hk16.trans (hk13.trans h10k)))⟩
      · rintro a w ⟨x_20, p_c_21, rfl, hF, hS, h22, h22k⟩
        refine n_sq ?_
        refine q_region ?_
        refine q_x (v := s7.v) hF hS (ex_move rfl) rfl rfl fun a hF => ?_
        refine q_x (v := (.int .i64 x_20)) hF hS (ex_move rfl) rfl rfl fun a hF => ?_
        refine q_do rfl fun _ hK => wp_buildSlice' (l := ([x_20] : List Int)) (cells := [(.int .i64 x_20)]) hF hS Try.underlying33 inf3 rfl rfl (by kernel_rfl) rfl rfl rfl ⟨rfl, rfl⟩ rfl rfl fun a w q23 s23 hF hS h23 _ => hK _ _ ?_
        have hS : St _ _ _ _ [q7, q23, [⟨b_p_c, [s1.v, (.int .i64 p_c_21.at_), (.int .u64 p_c_21.seed.v)], 69⟩]] := hS.sel [1, 0, 2] (by decide)
        obtain ⟨l_24, hl_24, hb1⟩ := bindS hb1
        refine q_do rfl fun _ hK => wp_append hF hS h7 Try.underlying33 inf3 rfl rfl rfl rfl (h23.vw hS (j := 1) rfl) rfl (by decide) hl_24 rfl fun a w q25 s25 hF hS h25 => hK _ _ ?_
        refine q_x (v := s25.v) hF hS (ex_assign rfl) rfl rfl fun a hF => ?_
        refine q_end (n_ib (n_sq ?_))
        refine q_region ?_
        refine q_x (v := (.int .i64 (w64 (t_8 + 1)))) hF hS (ex_ibin rfl rfl rfl) rfl rfl fun a hF => ?_
        refine q_x (v := (.int .i64 (w64 (t_8 + 1)))) hF hS (ex_move rfl) rfl rfl fun a hF => ?_
        refine q_end ?_
        obtain rfl := someI hb1
        exact ⟨rfl, q25, s25, _, _, _, rfl, hF.sub ⟨rfl, rfl, rfl, rfl, trivial⟩, hS.mask [true, false, true], h25, h22, h22k⟩
  · rintro e a w ⟨q27, s27, out_26, p_c_28, rfl, rfl, hF, hS, h27, h29, h29k⟩
    refine x_ib (n_sq ?_)
    refine q_seq ?_
    refine q_region ?_
    refine q_x (v := s27.v) hF hS (ex_move rfl) rfl rfl fun a hF => ?_
    refine q_x (v := s27.v) hF hS (ex_assign rfl) rfl rfl fun a hF => ?_
    refine q_end (n_sq (q_ret ?_))
    obtain rfl := someI hr
    exact ret_ofX hF hS rfl (.tmp rfl .nil) ⟨q27, s27, rfl, hS.sel [1, 0] (by decide), h27, h29k⟩

theorem c_spec_l1Own (p_l : List Int) (r : (List Int)) (hr : spec_l1Own p_l = some r) (w0 : World) (m : Mem) (hv : Vis m w0) (s1 : Sl) (h1 : Rd m s1 p_l) :
    Ret Try.prog 75 [s1.v] w0 (fun v w => ∃ (q0' : Piece) (s0' : Sl), v = s0'.v ∧ St [] w0 w m [q0'] ∧ OwnL m 3 q0' s0' r) := by
  unfold spec_l1Own at hr
  refine ret_start Try.func75 rfl 6 rfl rfl m hv fun a hF hS => ?_
  refine q_seq ?_
  refine q_region ?_
  refine q_x (v := nilS.v) hF hS (ex_assign rfl) rfl rfl fun a hF => ?_
  refine q_end (n_sq ?_)
  refine q_seq ?_
  refine q_region ?_
  refine q_do rfl fun _ hK => wp_build0 (α := Int) hF hS Try.underlying33 inf3 rfl fun a w q2 s2 hF hS h2 _ => hK _ _ ?_
  refine q_x (v := s1.v) hF hS (ex_move rfl) rfl rfl fun a hF => ?_
  obtain ⟨l_3, hl_3, hr⟩ := bindS hr
  refine q_do rfl fun _ hK => wp_append hF hS h2 Try.underlying33 inf3 rfl rfl rfl rfl (h1.vw hS.vis) rfl (by decide) hl_3 rfl fun a w q4 s4 hF hS h4 => hK _ _ ?_
  refine q_x (v := s4.v) hF hS (ex_assign rfl) rfl rfl fun a hF => ?_
  refine q_end (n_sq (q_ret ?_))
  obtain rfl := someI hr
  exact ret_of hF hS rfl (.tmp rfl .nil) ⟨q4, s4, rfl, hS.sel [0] (by decide), h4⟩

theorem c_spec_cbAt (p_sizes : List Int) (p_index : List Int) (r : Int) (hr : spec_cbAt p_sizes p_index = some r) (w0 : World) (m : Mem) (hv : Vis m w0) (s1 : Sl) (h1 : Rd m s1 p_sizes) (s2 : Sl) (h2 : Rd m s2 p_index) :
    Ret Try.prog 83 [s1.v, s2.v] w0 (fun v _ => v = (.int .i64 r)) := by
  unfold spec_cbAt at hr
  refine ret_start Try.func83 rfl 26 rfl rfl m hv fun a hF hS => ?_
  refine q_seq ?_
  refine q_region ?_
  refine q_x (v := (.int .i64 0)) hF hS (ex_assign rfl) rfl rfl fun a hF => ?_
  refine q_end (n_sq ?_)
  refine q_seq ?_
  refine q_region ?_
  refine q_x (v := (.int .i64 0)) hF hS (ex_assign rfl) rfl rfl fun a hF => ?_
  refine q_end (n_sq ?_)
  refine q_seq ?_
  refine q_seq ?_
  refine q_region ?_
  refine q_x (v := s1.v) hF hS (ex_move rfl) rfl rfl fun a hF => ?_
  refine q_x (v := (.int .i64 (goLen p_sizes))) hF hS (ex_len Try.underlying33 rfl h1.len) rfl rfl fun a hF => ?_
  refine q_x (v := (.int .i64 0)) hF hS (ex_move rfl) rfl rfl fun a hF => ?_
  refine q_end (n_sq ?_)
  refine q_block ?_
  obtain ⟨n_9, hl1, hr⟩ := bindS hr
  refine q_loop (fun (s : Int × Int) a w => ∃ n_3, ∃ t_4, s = (n_3, t_4) ∧ Fr a 26 [(1, s2.v), (5, (.int .i64 n_3)), (8, s1.v), (9, (.int .i64 (goLen p_sizes))), (10, (.int .i64 t_4))] ∧ St [] w0 w m []) (fun (n_9 : Int) e a w => e = .exit 0 ∧ Fr a 26 [(5, (.int .i64 n_9))] ∧ St [] w0 w m []) hl1 ⟨_, _, rfl, hF.sub ⟨rfl, rfl, rfl, rfl, rfl, trivial⟩, hS⟩ ?_ ?_
  · clear hF hS
    rintro s a w st ⟨n_3, t_4, rfl, hF, hS⟩ hb1
    unfold spec_cbAt_l1 at hb1
    refine q_seq ?_
    refine q_region ?_
    refine q_x (v := (.bool (decide (t_4 < (goLen p_sizes))))) hF hS (ex_ibin rfl rfl rfl) rfl rfl fun a hF => ?_
    refine q_end (n_sq ?_)
    refine q_seq ?_
    rcases bcase (decide (t_4 < (goLen p_sizes))) with hc2 | hc2
    · have hb1 := cond_f hc2 hb1
      refine q_cond_f hF rfl hc2 ?_
      refine q_exit (x_sq ?_)
      obtain rfl := someI hb1
      exact ⟨nofun, .inl ⟨rfl, hF.sub ⟨rfl, trivial⟩, hS⟩⟩
    · have hb1 := cond_t hc2 hb1
      refine q_cond_t hF rfl hc2 ?_
      refine q_skipc (n_sq ?_)
      refine q_seq ?_
      refine q_block ?_
      refine q_seq ?_
      refine q_region ?_
      refine q_x (v := (.int .i64 t_4)) hF hS (ex_move rfl) rfl rfl fun a hF => ?_
      obtain ⟨e_5, he_5, hb1⟩ := bindS hb1
      obtain ⟨vs6, at6, d6⟩ := h1.at he_5 1 rfl
      obtain rfl : vs6 = [(.int .i64 e_5)] := d6
      refine q_x (v := (elP s1 (t_4.toNat * 1))) hF hS (ex_indexAddr Try.underlying33 sz3 rfl rfl (h1.idx he_5)) rfl rfl fun a hF => ?_
      refine q_x (v := (.int .i64 e_5)) hF hS (ex_loadE1 0 Try.underlying3 rfl rfl ((at6).at) rfl rfl) rfl rfl fun a hF => ?_
      refine q_x (v := (.int .i64 t_4)) hF hS (ex_assign rfl) rfl rfl fun a hF => ?_
      refine q_x (v := (.int .i64 e_5)) hF hS (ex_assign rfl) rfl rfl fun a hF => ?_
      refine q_end (n_sq ?_)
      refine q_region ?_
      refine q_x (v := (.int .i64 n_3)) hF hS (ex_move rfl) rfl rfl fun a hF => ?_
      refine q_x (v := (.int .i64 e_5)) hF hS (ex_move rfl) rfl rfl fun a hF => ?_
      refine q_x (v := (.int .i64 (w64 (e_5 + 1)))) hF hS (ex_ibin rfl rfl rfl) rfl rfl fun a hF => ?_
      refine q_x (v := (.int .i64 (w64 (n_3 * (w64 (e_5 + 1)))))) hF hS (ex_ibin rfl rfl rfl) rfl rfl fun a hF => ?_
      refine q_x (v := s2.v) hF hS (ex_move rfl) rfl rfl fun a hF => ?_
      refine q_x (v := (.int .i64 t_4)) hF hS (ex_move rfl) rfl rfl fun a hF => ?_
      obtain ⟨e_7, he_7, hb1⟩ := bindS hb1
      obtain ⟨vs8, at8, d8⟩ := h2.at he_7 1 rfl
      obtain rfl : vs8 = [(.int .i64 e_7)] := d8
      refine q_x (v := (elP s2 (t_4.toNat * 1))) hF hS (ex_indexAddr Try.underlying33 sz3 rfl rfl (h2.idx he_7)) rfl rfl fun a hF => ?_
      refine q_x (v := (.int .i64 e_7)) hF hS (ex_loadE1 0 Try.underlying3 rfl rfl ((at8).at) rfl rfl) rfl rfl fun a hF => ?_
      refine q_x (v := (.int .i64 (w64 ((w64 (n_3 * (w64 (e_5 + 1)))) + e_7)))) hF hS (ex_ibin rfl rfl rfl) rfl rfl fun a hF => ?_
      refine q_x (v := (.int .i64 (w64 ((w64 (n_3 * (w64 (e_5 + 1)))) + e_7)))) hF hS (ex_assign rfl) rfl rfl fun a hF => ?_
      refine q_end (n_ib (n_sq ?_))
      refine q_region ?_
      refine q_x (v := (.int .i64 (w64 (t_4 + 1)))) hF hS (ex_ibin rfl rfl rfl) rfl rfl fun a hF => ?_
      refine q_x (v := (.int .i64 (w64 (t_4 + 1)))) hF hS (ex_move rfl) rfl rfl fun a hF => ?_
      refine q_end ?_
      obtain rfl := someI hb1
      exact ⟨rfl, _, _, rfl, hF.sub ⟨rfl, rfl, rfl, rfl, rfl, trivial⟩, hS⟩
  · rintro e a w ⟨rfl, hF, hS⟩
    refine x_ib (n_sq ?_)
    refine q_seq ?_
    refine q_region ?_
    refine q_x (v := (.int .i64 n_9)) hF hS (ex_move rfl) rfl rfl fun a hF => ?_
    refine q_x (v := (.int .i64 n_9)) hF hS (ex_assign rfl) rfl rfl fun a hF => ?_
    refine q_end (n_sq (q_ret ?_))
    obtain rfl := someI hr
    exact ret_of hF hS rfl (.tmp rfl .nil) rfl

theorem c_spec_cbOf (p_sizes : List Int) (p_base : List Int) (r : impl_Cube) (hr : spec_cbOf p_sizes p_base = some r) (w0 : World) (m : Mem) (hv : Vis m w0) (s1 : Sl) (h1 : Rd m s1 p_sizes) (s2 : Sl) (h2 : Rd m s2 p_base) :
    Ret Try.prog 63 [s1.v, s2.v] w0 (fun v w => ∃ (q0' : Piece) (q1' : Piece) (s0' : Sl) (s1' : Sl), v = (.agg #[s0'.v, s1'.v]) ∧ St [] w0 w m [q0', q1'] ∧ OwnL m 3 q0' s0' r.Sizes ∧ OwnL m 3 q1' s1' r.Cells) := by
  unfold spec_cbOf at hr
  refine ret_start Try.func63 rfl 73 rfl rfl m hv fun a hF hS => ?_
  refine q_seq ?_
  refine q_region ?_
  refine q_alloc (cs := [nilS.v, nilS.v]) hF hS rfl rfl rfl fun a w b3 hF hS => ?_
  refine q_end (n_sq ?_)
  refine q_seq ?_
  refine q_region ?_
  refine q_x (v := s1.v) hF hS (ex_move rfl) rfl rfl fun a hF => ?_
  obtain ⟨t_4, ht_4, hr⟩ := bindS hr
  refine q_call (vs := [s1.v]) hF hS Try.func75 (by kernel_rfl) rfl rfl rfl (c_spec_l1Own p_sizes t_4 ht_4 _ m hS.vis s1 h1) ?_
  rintro a w _ ⟨q6, s6, rfl, hR5, h6⟩ hF hS2
  have hS : St _ _ _ _ [q6, [⟨b3, [nilS.v, nilS.v], 46⟩]] := hS.joinF hR5
  refine q_x (v := s1.v) hF hS (ex_move rfl) rfl rfl fun a hF => ?_
  obtain ⟨t_7, ht_7, hr⟩ := bindS hr
  refine q_call (vs := [s1.v]) hF hS Try.func59 (by kernel_rfl) rfl rfl rfl (c_spec_cbCount p_sizes t_7 ht_7 _ m hS.vis s1 h1) ?_
  rintro a w _ rfl hF hS
  obtain ⟨l_8, hl_8, hr⟩ := bindS hr
  refine q_do rfl fun _ hK => wp_make (z := (0 : Int)) hF hS Try.underlying33 inf3 rfl rfl rfl rfl rfl (by decide) hl_8 rfl fun a w q9 s9 hF hS h9 _ => hK _ _ ?_
  refine q_x (v := (.agg #[s6.v, s9.v])) hF hS (ex_build (cells := [s6.v, s9.v]) rfl (by kernel_rfl)) rfl rfl fun a hF => ?_
  refine q_alloc (cs := [nilS.v, nilS.v]) hF hS rfl rfl rfl fun a w b10 hF hS => ?_
  refine q_store (vs := [s6.v, s9.v]) (cs' := [s6.v, s9.v]) 0 0 hF hS sz46 rfl rfl rfl rfl rfl rfl rfl rfl fun a w hF hS => ?_
  refine q_end (n_sq ?_)
  refine q_seq ?_
  refine q_seq ?_
  refine q_region ?_
  refine q_x (v := s1.v) hF hS (ex_move rfl) rfl rfl fun a hF => ?_
  obtain ⟨t_11, ht_11, hr⟩ := bindS hr
  refine q_call (vs := [s1.v]) hF hS Try.func60 (by kernel_rfl) rfl rfl rfl (c_spec_cbBase p_sizes t_11 ht_11 _ m hS.vis s1 h1) ?_
  rintro a w _ ⟨q13, s13, rfl, hR12, h13⟩ hF hS2
  have hS : St _ _ _ _ [q13, [⟨b10, [s6.v, s9.v], 46⟩], q9, q6, [⟨b3, [nilS.v, nilS.v], 46⟩]] := hS.joinF hR12
  refine q_x (v := (.int .i64 (goLen t_11))) hF hS (ex_len Try.underlying33 rfl h13.len) rfl rfl fun a hF => ?_
  refine q_x (v := (.int .i64 0)) hF hS (ex_move rfl) rfl rfl fun a hF => ?_
  refine q_end (n_sq ?_)
  refine q_block ?_
  obtain ⟨c_65, hl1, hr⟩ := bindS hr
  refine q_loop (fun (s : Int × impl_Cube) a w => ∃ (q17 : Piece), ∃ t_14, ∃ c_15, s = (t_14, c_15) ∧ Fr a 73 [(0, s1.v), (1, s2.v), (4, (.pointer (some ⟨b3, 0, none⟩))), (5, (.pointer (some ⟨b10, 0, none⟩))), (19, s13.v), (20, (.int .i64 (goLen t_11))), (21, (.int .i64 t_14))] ∧ St [] w0 w m [q17, q13, [⟨b10, [s6.v, s9.v], 46⟩], q6, [⟨b3, [nilS.v, nilS.v], 46⟩]] ∧ OwnL m 3 q6 s6 c_15.Sizes ∧ c_15.Sizes = t_4 ∧ OwnL m 3 q17 s9 c_15.Cells) (fun (c_65 : impl_Cube) e a w => ∃ (q67 : Piece), e = .exit 0 ∧ Fr a 73 [(4, (.pointer (some ⟨b3, 0, none⟩))), (5, (.pointer (some ⟨b10, 0, none⟩)))] ∧ St [] w0 w m [q6, q67, [⟨b10, [s6.v, s9.v], 46⟩], [⟨b3, [nilS.v, nilS.v], 46⟩]] ∧ OwnL m 3 q6 s6 c_65.Sizes ∧ c_65.Sizes = t_4 ∧ OwnL m 3 q67 s9 c_65.Cells) hl1 ⟨q9, _, _, rfl, hF.sub ⟨rfl, rfl, rfl, rfl, rfl, rfl, rfl, trivial⟩, hS.sel [2, 0, 1, 3, 4] (by decide), h6, rfl, h9⟩ ?_ ?_
  · clear hF hS
    rintro s a w st ⟨q17, t_14, c_15, rfl, hF, hS, h16, h16k, h17⟩ hb1
    unfold spec_cbOf_l1 at hb1
    refine q_seq ?_
    refine q_region ?_
    refine q_x (v := (.bool (decide (t_14 < (goLen t_11))))) hF hS (ex_ibin rfl rfl rfl) rfl rfl fun a hF => ?_
    refine q_end (n_sq ?_)
    refine q_seq ?_
    rcases bcase (decide (t_14 < (goLen t_11))) with hc2 | hc2
    · have hb1 := cond_f hc2 hb1
      refine q_cond_f hF rfl hc2 ?_
      refine q_exit (x_sq ?_)
      obtain rfl := someI hb1
      exact ⟨nofun, .inl ⟨q17, rfl, hF.sub ⟨rfl, rfl, trivial⟩, hS.sel [3, 0, 2, 4] (by decide), h16, h16k, h17⟩⟩
    · have hb1 := cond_t hc2 hb1
      refine q_cond_t hF rfl hc2 ?_
      refine q_skipc (n_sq ?_)
      refine q_seq ?_
      refine q_block ?_
      refine q_seq ?_
      refine q_region ?_
      refine q_x (v := (.int .i64 t_14)) hF hS (ex_move rfl) rfl rfl fun a hF => ?_
      obtain ⟨e_18, he_18, hb1⟩ := bindS hb1
      obtain ⟨vs19, at19, d19⟩ := h13.at he_18 1 rfl
      obtain rfl : vs19 = [(.int .i64 e_18)] := d19
      refine q_x (v := (elP s13 (t_14.toNat * 1))) hF hS (ex_indexAddr Try.underlying33 sz3 rfl rfl (h13.idx he_18)) rfl rfl fun a hF => ?_
      refine q_x (v := (.int .i64 e_18)) hF hS (ex_loadE1 0 Try.underlying3 rfl rfl (at19.at 1 rfl) rfl rfl) rfl rfl fun a hF => ?_
      refine q_x (v := (.int .i64 t_14)) hF hS (ex_assign rfl) rfl rfl fun a hF => ?_
      refine q_x (v := (.int .i64 e_18)) hF hS (ex_assign rfl) rfl rfl fun a hF => ?_
      refine q_end (n_sq ?_)
      refine q_seq ?_
      refine q_region ?_
      refine q_x (v := s1.v) hF hS (ex_move rfl) rfl rfl fun a hF => ?_
      refine q_x (v := (.int .i64 e_18)) hF hS (ex_move rfl) rfl rfl fun a hF => ?_
      obtain ⟨t_20, ht_20, hb1⟩ := bindS hb1
      refine q_call (vs := [s1.v, (.int .i64 e_18)]) hF hS Try.func82 (by kernel_rfl) rfl rfl rfl (c_spec_cbIndices p_sizes e_18 t_20 ht_20 _ m hS.vis s1 h1) ?_
      rintro a w _ ⟨q22, s22, rfl, hR21, h22⟩ hF hS2
      have hS : St _ _ _ _ [q22, q17, q13, [⟨b10, [s6.v, s9.v], 46⟩], q6, [⟨b3, [nilS.v, nilS.v], 46⟩]] := hS.joinF hR21
      refine q_x (v := s22.v) hF hS (ex_assign rfl) rfl rfl fun a hF => ?_
      refine q_end (n_sq ?_)
      refine q_seq ?_
      refine q_region ?_
      refine q_x (v := (.int .i64 0)) hF hS (ex_assign rfl) rfl rfl fun a hF => ?_
      refine q_end (n_sq ?_)
      refine q_block ?_
      obtain ⟨c_62, hl3, hb1⟩ := bindS hb1
      refine q_loop (fun (s : Int × impl_Cube) a w => ∃ (q26 : Piece), ∃ mask_23, ∃ c_24, s = (mask_23, c_24) ∧ Fr a 73 [(0, s1.v), (1, s2.v), (4, (.pointer (some ⟨b3, 0, none⟩))), (5, (.pointer (some ⟨b10, 0, none⟩))), (6, (.int .i64 t_14)), (8, s22.v), (9, (.int .i64 mask_23)), (19, s13.v), (20, (.int .i64 (goLen t_11))), (21, (.int .i64 t_14))] ∧ St [] w0 w m [q26, q22, q13, [⟨b10, [s6.v, s9.v], 46⟩], q6, [⟨b3, [nilS.v, nilS.v], 46⟩]] ∧ OwnL m 3 q6 s6 c_24.Sizes ∧ c_24.Sizes = t_4 ∧ OwnL m 3 q26 s9 c_24.Cells) (fun (c_62 : impl_Cube) e a w => ∃ (q64 : Piece), e = .exit 2 ∧ Fr a 73 [(0, s1.v), (1, s2.v), (4, (.pointer (some ⟨b3, 0, none⟩))), (5, (.pointer (some ⟨b10, 0, none⟩))), (19, s13.v), (20, (.int .i64 (goLen t_11))), (21, (.int .i64 t_14))] ∧ St [] w0 w m [q13, q6, q64, [⟨b10, [s6.v, s9.v], 46⟩], [⟨b3, [nilS.v, nilS.v], 46⟩]] ∧ OwnL m 3 q6 s6 c_62.Sizes ∧ c_62.Sizes = t_4 ∧ OwnL m 3 q64 s9 c_62.Cells) hl3 ⟨q17, _, _, rfl, hF.sub ⟨rfl, rfl, rfl, rfl, rfl, rfl, rfl, rfl, rfl, rfl, trivial⟩, hS.sel [1, 0, 2, 3, 4, 5] (by decide), h16, h16k, h17⟩ ?_ ?_
      · clear hF hS
        rintro s a w st ⟨q26, mask_23, c_24, rfl, hF, hS, h25, h25k, h26⟩ hb3
        unfold spec_cbOf_l2 at hb3
        refine q_seq ?_
        refine q_seq ?_
        refine q_region ?_
        refine q_x (v := (.int .i64 mask_23)) hF hS (ex_move rfl) rfl rfl fun a hF => ?_
        refine q_x (v := s1.v) hF hS (ex_move rfl) rfl rfl fun a hF => ?_
        refine q_x (v := (.int .i64 (goLen p_sizes))) hF hS (ex_len Try.underlying33 rfl h1.len) rfl rfl fun a hF => ?_
        refine q_x (v := (.int .u64 (IntKind.wrap .u64 (goLen p_sizes)))) hF hS (ex_conv Try.underlying3 Try.underlying95 rfl) rfl rfl fun a hF => ?_
        obtain ⟨t_27, ht_27, hb3⟩ := bindS hb3
        refine q_x (v := (.int .i64 t_27)) hF hS (ex_shl rfl rfl ht_27) rfl rfl fun a hF => ?_
        refine q_x (v := (.bool (decide (mask_23 < t_27)))) hF hS (ex_ibin rfl rfl rfl) rfl rfl fun a hF => ?_
        refine q_end (n_sq ?_)
        rcases bcase (decide (mask_23 < t_27)) with hc4 | hc4
        · have hb3 := cond_f hc4 hb3
          refine q_cond_f hF rfl hc4 ?_
          refine q_exit (x_sq ?_)
          obtain rfl := someI hb3
          exact ⟨nofun, .inl ⟨q26, rfl, hF.sub ⟨rfl, rfl, rfl, rfl, rfl, rfl, rfl, trivial⟩, hS.sel [2, 4, 0, 3, 5] (by decide), h25, h25k, h26⟩⟩
        · have hb3 := cond_t hc4 hb3
          refine q_cond_t hF rfl hc4 ?_
          refine q_skipc (n_sq ?_)
          refine q_seq ?_
          refine q_block ?_
          refine q_seq ?_
          refine q_region ?_
          refine q_x (v := s22.v) hF hS (ex_move rfl) rfl rfl fun a hF => ?_
          obtain ⟨m29, hl29, hv29, hz29⟩ := hS.lend
          obtain ⟨t_28, ht_28, hb3⟩ := bindS hb3
          refine q_call (vs := [s22.v]) hF hS Try.func75 (by kernel_rfl) rfl rfl rfl (c_spec_l1Own t_20 t_28 ht_28 _ m29 hv29 s22 (h22.froz hl29 (hz29 1 _ rfl))) ?_
          rintro a w _ ⟨q31, s31, rfl, hR30, h31⟩ hF hS2
          have hS : St _ _ _ _ [q31, q26, q22, q13, [⟨b10, [s6.v, s9.v], 46⟩], q6, [⟨b3, [nilS.v, nilS.v], 46⟩]] := hS.joinF hR30
          have h31 := h31.any m
          refine q_x (v := s31.v) hF hS (ex_assign rfl) rfl rfl fun a hF => ?_
          refine q_end (n_sq ?_)
          refine q_seq ?_
          refine q_seq ?_
          refine q_region ?_
          refine q_x (v := s31.v) hF hS (ex_move rfl) rfl rfl fun a hF => ?_
          refine q_x (v := (.int .i64 (goLen t_28))) hF hS (ex_len Try.underlying33 rfl h31.len) rfl rfl fun a hF => ?_
          refine q_x (v := (.int .i64 0)) hF hS (ex_move rfl) rfl rfl fun a hF => ?_
          refine q_end (n_sq ?_)
          refine q_block ?_
          obtain ⟨at_43, hl5, hb3⟩ := bindS hb3
          refine q_loop (fun (s : (List Int) × Int) a w => ∃ (q33 : Piece), ∃ at_32, ∃ t_34, s = (at_32, t_34) ∧ Fr a 73 [(0, s1.v), (1, s2.v), (4, (.pointer (some ⟨b3, 0, none⟩))), (5, (.pointer (some ⟨b10, 0, none⟩))), (6, (.int .i64 t_14)), (8, s22.v), (9, (.int .i64 mask_23)), (10, s31.v), (19, s13.v), (20, (.int .i64 (goLen t_11))), (21, (.int .i64 t_14)), (40, (.int .i64 (goLen t_28))), (41, (.int .i64 t_34))] ∧ St [] w0 w m [q33, q26, q22, q13, [⟨b10, [s6.v, s9.v], 46⟩], q6, [⟨b3, [nilS.v, nilS.v], 46⟩]] ∧ OwnL m 3 q33 s31 at_32) (fun (at_43 : (List Int)) e a w => ∃ (q44 : Piece), e = .exit 4 ∧ Fr a 73 [(0, s1.v), (1, s2.v), (4, (.pointer (some ⟨b3, 0, none⟩))), (5, (.pointer (some ⟨b10, 0, none⟩))), (6, (.int .i64 t_14)), (8, s22.v), (9, (.int .i64 mask_23)), (10, s31.v), (19, s13.v), (20, (.int .i64 (goLen t_11))), (21, (.int .i64 t_14))] ∧ St [] w0 w m [q22, q44, q13, q6, q26, [⟨b10, [s6.v, s9.v], 46⟩], [⟨b3, [nilS.v, nilS.v], 46⟩]] ∧ OwnL m 3 q44 s31 at_43) hl5 ⟨q31, _, _, rfl, hF.sub ⟨rfl, rfl, rfl, rfl, rfl, rfl, rfl, rfl, rfl, rfl, rfl, rfl, rfl, trivial⟩, hS, h31⟩ ?_ ?_
          · clear hF hS
            rintro s a w st ⟨q33, at_32, t_34, rfl, hF, hS, h33⟩ hb5
            unfold spec_cbOf_l3 at hb5
            refine q_seq ?_
            refine q_region ?_
            refine q_x (v := (.bool (decide (t_34 < (goLen t_28))))) hF hS (ex_ibin rfl rfl rfl) rfl rfl fun a hF => ?_
            refine q_end (n_sq ?_)
            refine q_seq ?_
            rcases bcase (decide (t_34 < (goLen t_28))) with hc6 | hc6
            · have hb5 := cond_f hc6 hb5
              refine q_cond_f hF rfl hc6 ?_
              refine q_exit (x_sq ?_)
              obtain rfl := someI hb5
              exact ⟨nofun, .inl ⟨q33, rfl, hF.sub ⟨rfl, rfl, rfl, rfl, rfl, rfl, rfl, rfl, rfl, rfl, rfl, trivial⟩, hS.sel [2, 0, 3, 5, 1, 4, 6] (by decide), h33⟩⟩
            · have hb5 := cond_t hc6 hb5
              refine q_cond_t hF rfl hc6 ?_
              refine q_skipc (n_sq ?_)
              refine q_seq ?_
              refine q_block ?_
              refine q_seq ?_
              refine q_region ?_
              refine q_x (v := (.int .i64 t_34)) hF hS (ex_move rfl) rfl rfl fun a hF => ?_
              refine q_x (v := (.int .i64 t_34)) hF hS (ex_assign rfl) rfl rfl fun a hF => ?_
              refine q_end (n_sq ?_)
              refine q_seq ?_
              refine q_region ?_
              refine q_x (v := (.int .i64 mask_23)) hF hS (ex_move rfl) rfl rfl fun a hF => ?_
              refine q_x (v := (.int .i64 t_34)) hF hS (ex_move rfl) rfl rfl fun a hF => ?_
              refine q_x (v := (.int .u64 (IntKind.wrap .u64 t_34))) hF hS (ex_conv Try.underlying3 Try.underlying95 rfl) rfl rfl fun a hF => ?_
              obtain ⟨t_35, ht_35, hb5⟩ := bindS hb5
              refine q_x (v := (.int .i64 t_35)) hF hS (ex_shr rfl rfl ht_35) rfl rfl fun a hF => ?_
              refine q_x (v := (.int .i64 (goBits .and .i64 t_35 1))) hF hS (ex_bits rfl rfl rfl) rfl rfl fun a hF => ?_
              refine q_x (v := (.bool ((goBits .and .i64 t_35 1) == 1))) hF hS (ex_ibin rfl rfl rfl) rfl rfl fun a hF => ?_
              refine q_end (n_sq ?_)
              obtain ⟨at_41, hj7, hb5⟩ := bindS hb5
              refine q_join (fun a w => ∃ (q42 : Piece), Fr a 73 [(0, s1.v), (1, s2.v), (4, (.pointer (some ⟨b3, 0, none⟩))), (5, (.pointer (some ⟨b10, 0, none⟩))), (6, (.int .i64 t_14)), (8, s22.v), (9, (.int .i64 mask_23)), (10, s31.v), (19, s13.v), (20, (.int .i64 (goLen t_11))), (21, (.int .i64 t_14)), (40, (.int .i64 (goLen t_28))), (41, (.int .i64 t_34))] ∧ St [] w0 w m [q22, q42, q13, q6, q26, [⟨b10, [s6.v, s9.v], 46⟩], [⟨b3, [nilS.v, nilS.v], 46⟩]] ∧ OwnL m 3 q42 s31 at_41) ?_ ?_
              · rcases bcase ((goBits .and .i64 t_35 1) == 1) with hc8 | hc8
                · have hj7 := cond_f hc8 hj7
                  refine q_cond_f hF rfl hc8 ?_
                  refine q_skipc (n_jn ?_)
                  obtain rfl := someI hj7
                  exact ⟨q33, hF.sub ⟨rfl, rfl, rfl, rfl, rfl, rfl, rfl, rfl, rfl, rfl, rfl, rfl, rfl, trivial⟩, hS.sel [2, 0, 3, 5, 1, 4, 6] (by decide), h33⟩
                · have hj7 := cond_t hc8 hj7
                  refine q_cond_t hF rfl hc8 ?_
                  refine q_region ?_
                  refine q_x (v := s31.v) hF hS (ex_move rfl) rfl rfl fun a hF => ?_
                  refine q_x (v := (.int .i64 t_34)) hF hS (ex_move rfl) rfl rfl fun a hF => ?_
                  refine q_x (v := s1.v) hF hS (ex_move rfl) rfl rfl fun a hF => ?_
                  refine q_x (v := (.int .i64 t_34)) hF hS (ex_move rfl) rfl rfl fun a hF => ?_
                  obtain ⟨e_36, he_36, hj7⟩ := bindS hj7
                  obtain ⟨vs37, at37, d37⟩ := h1.at he_36 1 rfl
                  obtain rfl : vs37 = [(.int .i64 e_36)] := d37
                  refine q_x (v := (elP s1 (t_34.toNat * 1))) hF hS (ex_indexAddr Try.underlying33 sz3 rfl rfl (h1.idx he_36)) rfl rfl fun a hF => ?_
                  refine q_x (v := (.int .i64 e_36)) hF hS (ex_loadE1 0 Try.underlying3 rfl rfl ((at37).at) rfl rfl) rfl rfl fun a hF => ?_
                  obtain ⟨e_38, he_38, hj7⟩ := bindS hj7
                  obtain ⟨vs39, at39, d39⟩ := h33.at he_38 1 rfl
                  obtain rfl : vs39 = [(.int .i64 e_38)] := d39
                  refine q_x (v := (elP s31 (t_34.toNat * 1))) hF hS (ex_indexAddr Try.underlying33 sz3 rfl rfl (h33.idx he_38)) rfl rfl fun a hF => ?_
                  refine q_do rfl fun _ hK => wp_storeE (e' := e_36) (us := [(.int .i64 e_36)]) (vs := [(.int .i64 e_38)]) 0 hF hS h33 sz3 rfl rfl rfl rfl rfl rfl rfl he_38 at39 rfl rfl rfl fun w q40 hS h40 => hK _ _ ?_
                  refine q_end (n_jn ?_)
                  obtain rfl := someI hj7
                  exact ⟨q40, hF.sub ⟨rfl, rfl, rfl, rfl, rfl, rfl, rfl, rfl, rfl, rfl, rfl, rfl, rfl, trivial⟩, hS.sel [2, 0, 3, 5, 1, 4, 6] (by decide), h40⟩
              · rintro a w ⟨q42, hF, hS, h42⟩
                refine n_ib (n_sq ?_)
                refine q_region ?_
                refine q_x (v := (.int .i64 (w64 (t_34 + 1)))) hF hS (ex_ibin rfl rfl rfl) rfl rfl fun a hF => ?_
                refine q_x (v := (.int .i64 (w64 (t_34 + 1)))) hF hS (ex_move rfl) rfl rfl fun a hF => ?_
                refine q_end ?_
                obtain rfl := someI hb5
                exact ⟨rfl, q42, _, _, rfl, hF.sub ⟨rfl, rfl, rfl, rfl, rfl, rfl, rfl, rfl, rfl, rfl, rfl, rfl, rfl, trivial⟩, hS.sel [1, 4, 0, 2, 5, 3, 6] (by decide), h42⟩
          · rintro e a w ⟨q44, rfl, hF, hS, h44⟩
            refine x_ib (n_sq ?_)
            refine e_region [13] mixed fun w' hw' => ?_
            have hS := hS.below hw'
            refine e_p (v := (.pointer (some ⟨b10, 1, none⟩))) 0 hF rfl (ex_fieldAddr Try.underlying46 rfl sz33 rfl rfl) rfl rfl (by kernel_rfl) (by kernel_rfl) (by kernel_rfl) fun a hF => ?_
            refine e_x (v := s9.v) 1 hF hS rfl (ex_load1 5 0 Try.underlying33 rfl rfl rfl rfl) rfl rfl (by kernel_rfl) (by kernel_rfl) (by kernel_rfl) (by kernel_rfl) fun a hF => ?_
            refine e_p (v := s1.v) 2 hF rfl (ex_move rfl) rfl rfl (by kernel_rfl) (by kernel_rfl) (by kernel_rfl) fun a hF => ?_
            refine e_p (v := s31.v) 3 hF rfl (ex_move rfl) rfl rfl (by kernel_rfl) (by kernel_rfl) (by kernel_rfl) fun a hF => ?_
            refine e_p (v := s2.v) 7 hF rfl (ex_move rfl) rfl rfl (by kernel_rfl) (by kernel_rfl) (by kernel_rfl) fun a hF => ?_
            refine e_p (v := (.int .i64 t_14)) 8 hF rfl (ex_move rfl) rfl rfl (by kernel_rfl) (by kernel_rfl) (by kernel_rfl) fun a hF => ?_
            obtain ⟨e_51, he_51, hb3⟩ := bindS hb3
            obtain ⟨vs52, at52, d52⟩ := h2.at he_51 1 rfl
            obtain rfl : vs52 = [(.int .i64 e_51)] := d52
            refine e_p (v := (elP s2 (t_14.toNat * 1))) 9 hF rfl (ex_indexAddr Try.underlying33 sz3 rfl rfl (h2.idx he_51)) rfl rfl (by kernel_rfl) (by kernel_rfl) (by kernel_rfl) fun a hF => ?_
            refine e_x (v := (.int .i64 e_51)) 10 hF hS rfl (ex_loadE1 0 Try.underlying3 rfl rfl ((at52).at) rfl rfl) rfl rfl (by kernel_rfl) (by kernel_rfl) (by kernel_rfl) (by kernel_rfl) fun a hF => ?_
            refine e_one 4 (by kernel_rfl) ?_
            obtain ⟨m56, hl56, hv56, hz56⟩ := hS.lend
            obtain ⟨t_55, ht_55, hb3⟩ := bindS hb3
            refine e_call (vs := [s1.v, s31.v]) hF hS rfl Try.func83 (by kernel_rfl) rfl rfl rfl (c_spec_cbAt p_sizes at_43 t_55 ht_55 _ m56 hv56 s1 (h1.mono hl56) s31 (h44.froz hl56 (hz56 1 _ rfl))) ?_
            rintro a w _ rfl hF hS
            obtain ⟨e_57, he_57, hb3⟩ := bindS hb3
            obtain ⟨vs58, at58, d58⟩ := h26.at he_57 1 rfl
            obtain rfl : vs58 = [(.int .i64 e_57)] := d58
            refine e_p (v := (elP s9 (t_55.toNat * 1))) 5 hF rfl (ex_indexAddr Try.underlying33 sz3 rfl rfl (h26.idx he_57)) rfl rfl (by kernel_rfl) (by kernel_rfl) (by kernel_rfl) fun a hF => ?_
            refine e_x (v := (.int .i64 e_57)) 6 hF hS rfl (ex_loadE1 0 Try.underlying3 rfl rfl (at58.at 4 rfl) rfl rfl) rfl rfl (by kernel_rfl) (by kernel_rfl) (by kernel_rfl) (by kernel_rfl) fun a hF => ?_
            refine e_p (v := (.int .i64 (w64 (e_57 + e_51)))) 11 hF rfl (ex_ibin rfl rfl rfl) rfl rfl (by kernel_rfl) (by kernel_rfl) (by kernel_rfl) fun a hF => ?_
            obtain ⟨e_59, he_59, hb3⟩ := bindS hb3
            obtain ⟨vs60, at60, d60⟩ := h26.at he_59 1 rfl
            obtain rfl : vs60 = [(.int .i64 e_59)] := d60
            refine e_p (v := (elP s9 (t_55.toNat * 1))) 12 hF rfl (ex_indexAddr Try.underlying33 sz3 rfl rfl (h26.idx he_59)) rfl rfl (by kernel_rfl) (by kernel_rfl) (by kernel_rfl) fun a hF => ?_
            refine e_one 13 (by kernel_rfl) ?_
            have hS : St _ _ _ _ [q26, q22, q44, q13, q6, [⟨b10, [s6.v, s9.v], 46⟩], [⟨b3, [nilS.v, nilS.v], 46⟩]] := hS.sel [4, 0, 1, 2, 3, 5, 6] (by decide)
            refine e_opl rfl rfl rfl fun _ hK => wp_storeE (e' := (w64 (e_57 + e_51))) (us := [(.int .i64 (w64 (e_57 + e_51)))]) (vs := [(.int .i64 e_59)]) 0 hF hS h26 sz3 rfl rfl rfl rfl rfl rfl rfl he_59 at60 rfl rfl rfl fun w q61 hS h61 => hK _ _ ?_
            refine e_end (by kernel_rfl) (n_ib (n_sq ?_)) _
            refine q_region ?_
            refine q_x (v := (.int .i64 mask_23)) hF hS (ex_move rfl) rfl rfl fun a hF => ?_
            refine q_x (v := (.int .i64 (w64 (mask_23 + 1)))) hF hS (ex_ibin rfl rfl rfl) rfl rfl fun a hF => ?_
            refine q_x (v := (.int .i64 (w64 (mask_23 + 1)))) hF hS (ex_assign rfl) rfl rfl fun a hF => ?_
            refine q_end ?_
            obtain rfl := someI hb3
            exact ⟨rfl, q61, _, _, rfl, hF.sub ⟨rfl, rfl, rfl, rfl, rfl, rfl, rfl, rfl, rfl, rfl, trivial⟩, hS.sel [0, 1, 3, 5, 4, 6] (by decide), h25, h25k, h61⟩
      · rintro e a w ⟨q64, rfl, hF, hS, h63, h63k, h64⟩
        refine x_ib (n_ib (n_sq ?_))
        refine q_region ?_
        refine q_x (v := (.int .i64 (w64 (t_14 + 1)))) hF hS (ex_ibin rfl rfl rfl) rfl rfl fun a hF => ?_
        refine q_x (v := (.int .i64 (w64 (t_14 + 1)))) hF hS (ex_move rfl) rfl rfl fun a hF => ?_
        refine q_end ?_
        obtain rfl := someI hb1
        exact ⟨rfl, q64, _, _, rfl, hF.sub ⟨rfl, rfl, rfl, rfl, rfl, rfl, rfl, trivial⟩, hS.sel [2, 0, 3, 1, 4] (by decide), h63, h63k, h64⟩
  · rintro e a w ⟨q67, rfl, hF, hS, h66, h66k, h67⟩
    refine x_ib (n_sq ?_)
    refine q_seq ?_
    refine q_region ?_
    refine q_x (v := (.agg #[s6.v, s9.v])) hF hS (ex_loadA (vs := [s6.v, s9.v]) 2 0 Try.underlying46 rfl sz46 rfl rfl rfl rfl) rfl rfl fun a hF => ?_
    refine q_store (vs := [s6.v, s9.v]) (cs' := [s6.v, s9.v]) 3 0 hF hS sz46 rfl rfl rfl rfl rfl rfl rfl rfl fun a w hF hS => ?_
    refine q_end (n_sq (q_ret ?_))
    obtain rfl := someI hr
    exact ret_of hF hS rfl (.cellA (us := [s6.v, s9.v]) 3 0 Try.underlying46 rfl sz46 rfl rfl rfl rfl .nil) ⟨q6, q67, s6, s9, rfl, hS.sel [0, 1] (by decide), h66, h67⟩

theorem c_spec_l1Cur_cube (p_c : spec_l1Cur) (r : impl_Cube × spec_l1Cur) (hr : spec_l1Cur_cube p_c = some r) (w0 : World) (m : Mem) (b_p_c : Nat) (s1 : Sl) (h1 : Rd m s1 p_c.code) (X : List Nat) (hS : St X w0 w0 m [[⟨b_p_c, [s1.v, (.int .i64 p_c.at_), (.int .u64 p_c.seed.v)], 69⟩]]) :
    RetX Try.prog 64 [(.pointer (some ⟨b_p_c, 0, none⟩))] w0 (fun v w => ∃ (m' : Mem) (q1' : Piece) (s0' : Sl) (s1' : Sl), v = (.agg #[s0'.v, s1'.v]) ∧ MLe X w0.heap.size m m' ∧ St X w0 w m' [[⟨b_p_c, [s1.v, (.int .i64 r.2.at_), (.int .u64 r.2.seed.v)], 69⟩], q1'] ∧ Rd m' s0' r.1.Sizes ∧ OwnL m' 3 q1' s1' r.1.Cells ∧ r.2.code = p_c.code) := by
  unfold spec_l1Cur_cube at hr
  refine ret_startX Try.func64 rfl 49 rfl rfl fun a hF => ?_
  refine q_seq ?_
  refine q_region ?_
  refine q_alloc (cs := [nilS.v, nilS.v]) hF hS rfl rfl rfl fun a w b2 hF hS => ?_
  refine q_end (n_sq ?_)
  refine q_seq ?_
  refine q_region ?_
  refine q_x (v := (.pointer (some ⟨b_p_c, 0, none⟩))) hF hS (ex_move rfl) rfl rfl fun a hF => ?_
  have hS : St _ _ _ _ [[⟨b_p_c, [s1.v, (.int .i64 p_c.at_), (.int .u64 p_c.seed.v)], 69⟩], [⟨b2, [nilS.v, nilS.v], 46⟩]] := hS.sel [1, 0] (by decide)
  have hS3 : St _ _ _ _ ([[⟨b_p_c, [s1.v, (.int .i64 p_c.at_), (.int .u64 p_c.seed.v)], 69⟩]] ++ [[⟨b2, [nilS.v, nilS.v], 46⟩]]) := hS
  have hE3 := hS3.enter
  obtain ⟨t_4, ht_4, hr⟩ := bindS hr
  refine q_do rfl fun _ hK => wp_callX (vs := [(.pointer (some ⟨b_p_c, 0, none⟩))]) hF Try.func55 (by kernel_rfl) rfl rfl rfl (c_spec_l1Cur_sizes p_c t_4 ht_4 _ m b_p_c s1 h1 _ hE3) fun a w _ hR hF => hK _ _ ?_
  obtain ⟨m3', s5, rfl, hm3, hR3, h5, hk6⟩ := hR
  have hS : St _ _ _ _ [[⟨b_p_c, [s1.v, (.int .i64 t_4.2.at_), (.int .u64 t_4.2.seed.v)], 69⟩], [⟨b2, [nilS.v, nilS.v], 46⟩]] := hS3.leave hR3 hm3
  have hm3 := MLe.weakX hS3 hm3
  have h6 : Rd m3' s1 t_4.2.code := by rw [hk6]; exact (h1.mono hm3.le)
  refine q_x (v := s5.v) hF hS (ex_assign rfl) rfl rfl fun a hF => ?_
  refine q_end (n_sq ?_)
  refine q_seq ?_
  refine q_seq ?_
  refine q_region ?_
  refine q_x (v := s5.v) hF hS (ex_move rfl) rfl rfl fun a hF => ?_
  obtain ⟨t_7, ht_7, hr⟩ := bindS hr
  refine q_call (vs := [s5.v]) hF hS Try.func59 (by kernel_rfl) rfl rfl rfl (c_spec_cbCount t_4.1 t_7 ht_7 _ m3' hS.vis s5 h5) ?_
  rintro a w _ rfl hF hS
  refine q_x (v := (.bool (t_7 == 0))) hF hS (ex_ibin rfl rfl rfl) rfl rfl fun a hF => ?_
  refine q_end (n_sq ?_)
  rcases bcase (t_7 == 0) with hc1 | hc1
  · have hr := cond_f hc1 hr
    refine q_cond_f hF rfl hc1 ?_
    refine q_skipc (n_sq ?_)
    refine q_seq ?_
    refine q_region ?_
    refine q_x (v := s5.v) hF hS (ex_move rfl) rfl rfl fun a hF => ?_
    refine q_x (v := (.pointer (some ⟨b_p_c, 0, none⟩))) hF hS (ex_move rfl) rfl rfl fun a hF => ?_
    refine q_x (v := s5.v) hF hS (ex_move rfl) rfl rfl fun a hF => ?_
    have hS8 : St _ _ _ _ ([[⟨b_p_c, [s1.v, (.int .i64 t_4.2.at_), (.int .u64 t_4.2.seed.v)], 69⟩]] ++ [[⟨b2, [nilS.v, nilS.v], 46⟩]]) := hS
    have hE8 := hS8.enter
    obtain ⟨t_9, ht_9, hr⟩ := bindS hr
    refine q_do rfl fun _ hK => wp_callX (vs := [(.pointer (some ⟨b_p_c, 0, none⟩)), s5.v]) hF Try.func56 (by kernel_rfl) rfl rfl rfl (c_spec_l1Cur_baseCells t_4.2 t_4.1 t_9 ht_9 _ m3' b_p_c s1 h6 s5 h5 _ hE8) fun a w _ hR hF => hK _ _ ?_
    obtain ⟨q10, s10, rfl, hR8, h10, hk11⟩ := hR
    have hS : St _ _ _ _ [[⟨b_p_c, [s1.v, (.int .i64 t_9.2.at_), (.int .u64 t_9.2.seed.v)], 69⟩], q10, [⟨b2, [nilS.v, nilS.v], 46⟩]] := hS8.leaveF hR8
    have h11 : Rd m3' s1 t_9.2.code := by rw [hk11]; exact h6
    obtain ⟨m13, hl13, hv13, hz13⟩ := hS.lend
    obtain ⟨t_12, ht_12, hr⟩ := bindS hr
    refine q_call (vs := [s5.v, s10.v]) hF hS Try.func63 (by kernel_rfl) rfl rfl rfl (c_spec_cbOf t_4.1 t_9.1 t_12 ht_12 _ m13 hv13 s5 (h5.mono hl13) s10 (h10.froz hl13 (hz13 1 _ rfl))) ?_
    rintro a w _ ⟨q15, q16, s15, s16, rfl, hR14, h15, h16⟩ hF hS2
    have hS : St _ _ _ _ [q15, q16, [⟨b_p_c, [s1.v, (.int .i64 t_9.2.at_), (.int .u64 t_9.2.seed.v)], 69⟩], q10, [⟨b2, [nilS.v, nilS.v], 46⟩]] := hS.joinF hR14
    have h15 := h15.any m3'
    have h16 := h16.any m3'
    refine q_alloc (cs := [nilS.v, nilS.v]) hF hS rfl rfl rfl fun a w b17 hF hS => ?_
    refine q_store (vs := [s15.v, s16.v]) (cs' := [s15.v, s16.v]) 0 0 hF hS sz46 rfl rfl rfl rfl rfl rfl rfl rfl fun a w hF hS => ?_
    refine q_end (n_sq ?_)
    refine q_seq ?_
    refine q_seq ?_
    refine q_region ?_
    refine q_x (v := (.pointer (some ⟨b_p_c, 0, none⟩))) hF hS (ex_move rfl) rfl rfl fun a hF => ?_
    have hS : St _ _ _ _ [[⟨b_p_c, [s1.v, (.int .i64 t_9.2.at_), (.int .u64 t_9.2.seed.v)], 69⟩], [⟨b17, [s15.v, s16.v], 46⟩], q15, q16, q10, [⟨b2, [nilS.v, nilS.v], 46⟩]] := hS.sel [3, 0, 1, 2, 4, 5] (by decide)
    have hS18 : St _ _ _ _ ([[⟨b_p_c, [s1.v, (.int .i64 t_9.2.at_), (.int .u64 t_9.2.seed.v)], 69⟩]] ++ [[⟨b17, [s15.v, s16.v], 46⟩], q15, q16, q10, [⟨b2, [nilS.v, nilS.v], 46⟩]]) := hS
    have hE18 := hS18.enter
    obtain ⟨t_19, ht_19, hr⟩ := bindS hr
    refine q_do rfl fun _ hK => wp_callX (vs := [(.pointer (some ⟨b_p_c, 0, none⟩)), (.int .i64 16)]) hF Try.func41 (by kernel_rfl) rfl rfl rfl (c_spec_l1Cur_pick t_9.2 16 t_19 ht_19 _ m3' b_p_c s1 h11 _ hE18) fun a w _ hR hF => hK _ _ ?_
    obtain ⟨rfl, hR18, hk20⟩ := hR
    have hS : St _ _ _ _ [[⟨b_p_c, [s1.v, (.int .i64 t_19.2.at_), (.int .u64 t_19.2.seed.v)], 69⟩], [⟨b17, [s15.v, s16.v], 46⟩], q15, q16, q10, [⟨b2, [nilS.v, nilS.v], 46⟩]] := hS18.leaveF hR18
    have h20 : Rd m3' s1 t_19.2.code := by rw [hk20]; exact h11
    refine q_end (n_sq ?_)
    refine q_block ?_
    refine q_seq ?_
    refine q_region ?_
    refine q_x (v := (.bool (t_19.1 == 0))) hF hS (ex_ibin rfl rfl rfl) rfl rfl fun a hF => ?_
    refine q_x (v := (.bool (t_19.1 == 0))) hF hS (ex_assign rfl) rfl rfl fun a hF => ?_
    refine q_end (n_sq ?_)
    obtain ⟨j2, hj2, hr⟩ := bindS hr
    refine q_join (fun a w => ∃ (q59 : Piece), ∃ (s59 : Sl), ∃ p_c_55, ∃ x_57, j2 = (p_c_55, x_57) ∧ Fr a 49 [(2, (.pointer (some ⟨b2, 0, none⟩))), (4, (.pointer (some ⟨b17, 0, none⟩)))] ∧ St X w0 w m3' [q15, q59, [⟨b_p_c, [s1.v, (.int .i64 p_c_55.at_), (.int .u64 p_c_55.seed.v)], 69⟩], [⟨b17, [s15.v, s59.v], 46⟩], [⟨b2, [nilS.v, nilS.v], 46⟩]] ∧ Rd m3' s1 p_c_55.code ∧ p_c_55.code = p_c.code ∧ OwnL m3' 3 q15 s15 x_57.Sizes ∧ OwnL m3' 3 q59 s59 x_57.Cells) ?_ ?_
    · rcases bcase (t_19.1 == 0) with hc3 | hc3
      · have hj2 := cond_f hc3 hj2
        refine q_cond_f hF rfl hc3 ?_
        refine q_seq ?_
        refine q_region ?_
        refine q_x (v := (.bool (t_19.1 == 1))) hF hS (ex_ibin rfl rfl rfl) rfl rfl fun a hF => ?_
        refine q_x (v := (.bool (t_19.1 == 1))) hF hS (ex_assign rfl) rfl rfl fun a hF => ?_
        refine q_end (n_sq ?_)
        obtain ⟨j4, hj4, hj2⟩ := bindS hj2
        refine q_join (fun a w => ∃ (q46 : Piece), ∃ (s46 : Sl), ∃ p_c_42, ∃ x_44, j4 = (p_c_42, x_44) ∧ Fr a 49 [(2, (.pointer (some ⟨b2, 0, none⟩))), (4, (.pointer (some ⟨b17, 0, none⟩)))] ∧ St X w0 w m3' [q15, q46, [⟨b_p_c, [s1.v, (.int .i64 p_c_42.at_), (.int .u64 p_c_42.seed.v)], 69⟩], [⟨b17, [s15.v, s46.v], 46⟩], [⟨b2, [nilS.v, nilS.v], 46⟩]] ∧ Rd m3' s1 p_c_42.code ∧ p_c_42.code = p_c.code ∧ OwnL m3' 3 q15 s15 x_44.Sizes ∧ OwnL m3' 3 q46 s46 x_44.Cells) ?_ ?_
        · rcases bcase (t_19.1 == 1) with hc5 | hc5
          · have hj4 := cond_f hc5 hj4
            refine q_cond_f hF rfl hc5 ?_
            refine q_seq ?_
            refine q_region ?_
            refine q_x (v := (.bool (t_19.1 == 2))) hF hS (ex_ibin rfl rfl rfl) rfl rfl fun a hF => ?_
            refine q_x (v := (.bool (t_19.1 == 2))) hF hS (ex_assign rfl) rfl rfl fun a hF => ?_
            refine q_end (n_sq ?_)
            obtain ⟨j6, hj6, hj4⟩ := bindS hj4
            refine q_join (fun a w => ∃ (q38 : Piece), ∃ p_c_34, ∃ x_36, j6 = (p_c_34, x_36) ∧ Fr a 49 [(2, (.pointer (some ⟨b2, 0, none⟩))), (4, (.pointer (some ⟨b17, 0, none⟩)))] ∧ St X w0 w m3' [q15, q38, [⟨b_p_c, [s1.v, (.int .i64 p_c_34.at_), (.int .u64 p_c_34.seed.v)], 69⟩], [⟨b17, [s15.v, s16.v], 46⟩], [⟨b2, [nilS.v, nilS.v], 46⟩]] ∧ Rd m3' s1 p_c_34.code ∧ p_c_34.code = p_c.code ∧ OwnL m3' 3 q15 s15 x_36.Sizes ∧ OwnL m3' 3 q38 s16 x_36.Cells) ?_ ?_
            · rcases bcase (t_19.1 == 2) with hc7 | hc7
              · have hj6 := cond_f hc7 hj6
                refine q_cond_f hF rfl hc7 ?_
                refine q_skipc (n_jn ?_)
                obtain rfl := someI hj6
                exact ⟨q16, _, _, rfl, hF.sub ⟨rfl, rfl, trivial⟩, hS.sel [2, 3, 0, 1, 5] (by decide), h20, (hk20.trans (hk11.trans hk6)), h15, h16⟩
              · have hj6 := cond_t hc7 hj6
                refine q_cond_t hF rfl hc7 ?_
                obtain ⟨j8, hj8, hj6⟩ := bindS hj6
                refine q_join (fun a w => ∃ (q33 : Piece), ∃ p_c_29, ∃ x_31, j8 = (p_c_29, x_31) ∧ Fr a 49 [(2, (.pointer (some ⟨b2, 0, none⟩))), (4, (.pointer (some ⟨b17, 0, none⟩)))] ∧ St X w0 w m3' [q15, q33, [⟨b_p_c, [s1.v, (.int .i64 p_c_29.at_), (.int .u64 p_c_29.seed.v)], 69⟩], [⟨b17, [s15.v, s16.v], 46⟩], [⟨b2, [nilS.v, nilS.v], 46⟩]] ∧ Rd m3' s1 p_c_29.code ∧ p_c_29.code = p_c.code ∧ OwnL m3' 3 q15 s15 x_31.Sizes ∧ OwnL m3' 3 q33 s16 x_31.Cells) ?_ ?_
                · refine e_region [4, 6] mixed fun w' hw' => ?_
                  have hS := hS.below hw'
                  refine e_p (v := (.pointer (some ⟨b17, 1, none⟩))) 0 hF rfl (ex_fieldAddr Try.underlying46 rfl sz33 rfl rfl) rfl rfl (by kernel_rfl) (by kernel_rfl) (by kernel_rfl) fun a hF => ?_
                  refine e_p (v := (.pointer (some ⟨b_p_c, 0, none⟩))) 2 hF rfl (ex_move rfl) rfl rfl (by kernel_rfl) (by kernel_rfl) (by kernel_rfl) fun a hF => ?_
                  obtain ⟨t_24, ht_24, hj8⟩ := bindS hj8
                  obtain ⟨e_26, he_26, hj8⟩ := bindS hj8
                  refine e_all [1, 3] (by kernel_rfl) rfl ⟨?_, ?_, trivial⟩
                  · refine e_lx (v := s16.v) hF hS rfl (ex_load1 1 0 Try.underlying33 rfl rfl rfl rfl) rfl rfl fun a hF => ?_
                    refine e_one 3 (by kernel_rfl) ?_
                    refine e_op rfl rfl fun _ hK => wp_buildSlice' (l := ([1000000, 1000001, -1000000] : List Int)) (cells := [(.int .i64 1000000), (.int .i64 1000001), (.int .i64 (-1000000))]) hF hS Try.underlying33 inf3 rfl rfl (by kernel_rfl) rfl rfl rfl ⟨rfl, rfl, rfl, rfl⟩ rfl rfl fun a w q22 s22 hF hS h22 hb => hK _ _ hb ?_
                    refine e_one 4 (by kernel_rfl) ?_
                    have hS : St _ _ _ _ [[⟨b_p_c, [s1.v, (.int .i64 t_19.2.at_), (.int .u64 t_19.2.seed.v)], 69⟩], q22, [⟨b17, [s15.v, s16.v], 46⟩], q15, q16, q10, [⟨b2, [nilS.v, nilS.v], 46⟩]] := hS.sel [1, 0, 2, 3, 4, 5, 6] (by decide)
                    have hS23 : St _ _ _ _ ([[⟨b_p_c, [s1.v, (.int .i64 t_19.2.at_), (.int .u64 t_19.2.seed.v)], 69⟩]] ++ [q22, [⟨b17, [s15.v, s16.v], 46⟩], q15, q16, q10, [⟨b2, [nilS.v, nilS.v], 46⟩]]) := hS
                    obtain ⟨m23, hl23, hE23, hz23⟩ := hS23.lendX
                    refine e_opl rfl rfl rfl fun _ hK => wp_callX (vs := [(.pointer (some ⟨b_p_c, 0, none⟩)), s22.v]) hF Try.func40 (by kernel_rfl) rfl rfl rfl (c_spec_l1Cur_among t_19.2 ([1000000, 1000001, -1000000] : List Int) t_24 ht_24 _ m23 b_p_c s1 (h20.mono hl23) s22 (h22.froz hl23 (hz23 0 _ rfl)) _ hE23) fun a w _ hR hF => hK _ _ ?_
                    obtain ⟨rfl, hR23, hk25⟩ := hR
                    have hS : St _ _ _ _ [[⟨b_p_c, [s1.v, (.int .i64 t_24.2.at_), (.int .u64 t_24.2.seed.v)], 69⟩], q22, [⟨b17, [s15.v, s16.v], 46⟩], q15, q16, q10, [⟨b2, [nilS.v, nilS.v], 46⟩]] := hS23.leaveF hR23
                    have h25 : Rd m3' s1 t_24.2.code := by rw [hk25]; exact h20
                    obtain ⟨vs27, at27, d27⟩ := h16.at he_26 1 rfl
                    obtain rfl : vs27 = [(.int .i64 e_26)] := d27
                    refine e_p (v := (elP s16 ((0 : Int).toNat * 1))) 5 hF rfl (ex_indexAddr Try.underlying33 sz3 rfl rfl (h16.idx he_26)) rfl rfl (by kernel_rfl) (by kernel_rfl) (by kernel_rfl) fun a hF => ?_
                    refine e_one 6 (by kernel_rfl) ?_
                    have hS : St _ _ _ _ [q16, [⟨b_p_c, [s1.v, (.int .i64 t_24.2.at_), (.int .u64 t_24.2.seed.v)], 69⟩], q22, [⟨b17, [s15.v, s16.v], 46⟩], q15, q10, [⟨b2, [nilS.v, nilS.v], 46⟩]] := hS.sel [4, 0, 1, 2, 3, 5, 6] (by decide)
                    refine e_opl rfl rfl rfl fun _ hK => wp_storeE (e' := t_24.1) (us := [(.int .i64 t_24.1)]) (vs := [(.int .i64 e_26)]) 0 hF hS h16 sz3 rfl rfl rfl rfl rfl rfl rfl he_26 at27 rfl rfl rfl fun w q28 hS h28 => hK _ _ ?_
                    refine e_end (by kernel_rfl) (n_jn ?_) _
                    obtain rfl := someI hj8
                    exact ⟨q28, _, _, rfl, hF.sub ⟨rfl, rfl, trivial⟩, hS.sel [4, 0, 1, 3, 6] (by decide), h25, (hk25.trans (hk20.trans (hk11.trans hk6))), h15, h28⟩
                  · refine e_op rfl rfl fun _ hK => wp_buildSlice' (l := ([1000000, 1000001, -1000000] : List Int)) (cells := [(.int .i64 1000000), (.int .i64 1000001), (.int .i64 (-1000000))]) hF hS Try.underlying33 inf3 rfl rfl (by kernel_rfl) rfl rfl rfl ⟨rfl, rfl, rfl, rfl⟩ rfl rfl fun a w q22 s22 hF hS h22 hb => hK _ _ hb ?_
                    refine e_all [1, 4] (by kernel_rfl) rfl ⟨?_, ?_, trivial⟩
                    · refine e_lx (v := s16.v) hF hS rfl (ex_load1 2 0 Try.underlying33 rfl rfl rfl rfl) rfl rfl fun a hF => ?_
                      refine e_one 4 (by kernel_rfl) ?_
                      have hS : St _ _ _ _ [[⟨b_p_c, [s1.v, (.int .i64 t_19.2.at_), (.int .u64 t_19.2.seed.v)], 69⟩], q22, [⟨b17, [s15.v, s16.v], 46⟩], q15, q16, q10, [⟨b2, [nilS.v, nilS.v], 46⟩]] := hS.sel [1, 0, 2, 3, 4, 5, 6] (by decide)
                      have hS23 : St _ _ _ _ ([[⟨b_p_c, [s1.v, (.int .i64 t_19.2.at_), (.int .u64 t_19.2.seed.v)], 69⟩]] ++ [q22, [⟨b17, [s15.v, s16.v], 46⟩], q15, q16, q10, [⟨b2, [nilS.v, nilS.v], 46⟩]]) := hS
                      obtain ⟨m23, hl23, hE23, hz23⟩ := hS23.lendX
                      refine e_opl rfl rfl rfl fun _ hK => wp_callX (vs := [(.pointer (some ⟨b_p_c, 0, none⟩)), s22.v]) hF Try.func40 (by kernel_rfl) rfl rfl rfl (c_spec_l1Cur_among t_19.2 ([1000000, 1000001, -1000000] : List Int) t_24 ht_24 _ m23 b_p_c s1 (h20.mono hl23) s22 (h22.froz hl23 (hz23 0 _ rfl)) _ hE23) fun a w _ hR hF => hK _ _ ?_
                      obtain ⟨rfl, hR23, hk25⟩ := hR
                      have hS : St _ _ _ _ [[⟨b_p_c, [s1.v, (.int .i64 t_24.2.at_), (.int .u64 t_24.2.seed.v)], 69⟩], q22, [⟨b17, [s15.v, s16.v], 46⟩], q15, q16, q10, [⟨b2, [nilS.v, nilS.v], 46⟩]] := hS23.leaveF hR23
                      have h25 : Rd m3' s1 t_24.2.code := by rw [hk25]; exact h20
                      obtain ⟨vs27, at27, d27⟩ := h16.at he_26 1 rfl
                      obtain rfl : vs27 = [(.int .i64 e_26)] := d27
                      refine e_p (v := (elP s16 ((0 : Int).toNat * 1))) 5 hF rfl (ex_indexAddr Try.underlying33 sz3 rfl rfl (h16.idx he_26)) rfl rfl (by kernel_rfl) (by kernel_rfl) (by kernel_rfl) fun a hF => ?_
                      refine e_one 6 (by kernel_rfl) ?_
                      have hS : St _ _ _ _ [q16, [⟨b_p_c, [s1.v, (.int .i64 t_24.2.at_), (.int .u64 t_24.2.seed.v)], 69⟩], q22, [⟨b17, [s15.v, s16.v], 46⟩], q15, q10, [⟨b2, [nilS.v, nilS.v], 46⟩]] := hS.sel [4, 0, 1, 2, 3, 5, 6] (by decide)
                      refine e_opl rfl rfl rfl fun _ hK => wp_storeE (e' := t_24.1) (us := [(.int .i64 t_24.1)]) (vs := [(.int .i64 e_26)]) 0 hF hS h16 sz3 rfl rfl rfl rfl rfl rfl rfl he_26 at27 rfl rfl rfl fun w q28 hS h28 => hK _ _ ?_
                      refine e_end (by kernel_rfl) (n_jn ?_) _
                      obtain rfl := someI hj8
                      exact ⟨q28, _, _, rfl, hF.sub ⟨rfl, rfl, trivial⟩, hS.sel [4, 0, 1, 3, 6] (by decide), h25, (hk25.trans (hk20.trans (hk11.trans hk6))), h15, h28⟩
                    · have hS : St _ _ _ _ [[⟨b_p_c, [s1.v, (.int .i64 t_19.2.at_), (.int .u64 t_19.2.seed.v)], 69⟩], q22, [⟨b17, [s15.v, s16.v], 46⟩], q15, q16, q10, [⟨b2, [nilS.v, nilS.v], 46⟩]] := hS.sel [1, 0, 2, 3, 4, 5, 6] (by decide)
                      have hS23 : St _ _ _ _ ([[⟨b_p_c, [s1.v, (.int .i64 t_19.2.at_), (.int .u64 t_19.2.seed.v)], 69⟩]] ++ [q22, [⟨b17, [s15.v, s16.v], 46⟩], q15, q16, q10, [⟨b2, [nilS.v, nilS.v], 46⟩]]) := hS
                      obtain ⟨m23, hl23, hE23, hz23⟩ := hS23.lendX
                      refine e_opl rfl rfl rfl fun _ hK => wp_callX (vs := [(.pointer (some ⟨b_p_c, 0, none⟩)), s22.v]) hF Try.func40 (by kernel_rfl) rfl rfl rfl (c_spec_l1Cur_among t_19.2 ([1000000, 1000001, -1000000] : List Int) t_24 ht_24 _ m23 b_p_c s1 (h20.mono hl23) s22 (h22.froz hl23 (hz23 0 _ rfl)) _ hE23) fun a w _ hR hF => hK _ _ ?_
                      obtain ⟨rfl, hR23, hk25⟩ := hR
                      have hS : St _ _ _ _ [[⟨b_p_c, [s1.v, (.int .i64 t_24.2.at_), (.int .u64 t_24.2.seed.v)], 69⟩], q22, [⟨b17, [s15.v, s16.v], 46⟩], q15, q16, q10, [⟨b2, [nilS.v, nilS.v], 46⟩]] := hS23.leaveF hR23
                      have h25 : Rd m3' s1 t_24.2.code := by rw [hk25]; exact h20
                      refine e_x (v := s16.v) 1 hF hS rfl (ex_load1 2 0 Try.underlying33 rfl rfl rfl rfl) rfl rfl (by kernel_rfl) (by kernel_rfl) (by kernel_rfl) (by kernel_rfl) fun a hF => ?_
                      obtain ⟨vs27, at27, d27⟩ := h16.at he_26 1 rfl
                      obtain rfl : vs27 = [(.int .i64 e_26)] := d27
                      refine e_p (v := (elP s16 ((0 : Int).toNat * 1))) 5 hF rfl (ex_indexAddr Try.underlying33 sz3 rfl rfl (h16.idx he_26)) rfl rfl (by kernel_rfl) (by kernel_rfl) (by kernel_rfl) fun a hF => ?_
                      refine e_one 6 (by kernel_rfl) ?_
                      have hS : St _ _ _ _ [q16, [⟨b_p_c, [s1.v, (.int .i64 t_24.2.at_), (.int .u64 t_24.2.seed.v)], 69⟩], q22, [⟨b17, [s15.v, s16.v], 46⟩], q15, q10, [⟨b2, [nilS.v, nilS.v], 46⟩]] := hS.sel [4, 0, 1, 2, 3, 5, 6] (by decide)
                      refine e_opl rfl rfl rfl fun _ hK => wp_storeE (e' := t_24.1) (us := [(.int .i64 t_24.1)]) (vs := [(.int .i64 e_26)]) 0 hF hS h16 sz3 rfl rfl rfl rfl rfl rfl rfl he_26 at27 rfl rfl rfl fun w q28 hS h28 => hK _ _ ?_
                      refine e_end (by kernel_rfl) (n_jn ?_) _
                      obtain rfl := someI hj8
                      exact ⟨q28, _, _, rfl, hF.sub ⟨rfl, rfl, trivial⟩, hS.sel [4, 0, 1, 3, 6] (by decide), h25, (hk25.trans (hk20.trans (hk11.trans hk6))), h15, h28⟩
                · rintro a w ⟨q33, p_c_29, x_31, rfl, hF, hS, h30, h30k, h32, h33⟩
                  refine n_jn ?_
                  obtain rfl := someI hj6
                  exact ⟨q33, _, _, rfl, hF.sub ⟨rfl, rfl, trivial⟩, hS, h30, h30k, h32, h33⟩
            · rintro a w ⟨q38, p_c_34, x_36, rfl, hF, hS, h35, h35k, h37, h38⟩
              refine n_jn ?_
              obtain rfl := someI hj4
              exact ⟨q38, s16, _, _, rfl, hF.sub ⟨rfl, rfl, trivial⟩, hS, h35, h35k, h37, h38⟩
          · have hj4 := cond_t hc5 hj4
            refine q_cond_t hF rfl hc5 ?_
            refine q_region ?_
            refine q_x (v := (.pointer (some ⟨b17, 1, none⟩))) hF hS (ex_fieldAddr Try.underlying46 rfl sz33 rfl rfl) rfl rfl fun a hF => ?_
            refine q_x (v := s16.v) hF hS (ex_load1 1 0 Try.underlying33 rfl rfl rfl rfl) rfl rfl fun a hF => ?_
            refine q_do rfl fun _ hK => wp_buildSlice' (l := ([0] : List Int)) (cells := [(.int .i64 0)]) hF hS Try.underlying33 inf3 rfl rfl (by kernel_rfl) rfl rfl rfl ⟨rfl, rfl⟩ rfl rfl fun a w q39 s39 hF hS h39 _ => hK _ _ ?_
            have hS : St _ _ _ _ [q16, q39, [⟨b_p_c, [s1.v, (.int .i64 t_19.2.at_), (.int .u64 t_19.2.seed.v)], 69⟩], [⟨b17, [s15.v, s16.v], 46⟩], q15, q10, [⟨b2, [nilS.v, nilS.v], 46⟩]] := hS.sel [4, 0, 1, 2, 3, 5, 6] (by decide)
            obtain ⟨l_40, hl_40, hj4⟩ := bindS hj4
            refine q_do rfl fun _ hK => wp_append hF hS h16 Try.underlying33 inf3 rfl rfl rfl rfl (h39.vw hS (j := 1) rfl) rfl (by decide) hl_40 rfl fun a w q41 s41 hF hS h41 => hK _ _ ?_
            refine q_x (v := (.pointer (some ⟨b17, 1, none⟩))) hF hS (ex_fieldAddr Try.underlying46 rfl sz33 rfl rfl) rfl rfl fun a hF => ?_
            refine q_store (vs := [s41.v]) (cs' := [s15.v, s41.v]) 3 0 hF hS sz33 rfl rfl rfl rfl rfl rfl rfl rfl fun a w hF hS => ?_
            refine q_end (n_jn ?_)
            obtain rfl := someI hj4
            exact ⟨q41, s41, _, _, rfl, hF.sub ⟨rfl, rfl, trivial⟩, hS.sel [4, 0, 2, 3, 6] (by decide), h20, (hk20.trans (hk11.trans hk6)), h15, h41⟩
        · rintro a w ⟨q46, s46, p_c_42, x_44, rfl, hF, hS, h43, h43k, h45, h46⟩
          refine n_jn ?_
          obtain rfl := someI hj2
          exact ⟨q46, s46, _, _, rfl, hF.sub ⟨rfl, rfl, trivial⟩, hS, h43, h43k, h45, h46⟩
      · have hj2 := cond_t hc3 hj2
        refine q_cond_t hF rfl hc3 ?_
        refine e_region [6, 11] mixed fun w' hw' => ?_
        have hS := hS.below hw'
        refine e_p (v := (.pointer (some ⟨b17, 1, none⟩))) 0 hF rfl (ex_fieldAddr Try.underlying46 rfl sz33 rfl rfl) rfl rfl (by kernel_rfl) (by kernel_rfl) (by kernel_rfl) fun a hF => ?_
        refine e_p (v := (.pointer (some ⟨b_p_c, 0, none⟩))) 2 hF rfl (ex_move rfl) rfl rfl (by kernel_rfl) (by kernel_rfl) (by kernel_rfl) fun a hF => ?_
        refine e_p (v := (.pointer (some ⟨b17, 1, none⟩))) 3 hF rfl (ex_fieldAddr Try.underlying46 rfl sz33 rfl rfl) rfl rfl (by kernel_rfl) (by kernel_rfl) (by kernel_rfl) fun a hF => ?_
        obtain ⟨t_48, ht_48, hj2⟩ := bindS hj2
        obtain ⟨e_50, he_50, hj2⟩ := bindS hj2
        obtain ⟨e_52, he_52, hj2⟩ := bindS hj2
        refine e_all [1, 4] (by kernel_rfl) rfl ⟨?_, ?_, trivial⟩
        · refine e_lx (v := s16.v) hF hS rfl (ex_load1 1 0 Try.underlying33 rfl rfl rfl rfl) rfl rfl fun a hF => ?_
          refine e_one 4 (by kernel_rfl) ?_
          refine e_lx (v := s16.v) hF hS rfl (ex_load1 1 0 Try.underlying33 rfl rfl rfl rfl) rfl rfl fun a hF => ?_
          refine e_p (v := (.int .i64 (goLen t_12.Cells))) 5 hF rfl (ex_len Try.underlying33 rfl h16.len) rfl rfl (by kernel_rfl) (by kernel_rfl) (by kernel_rfl) fun a hF => ?_
          refine e_one 6 (by kernel_rfl) ?_
          have hS47 : St _ _ _ _ ([[⟨b_p_c, [s1.v, (.int .i64 t_19.2.at_), (.int .u64 t_19.2.seed.v)], 69⟩]] ++ [[⟨b17, [s15.v, s16.v], 46⟩], q15, q16, q10, [⟨b2, [nilS.v, nilS.v], 46⟩]]) := hS
          have hE47 := hS47.enter
          refine e_opl rfl rfl rfl fun _ hK => wp_callX (vs := [(.pointer (some ⟨b_p_c, 0, none⟩)), (.int .i64 (goLen t_12.Cells))]) hF Try.func41 (by kernel_rfl) rfl rfl rfl (c_spec_l1Cur_pick t_19.2 (goLen t_12.Cells) t_48 ht_48 _ m3' b_p_c s1 h20 _ hE47) fun a w _ hR hF => hK _ _ ?_
          obtain ⟨rfl, hR47, hk49⟩ := hR
          have hS : St _ _ _ _ [[⟨b_p_c, [s1.v, (.int .i64 t_48.2.at_), (.int .u64 t_48.2.seed.v)], 69⟩], [⟨b17, [s15.v, s16.v], 46⟩], q15, q16, q10, [⟨b2, [nilS.v, nilS.v], 46⟩]] := hS47.leaveF hR47
          have h49 : Rd m3' s1 t_48.2.code := by rw [hk49]; exact h20
          obtain ⟨vs51, at51, d51⟩ := h16.at he_50 1 rfl
          obtain rfl : vs51 = [(.int .i64 e_50)] := d51
          refine e_p (v := (elP s16 (t_48.1.toNat * 1))) 7 hF rfl (ex_indexAddr Try.underlying33 sz3 rfl rfl (h16.idx he_50)) rfl rfl (by kernel_rfl) (by kernel_rfl) (by kernel_rfl) fun a hF => ?_
          refine e_x (v := (.int .i64 e_50)) 8 hF hS rfl (ex_loadE1 0 Try.underlying3 rfl rfl (at51.at 3 rfl) rfl rfl) rfl rfl (by kernel_rfl) (by kernel_rfl) (by kernel_rfl) (by kernel_rfl) fun a hF => ?_
          refine e_p (v := (.int .i64 (w64 (e_50 + 1)))) 9 hF rfl (ex_ibin rfl rfl rfl) rfl rfl (by kernel_rfl) (by kernel_rfl) (by kernel_rfl) fun a hF => ?_
          obtain ⟨vs53, at53, d53⟩ := h16.at he_52 1 rfl
          obtain rfl : vs53 = [(.int .i64 e_52)] := d53
          refine e_p (v := (elP s16 (t_48.1.toNat * 1))) 10 hF rfl (ex_indexAddr Try.underlying33 sz3 rfl rfl (h16.idx he_52)) rfl rfl (by kernel_rfl) (by kernel_rfl) (by kernel_rfl) fun a hF => ?_
          refine e_one 11 (by kernel_rfl) ?_
          have hS : St _ _ _ _ [q16, [⟨b_p_c, [s1.v, (.int .i64 t_48.2.at_), (.int .u64 t_48.2.seed.v)], 69⟩], [⟨b17, [s15.v, s16.v], 46⟩], q15, q10, [⟨b2, [nilS.v, nilS.v], 46⟩]] := hS.sel [3, 0, 1, 2, 4, 5] (by decide)
          refine e_opl rfl rfl rfl fun _ hK => wp_storeE (e' := (w64 (e_50 + 1))) (us := [(.int .i64 (w64 (e_50 + 1)))]) (vs := [(.int .i64 e_52)]) 0 hF hS h16 sz3 rfl rfl rfl rfl rfl rfl rfl he_52 at53 rfl rfl rfl fun w q54 hS h54 => hK _ _ ?_
          refine e_end (by kernel_rfl) (n_jn ?_) _
          obtain rfl := someI hj2
          exact ⟨q54, s16, _, _, rfl, hF.sub ⟨rfl, rfl, trivial⟩, hS.sel [3, 0, 1, 2, 5] (by decide), h49, (hk49.trans (hk20.trans (hk11.trans hk6))), h15, h54⟩
        · refine e_lx (v := s16.v) hF hS rfl (ex_load1 1 0 Try.underlying33 rfl rfl rfl rfl) rfl rfl fun a hF => ?_
          refine e_p (v := (.int .i64 (goLen t_12.Cells))) 5 hF rfl (ex_len Try.underlying33 rfl h16.len) rfl rfl (by kernel_rfl) (by kernel_rfl) (by kernel_rfl) fun a hF => ?_
          refine e_all [1, 6] (by kernel_rfl) rfl ⟨?_, ?_, trivial⟩
          · refine e_lx (v := s16.v) hF hS rfl (ex_load1 1 0 Try.underlying33 rfl rfl rfl rfl) rfl rfl fun a hF => ?_
            refine e_one 6 (by kernel_rfl) ?_
            have hS47 : St _ _ _ _ ([[⟨b_p_c, [s1.v, (.int .i64 t_19.2.at_), (.int .u64 t_19.2.seed.v)], 69⟩]] ++ [[⟨b17, [s15.v, s16.v], 46⟩], q15, q16, q10, [⟨b2, [nilS.v, nilS.v], 46⟩]]) := hS
            have hE47 := hS47.enter
            refine e_opl rfl rfl rfl fun _ hK => wp_callX (vs := [(.pointer (some ⟨b_p_c, 0, none⟩)), (.int .i64 (goLen t_12.Cells))]) hF Try.func41 (by kernel_rfl) rfl rfl rfl (c_spec_l1Cur_pick t_19.2 (goLen t_12.Cells) t_48 ht_48 _ m3' b_p_c s1 h20 _ hE47) fun a w _ hR hF => hK _ _ ?_
            obtain ⟨rfl, hR47, hk49⟩ := hR
            have hS : St _ _ _ _ [[⟨b_p_c, [s1.v, (.int .i64 t_48.2.at_), (.int .u64 t_48.2.seed.v)], 69⟩], [⟨b17, [s15.v, s16.v], 46⟩], q15, q16, q10, [⟨b2, [nilS.v, nilS.v], 46⟩]] := hS47.leaveF hR47
            have h49 : Rd m3' s1 t_48.2.code := by rw [hk49]; exact h20
            obtain ⟨vs51, at51, d51⟩ := h16.at he_50 1 rfl
            obtain rfl : vs51 = [(.int .i64 e_50)] := d51
            refine e_p (v := (elP s16 (t_48.1.toNat * 1))) 7 hF rfl (ex_indexAddr Try.underlying33 sz3 rfl rfl (h16.idx he_50)) rfl rfl (by kernel_rfl) (by kernel_rfl) (by kernel_rfl) fun a hF => ?_
            refine e_x (v := (.int .i64 e_50)) 8 hF hS rfl (ex_loadE1 0 Try.underlying3 rfl rfl (at51.at 3 rfl) rfl rfl) rfl rfl (by kernel_rfl) (by kernel_rfl) (by kernel_rfl) (by kernel_rfl) fun a hF => ?_
            refine e_p (v := (.int .i64 (w64 (e_50 + 1)))) 9 hF rfl (ex_ibin rfl rfl rfl) rfl rfl (by kernel_rfl) (by kernel_rfl) (by kernel_rfl) fun a hF => ?_
            obtain ⟨vs53, at53, d53⟩ := h16.at he_52 1 rfl
            obtain rfl : vs53 = [(.int .i64 e_52)] := d53
            refine e_p (v := (elP s16 (t_48.1.toNat * 1))) 10 hF rfl (ex_indexAddr Try.underlying33 sz3 rfl rfl (h16.idx he_52)) rfl rfl (by kernel_rfl) (by kernel_rfl) (by kernel_rfl) fun a hF => ?_
            refine e_one 11 (by kernel_rfl) ?_
            have hS : St _ _ _ _ [q16, [⟨b_p_c, [s1.v, (.int .i64 t_48.2.at_), (.int .u64 t_48.2.seed.v)], 69⟩], [⟨b17, [s15.v, s16.v], 46⟩], q15, q10, [⟨b2, [nilS.v, nilS.v], 46⟩]] := hS.sel [3, 0, 1, 2, 4, 5] (by decide)
            refine e_opl rfl rfl rfl fun _ hK => wp_storeE (e' := (w64 (e_50 + 1))) (us := [(.int .i64 (w64 (e_50 + 1)))]) (vs := [(.int .i64 e_52)]) 0 hF hS h16 sz3 rfl rfl rfl rfl rfl rfl rfl he_52 at53 rfl rfl rfl fun w q54 hS h54 => hK _ _ ?_
            refine e_end (by kernel_rfl) (n_jn ?_) _
            obtain rfl := someI hj2
            exact ⟨q54, s16, _, _, rfl, hF.sub ⟨rfl, rfl, trivial⟩, hS.sel [3, 0, 1, 2, 5] (by decide), h49, (hk49.trans (hk20.trans (hk11.trans hk6))), h15, h54⟩
          · have hS47 : St _ _ _ _ ([[⟨b_p_c, [s1.v, (.int .i64 t_19.2.at_), (.int .u64 t_19.2.seed.v)], 69⟩]] ++ [[⟨b17, [s15.v, s16.v], 46⟩], q15, q16, q10, [⟨b2, [nilS.v, nilS.v], 46⟩]]) := hS
            have hE47 := hS47.enter
            refine e_opl rfl rfl rfl fun _ hK => wp_callX (vs := [(.pointer (some ⟨b_p_c, 0, none⟩)), (.int .i64 (goLen t_12.Cells))]) hF Try.func41 (by kernel_rfl) rfl rfl rfl (c_spec_l1Cur_pick t_19.2 (goLen t_12.Cells) t_48 ht_48 _ m3' b_p_c s1 h20 _ hE47) fun a w _ hR hF => hK _ _ ?_
            obtain ⟨rfl, hR47, hk49⟩ := hR
            have hS : St _ _ _ _ [[⟨b_p_c, [s1.v, (.int .i64 t_48.2.at_), (.int .u64 t_48.2.seed.v)], 69⟩], [⟨b17, [s15.v, s16.v], 46⟩], q15, q16, q10, [⟨b2, [nilS.v, nilS.v], 46⟩]] := hS47.leaveF hR47
            have h49 : Rd m3' s1 t_48.2.code := by rw [hk49]; exact h20
            refine e_x (v := s16.v) 1 hF hS rfl (ex_load1 1 0 Try.underlying33 rfl rfl rfl rfl) rfl rfl (by kernel_rfl) (by kernel_rfl) (by kernel_rfl) (by kernel_rfl) fun a hF => ?_
            obtain ⟨vs51, at51, d51⟩ := h16.at he_50 1 rfl
            obtain rfl : vs51 = [(.int .i64 e_50)] := d51
            refine e_p (v := (elP s16 (t_48.1.toNat * 1))) 7 hF rfl (ex_indexAddr Try.underlying33 sz3 rfl rfl (h16.idx he_50)) rfl rfl (by kernel_rfl) (by kernel_rfl) (by kernel_rfl) fun a hF => ?_
            refine e_x (v := (.int .i64 e_50)) 8 hF hS rfl (ex_loadE1 0 Try.underlying3 rfl rfl (at51.at 3 rfl) rfl rfl) rfl rfl (by kernel_rfl) (by kernel_rfl) (by kernel_rfl) (by kernel_rfl) fun a hF => ?_
            refine e_p (v := (.int .i64 (w64 (e_50 + 1)))) 9 hF rfl (ex_ibin rfl rfl rfl) rfl rfl (by kernel_rfl) (by kernel_rfl) (by kernel_rfl) fun a hF => ?_
            obtain ⟨vs53, at53, d53⟩ := h16.at he_52 1 rfl
            obtain rfl : vs53 = [(.int .i64 e_52)] := d53
            refine e_p (v := (elP s16 (t_48.1.toNat * 1))) 10 hF rfl (ex_indexAddr Try.underlying33 sz3 rfl rfl (h16.idx he_52)) rfl rfl (by kernel_rfl) (by kernel_rfl) (by kernel_rfl) fun a hF => ?_
            refine e_one 11 (by kernel_rfl) ?_
            have hS : St _ _ _ _ [q16, [⟨b_p_c, [s1.v, (.int .i64 t_48.2.at_), (.int .u64 t_48.2.seed.v)], 69⟩], [⟨b17, [s15.v, s16.v], 46⟩], q15, q10, [⟨b2, [nilS.v, nilS.v], 46⟩]] := hS.sel [3, 0, 1, 2, 4, 5] (by decide)
            refine e_opl rfl rfl rfl fun _ hK => wp_storeE (e' := (w64 (e_50 + 1))) (us := [(.int .i64 (w64 (e_50 + 1)))]) (vs := [(.int .i64 e_52)]) 0 hF hS h16 sz3 rfl rfl rfl rfl rfl rfl rfl he_52 at53 rfl rfl rfl fun w q54 hS h54 => hK _ _ ?_
            refine e_end (by kernel_rfl) (n_jn ?_) _
            obtain rfl := someI hj2
            exact ⟨q54, s16, _, _, rfl, hF.sub ⟨rfl, rfl, trivial⟩, hS.sel [3, 0, 1, 2, 5] (by decide), h49, (hk49.trans (hk20.trans (hk11.trans hk6))), h15, h54⟩
    · rintro a w ⟨q59, s59, p_c_55, x_57, rfl, hF, hS, h56, h56k, h58, h59⟩
      refine n_ib (n_sq ?_)
      refine q_seq ?_
      refine q_region ?_
      refine q_x (v := (.agg #[s15.v, s59.v])) hF hS (ex_loadA (vs := [s15.v, s59.v]) 3 0 Try.underlying46 rfl sz46 rfl rfl rfl rfl) rfl rfl fun a hF => ?_
      refine q_store (vs := [s15.v, s59.v]) (cs' := [s15.v, s59.v]) 4 0 hF hS sz46 rfl rfl rfl rfl rfl rfl rfl rfl fun a w hF hS => ?_
      refine q_end (n_sq (q_ret ?_))
      obtain rfl := someI hr
      obtain ⟨m60, hm60, hS, hz60⟩ := hS.freeze
      have h60 := h58.froz hm60.le hz60
      exact ret_ofX hF hS rfl (.cellA (us := [s15.v, s59.v]) 3 0 Try.underlying46 rfl sz46 rfl rfl rfl rfl .nil) ⟨m60, q59, s15, s59, rfl, (hm3.trans hm60), hS.sel [1, 0] (by decide), h60, (h59.mono hm60.le), h56k⟩
  · have hr := cond_t hc1 hr
    refine q_cond_t hF rfl hc1 ?_
    refine q_seq ?_
    refine q_region ?_
    refine q_x (v := s5.v) hF hS (ex_move rfl) rfl rfl fun a hF => ?_
    refine q_do rfl fun _ hK => wp_buildSlice' (l := ([1] : List Int)) (cells := [(.int .i64 1)]) hF hS Try.underlying33 inf3 rfl rfl (by kernel_rfl) rfl rfl rfl ⟨rfl, rfl⟩ rfl rfl fun a w q61 s61 hF hS h61 _ => hK _ _ ?_
    refine q_x (v := (.agg #[s5.v, s61.v])) hF hS (ex_build (cells := [s5.v, s61.v]) rfl (by kernel_rfl)) rfl rfl fun a hF => ?_
    refine q_store (vs := [s5.v, s61.v]) (cs' := [s5.v, s61.v]) 2 0 hF hS sz46 rfl rfl rfl rfl rfl rfl rfl rfl fun a w hF hS => ?_
    refine q_end (n_sq (q_ret (r_sq ?_)))
    obtain rfl := someI hr
    exact ret_ofX hF hS rfl (.cellA (us := [s5.v, s61.v]) 2 0 Try.underlying46 rfl sz46 rfl rfl rfl rfl .nil) ⟨m3', q61, s5, s61, rfl, hm3, hS.sel [1, 0] (by decide), h5, h61, hk6⟩

theorem c_spec_DrawSliceOf (p_code : List (K .u8)) (r : impl_Cube × Int × Int) (hr : spec_DrawSliceOf p_code = some r) (w0 : World) (m : Mem) (hv : Vis m w0) (s1 : Sl) (h1 : Rd m s1 p_code) :
    Ret Try.prog 32 [s1.v] w0 (fun v w => ∃ (m' : Mem) (q1' : Piece) (s0' : Sl) (s1' : Sl), v = (.tuple #[(.agg #[s0'.v, s1'.v]), (.int .i64 r.2.1), (.int .i64 r.2.2)]) ∧ MLe [] w0.heap.size m m' ∧ St [] w0 w m' [q1'] ∧ Rd m' s0' r.1.Sizes ∧ OwnL m' 3 q1' s1' r.1.Cells) := by
  unfold spec_DrawSliceOf at hr
  refine ret_start Try.func32 rfl 29 rfl rfl m hv fun a hF hS => ?_
  refine q_seq ?_
  refine q_region ?_
  refine q_alloc (cs := [nilS.v, nilS.v]) hF hS rfl rfl rfl fun a w b2 hF hS => ?_
  refine q_x (v := (.int .i64 0)) hF hS (ex_assign rfl) rfl rfl fun a hF => ?_
  refine q_x (v := (.int .i64 0)) hF hS (ex_assign rfl) rfl rfl fun a hF => ?_
  refine q_end (n_sq ?_)
  refine q_seq ?_
  refine q_region ?_
  refine q_x (v := s1.v) hF hS (ex_move rfl) rfl rfl fun a hF => ?_
  refine q_x (v := (.agg #[s1.v, (.int .i64 0), (.int .u64 0)])) hF hS (ex_build (cells := [s1.v, (.int .i64 0), (.int .u64 0)]) rfl (by kernel_rfl)) rfl rfl fun a hF => ?_
  refine q_box (cs := [s1.v, (.int .i64 0), (.int .u64 0)]) hF hS rfl rfl rfl fun a w b3 hF hS => ?_
  refine q_x (v := (.pointer (some ⟨b3, 0, none⟩))) hF hS (ex_assign rfl) rfl rfl fun a hF => ?_
  refine q_end (n_sq ?_)
  refine q_seq ?_
  refine q_region ?_
  refine q_x (v := (.pointer (some ⟨b3, 0, none⟩))) hF hS (ex_move rfl) rfl rfl fun a hF => ?_
  have hS4 : St _ _ _ _ ([[⟨b3, [s1.v, (.int .i64 0), (.int .u64 0)], 69⟩]] ++ [[⟨b2, [nilS.v, nilS.v], 46⟩]]) := hS
  have hE4 := hS4.enter
  obtain ⟨t_5, ht_5, hr⟩ := bindS hr
  refine q_do rfl fun _ hK => wp_callX (vs := [(.pointer (some ⟨b3, 0, none⟩))]) hF Try.func64 (by kernel_rfl) rfl rfl rfl (c_spec_l1Cur_cube (spec_l1Cur.mk p_code 0 (⟨0⟩ : K .u64)) t_5 ht_5 _ m b3 s1 h1 _ hE4) fun a w _ hR hF => hK _ _ ?_
  obtain ⟨m4', q7, s6, s7, rfl, hm4, hR4, h6, h7, hk8⟩ := hR
  have hS : St _ _ _ _ [[⟨b3, [s1.v, (.int .i64 t_5.2.at_), (.int .u64 t_5.2.seed.v)], 69⟩], q7, [⟨b2, [nilS.v, nilS.v], 46⟩]] := hS4.leave hR4 hm4
  have hm4 := MLe.weakX hS4 hm4
  have h8 : Rd m4' s1 t_5.2.code := by rw [hk8]; exact (h1.mono hm4.le)
  refine q_alloc (cs := [nilS.v, nilS.v]) hF hS rfl rfl rfl fun a w b9 hF hS => ?_
  refine q_store (vs := [s6.v, s7.v]) (cs' := [s6.v, s7.v]) 0 0 hF hS sz46 rfl rfl rfl rfl rfl rfl rfl rfl fun a w hF hS => ?_
  refine q_end (n_sq ?_)
  refine q_seq ?_
  refine e_region [6, 8, 12, 14, 17] mixed fun w' hw' => ?_
  have hS := hS.below hw'
  refine e_p (v := (.pointer (some ⟨b3, 0, none⟩))) 1 hF rfl (ex_move rfl) rfl rfl (by kernel_rfl) (by kernel_rfl) (by kernel_rfl) fun a hF => ?_
  refine e_p (v := (.pointer (some ⟨b9, 0, none⟩))) 2 hF rfl (ex_fieldAddr Try.underlying46 rfl sz33 rfl rfl) rfl rfl (by kernel_rfl) (by kernel_rfl) (by kernel_rfl) fun a hF => ?_
  refine e_p (v := (.pointer (some ⟨b3, 0, none⟩))) 7 hF rfl (ex_move rfl) rfl rfl (by kernel_rfl) (by kernel_rfl) (by kernel_rfl) fun a hF => ?_
  refine e_p (v := (.pointer (some ⟨b3, 0, none⟩))) 11 hF rfl (ex_move rfl) rfl rfl (by kernel_rfl) (by kernel_rfl) (by kernel_rfl) fun a hF => ?_
  refine e_p (v := (.pointer (some ⟨b3, 0, none⟩))) 13 hF rfl (ex_move rfl) rfl rfl (by kernel_rfl) (by kernel_rfl) (by kernel_rfl) fun a hF => ?_
  obtain ⟨t_11, ht_11, hr⟩ := bindS hr
  obtain ⟨t_14, ht_14, hr⟩ := bindS hr
  obtain ⟨t_16, ht_16, hr⟩ := bindS hr
  obtain ⟨t_18, ht_18, hr⟩ := bindS hr
  obtain ⟨t_21, ht_21, hr⟩ := bindS hr
  obtain ⟨t_23, ht_23, hr⟩ := bindS hr
  refine e_all [0, 3] (by kernel_rfl) rfl ⟨?_, ?_, trivial⟩
  · refine e_lx (v := (.agg #[s6.v, s7.v])) hF hS rfl (ex_loadA (vs := [s6.v, s7.v]) 0 0 Try.underlying46 rfl sz46 rfl rfl rfl rfl) rfl rfl fun a hF => ?_
    refine e_one 3 (by kernel_rfl) ?_
    refine e_lx (v := s6.v) hF hS rfl (ex_load1 0 0 Try.underlying33 rfl rfl rfl rfl) rfl rfl fun a hF => ?_
    refine e_p (v := (.int .i64 (goLen t_5.1.Sizes))) 4 hF rfl (ex_len Try.underlying33 rfl h6.len) rfl rfl (by kernel_rfl) (by kernel_rfl) (by kernel_rfl) fun a hF => ?_
    refine e_p (v := (.int .i64 (w64 ((goLen t_5.1.Sizes) + 1)))) 5 hF rfl (ex_ibin rfl rfl rfl) rfl rfl (by kernel_rfl) (by kernel_rfl) (by kernel_rfl) fun a hF => ?_
    refine e_one 6 (by kernel_rfl) ?_
    have hS : St _ _ _ _ [[⟨b3, [s1.v, (.int .i64 t_5.2.at_), (.int .u64 t_5.2.seed.v)], 69⟩], [⟨b9, [s6.v, s7.v], 46⟩], q7, [⟨b2, [nilS.v, nilS.v], 46⟩]] := hS.sel [1, 0, 2, 3] (by decide)
    have hS10 : St _ _ _ _ ([[⟨b3, [s1.v, (.int .i64 t_5.2.at_), (.int .u64 t_5.2.seed.v)], 69⟩]] ++ [[⟨b9, [s6.v, s7.v], 46⟩], q7, [⟨b2, [nilS.v, nilS.v], 46⟩]]) := hS
    have hE10 := hS10.enter
    refine e_opl rfl rfl rfl fun _ hK => wp_callX (vs := [(.pointer (some ⟨b3, 0, none⟩)), (.int .i64 (w64 ((goLen t_5.1.Sizes) + 1)))]) hF Try.func41 (by kernel_rfl) rfl rfl rfl (c_spec_l1Cur_pick t_5.2 (w64 ((goLen t_5.1.Sizes) + 1)) t_11 ht_11 _ m4' b3 s1 h8 _ hE10) fun a w _ hR hF => hK _ _ ?_
    obtain ⟨rfl, hR10, hk12⟩ := hR
    have hS : St _ _ _ _ [[⟨b3, [s1.v, (.int .i64 t_11.2.at_), (.int .u64 t_11.2.seed.v)], 69⟩], [⟨b9, [s6.v, s7.v], 46⟩], q7, [⟨b2, [nilS.v, nilS.v], 46⟩]] := hS10.leaveF hR10
    have h12 : Rd m4' s1 t_11.2.code := by rw [hk12]; exact h8
    refine e_one 8 (by kernel_rfl) ?_
    have hS13 : St _ _ _ _ ([[⟨b3, [s1.v, (.int .i64 t_11.2.at_), (.int .u64 t_11.2.seed.v)], 69⟩]] ++ [[⟨b9, [s6.v, s7.v], 46⟩], q7, [⟨b2, [nilS.v, nilS.v], 46⟩]]) := hS
    have hE13 := hS13.enter
    refine e_opl rfl rfl rfl fun _ hK => wp_callX (vs := [(.pointer (some ⟨b3, 0, none⟩)), (.int .i64 8)]) hF Try.func41 (by kernel_rfl) rfl rfl rfl (c_spec_l1Cur_pick t_11.2 8 t_14 ht_14 _ m4' b3 s1 h12 _ hE13) fun a w _ hR hF => hK _ _ ?_
    obtain ⟨rfl, hR13, hk15⟩ := hR
    have hS : St _ _ _ _ [[⟨b3, [s1.v, (.int .i64 t_14.2.at_), (.int .u64 t_14.2.seed.v)], 69⟩], [⟨b9, [s6.v, s7.v], 46⟩], q7, [⟨b2, [nilS.v, nilS.v], 46⟩]] := hS13.leaveF hR13
    have h15 : Rd m4' s1 t_14.2.code := by rw [hk15]; exact h12
    refine e_p (v := (.int .i64 t_16)) 9 hF rfl (ex_quo rfl rfl ht_16) rfl rfl (by kernel_rfl) (by kernel_rfl) (by kernel_rfl) fun a hF => ?_
    refine e_p (v := (.int .i64 (w64 (t_11.1 - t_16)))) 10 hF rfl (ex_ibin rfl rfl rfl) rfl rfl (by kernel_rfl) (by kernel_rfl) (by kernel_rfl) fun a hF => ?_
    refine e_one 12 (by kernel_rfl) ?_
    have hS17 : St _ _ _ _ ([[⟨b3, [s1.v, (.int .i64 t_14.2.at_), (.int .u64 t_14.2.seed.v)], 69⟩]] ++ [[⟨b9, [s6.v, s7.v], 46⟩], q7, [⟨b2, [nilS.v, nilS.v], 46⟩]]) := hS
    have hE17 := hS17.enter
    refine e_opl rfl rfl rfl fun _ hK => wp_callX (vs := [(.pointer (some ⟨b3, 0, none⟩)), (.int .i64 6)]) hF Try.func41 (by kernel_rfl) rfl rfl rfl (c_spec_l1Cur_pick t_14.2 6 t_18 ht_18 _ m4' b3 s1 h15 _ hE17) fun a w _ hR hF => hK _ _ ?_
    obtain ⟨rfl, hR17, hk19⟩ := hR
    have hS : St _ _ _ _ [[⟨b3, [s1.v, (.int .i64 t_18.2.at_), (.int .u64 t_18.2.seed.v)], 69⟩], [⟨b9, [s6.v, s7.v], 46⟩], q7, [⟨b2, [nilS.v, nilS.v], 46⟩]] := hS17.leaveF hR17
    have h19 : Rd m4' s1 t_18.2.code := by rw [hk19]; exact h15
    refine e_one 14 (by kernel_rfl) ?_
    have hS20 : St _ _ _ _ ([[⟨b3, [s1.v, (.int .i64 t_18.2.at_), (.int .u64 t_18.2.seed.v)], 69⟩]] ++ [[⟨b9, [s6.v, s7.v], 46⟩], q7, [⟨b2, [nilS.v, nilS.v], 46⟩]]) := hS
    have hE20 := hS20.enter
    refine e_opl rfl rfl rfl fun _ hK => wp_callX (vs := [(.pointer (some ⟨b3, 0, none⟩)), (.int .i64 8)]) hF Try.func41 (by kernel_rfl) rfl rfl rfl (c_spec_l1Cur_pick t_18.2 8 t_21 ht_21 _ m4' b3 s1 h19 _ hE20) fun a w _ hR hF => hK _ _ ?_
    obtain ⟨rfl, hR20, hk22⟩ := hR
    have hS : St _ _ _ _ [[⟨b3, [s1.v, (.int .i64 t_21.2.at_), (.int .u64 t_21.2.seed.v)], 69⟩], [⟨b9, [s6.v, s7.v], 46⟩], q7, [⟨b2, [nilS.v, nilS.v], 46⟩]] := hS20.leaveF hR20
    have h22 : Rd m4' s1 t_21.2.code := by rw [hk22]; exact h19
    refine e_p (v := (.int .i64 t_23)) 15 hF rfl (ex_quo rfl rfl ht_23) rfl rfl (by kernel_rfl) (by kernel_rfl) (by kernel_rfl) fun a hF => ?_
    refine e_p (v := (.int .i64 (w64 (t_18.1 - t_23)))) 16 hF rfl (ex_ibin rfl rfl rfl) rfl rfl (by kernel_rfl) (by kernel_rfl) (by kernel_rfl) fun a hF => ?_
    refine e_one 17 (by kernel_rfl) ?_
    refine e_store (vs := [s6.v, s7.v]) (cs' := [s6.v, s7.v]) 3 0 hF hS rfl rfl sz46 rfl rfl rfl rfl rfl rfl rfl rfl fun a w hF hS => ?_
    refine e_p (v := (.int .i64 (w64 (t_11.1 - t_16)))) 18 hF rfl (ex_assign rfl) rfl rfl (by kernel_rfl) (by kernel_rfl) (by kernel_rfl) fun a hF => ?_
    refine e_p (v := (.int .i64 (w64 (t_18.1 - t_23)))) 19 hF rfl (ex_assign rfl) rfl rfl (by kernel_rfl) (by kernel_rfl) (by kernel_rfl) fun a hF => ?_
    refine e_end (by kernel_rfl) (n_sq (q_ret ?_)) _
    obtain rfl := someI hr
    exact ret_of hF hS rfl (.cellA (us := [s6.v, s7.v]) 3 0 Try.underlying46 rfl sz46 rfl rfl rfl rfl (.tmp rfl (.tmp rfl .nil))) ⟨m4', q7, s6, s7, rfl, hm4, hS.sel [2] (by decide), h6, h7⟩
  · refine e_lx (v := s6.v) hF hS rfl (ex_load1 0 0 Try.underlying33 rfl rfl rfl rfl) rfl rfl fun a hF => ?_
    refine e_p (v := (.int .i64 (goLen t_5.1.Sizes))) 4 hF rfl (ex_len Try.underlying33 rfl h6.len) rfl rfl (by kernel_rfl) (by kernel_rfl) (by kernel_rfl) fun a hF => ?_
    refine e_p (v := (.int .i64 (w64 ((goLen t_5.1.Sizes) + 1)))) 5 hF rfl (ex_ibin rfl rfl rfl) rfl rfl (by kernel_rfl) (by kernel_rfl) (by kernel_rfl) fun a hF => ?_
    refine e_all [0, 6] (by kernel_rfl) rfl ⟨?_, ?_, trivial⟩
    · refine e_lx (v := (.agg #[s6.v, s7.v])) hF hS rfl (ex_loadA (vs := [s6.v, s7.v]) 0 0 Try.underlying46 rfl sz46 rfl rfl rfl rfl) rfl rfl fun a hF => ?_
      refine e_one 6 (by kernel_rfl) ?_
      have hS : St _ _ _ _ [[⟨b3, [s1.v, (.int .i64 t_5.2.at_), (.int .u64 t_5.2.seed.v)], 69⟩], [⟨b9, [s6.v, s7.v], 46⟩], q7, [⟨b2, [nilS.v, nilS.v], 46⟩]] := hS.sel [1, 0, 2, 3] (by decide)
      have hS10 : St _ _ _ _ ([[⟨b3, [s1.v, (.int .i64 t_5.2.at_), (.int .u64 t_5.2.seed.v)], 69⟩]] ++ [[⟨b9, [s6.v, s7.v], 46⟩], q7, [⟨b2, [nilS.v, nilS.v], 46⟩]]) := hS
      have hE10 := hS10.enter
      refine e_opl rfl rfl rfl fun _ hK => wp_callX (vs := [(.pointer (some ⟨b3, 0, none⟩)), (.int .i64 (w64 ((goLen t_5.1.Sizes) + 1)))]) hF Try.func41 (by kernel_rfl) rfl rfl rfl (c_spec_l1Cur_pick t_5.2 (w64 ((goLen t_5.1.Sizes) + 1)) t_11 ht_11 _ m4' b3 s1 h8 _ hE10) fun a w _ hR hF => hK _ _ ?_
      obtain ⟨rfl, hR10, hk12⟩ := hR
      have hS : St _ _ _ _ [[⟨b3, [s1.v, (.int .i64 t_11.2.at_), (.int .u64 t_11.2.seed.v)], 69⟩], [⟨b9, [s6.v, s7.v], 46⟩], q7, [⟨b2, [nilS.v, nilS.v], 46⟩]] := hS10.leaveF hR10
      have h12 : Rd m4' s1 t_11.2.code := by rw [hk12]; exact h8
      refine e_one 8 (by kernel_rfl) ?_
      have hS13 : St _ _ _ _ ([[⟨b3, [s1.v, (.int .i64 t_11.2.at_), (.int .u64 t_11.2.seed.v)], 69⟩]] ++ [[⟨b9, [s6.v, s7.v], 46⟩], q7, [⟨b2, [nilS.v, nilS.v], 46⟩]]) := hS
      have hE13 := hS13.enter
      refine e_opl rfl rfl rfl fun _ hK => wp_callX (vs := [(.pointer (some ⟨b3, 0, none⟩)), (.int .i64 8)]) hF Try.func41 (by kernel_rfl) rfl rfl rfl (c_spec_l1Cur_pick t_11.2 8 t_14 ht_14 _ m4' b3 s1 h12 _ hE13) fun a w _ hR hF => hK _ _ ?_
      obtain ⟨rfl, hR13, hk15⟩ := hR
      have hS : St _ _ _ _ [[⟨b3, [s1.v, (.int .i64 t_14.2.at_), (.int .u64 t_14.2.seed.v)], 69⟩], [⟨b9, [s6.v, s7.v], 46⟩], q7, [⟨b2, [nilS.v, nilS.v], 46⟩]] := hS13.leaveF hR13
      have h15 : Rd m4' s1 t_14.2.code := by rw [hk15]; exact h12
      refine e_p (v := (.int .i64 t_16)) 9 hF rfl (ex_quo rfl rfl ht_16) rfl rfl (by kernel_rfl) (by kernel_rfl) (by kernel_rfl) fun a hF => ?_
      refine e_p (v := (.int .i64 (w64 (t_11.1 - t_16)))) 10 hF rfl (ex_ibin rfl rfl rfl) rfl rfl (by kernel_rfl) (by kernel_rfl) (by kernel_rfl) fun a hF => ?_
      refine e_one 12 (by kernel_rfl) ?_
      have hS17 : St _ _ _ _ ([[⟨b3, [s1.v, (.int .i64 t_14.2.at_), (.int .u64 t_14.2.seed.v)], 69⟩]] ++ [[⟨b9, [s6.v, s7.v], 46⟩], q7, [⟨b2, [nilS.v, nilS.v], 46⟩]]) := hS
      have hE17 := hS17.enter
      refine e_opl rfl rfl rfl fun _ hK => wp_callX (vs := [(.pointer (some ⟨b3, 0, none⟩)), (.int .i64 6)]) hF Try.func41 (by kernel_rfl) rfl rfl rfl (c_spec_l1Cur_pick t_14.2 6 t_18 ht_18 _ m4' b3 s1 h15 _ hE17) fun a w _ hR hF => hK _ _ ?_
      obtain ⟨rfl, hR17, hk19⟩ := hR
      have hS : St _ _ _ _ [[⟨b3, [s1.v, (.int .i64 t_18.2.at_), (.int .u64 t_18.2.seed.v)], 69⟩], [⟨b9, [s6.v, s7.v], 46⟩], q7, [⟨b2, [nilS.v, nilS.v], 46⟩]] := hS17.leaveF hR17
      have h19 : Rd m4' s1 t_18.2.code := by rw [hk19]; exact h15
      refine e_one 14 (by kernel_rfl) ?_
      have hS20 : St _ _ _ _ ([[⟨b3, [s1.v, (.int .i64 t_18.2.at_), (.int .u64 t_18.2.seed.v)], 69⟩]] ++ [[⟨b9, [s6.v, s7.v], 46⟩], q7, [⟨b2, [nilS.v, nilS.v], 46⟩]]) := hS
      have hE20 := hS20.enter
      refine e_opl rfl rfl rfl fun _ hK => wp_callX (vs := [(.pointer (some ⟨b3, 0, none⟩)), (.int .i64 8)]) hF Try.func41 (by kernel_rfl) rfl rfl rfl (c_spec_l1Cur_pick t_18.2 8 t_21 ht_21 _ m4' b3 s1 h19 _ hE20) fun a w _ hR hF => hK _ _ ?_
      obtain ⟨rfl, hR20, hk22⟩ := hR
      have hS : St _ _ _ _ [[⟨b3, [s1.v, (.int .i64 t_21.2.at_), (.int .u64 t_21.2.seed.v)], 69⟩], [⟨b9, [s6.v, s7.v], 46⟩], q7, [⟨b2, [nilS.v, nilS.v], 46⟩]] := hS20.leaveF hR20
      have h22 : Rd m4' s1 t_21.2.code := by rw [hk22]; exact h19
      refine e_p (v := (.int .i64 t_23)) 15 hF rfl (ex_quo rfl rfl ht_23) rfl rfl (by kernel_rfl) (by kernel_rfl) (by kernel_rfl) fun a hF => ?_
      refine e_p (v := (.int .i64 (w64 (t_18.1 - t_23)))) 16 hF rfl (ex_ibin rfl rfl rfl) rfl rfl (by kernel_rfl) (by kernel_rfl) (by kernel_rfl) fun a hF => ?_
      refine e_one 17 (by kernel_rfl) ?_
      refine e_store (vs := [s6.v, s7.v]) (cs' := [s6.v, s7.v]) 3 0 hF hS rfl rfl sz46 rfl rfl rfl rfl rfl rfl rfl rfl fun a w hF hS => ?_
      refine e_p (v := (.int .i64 (w64 (t_11.1 - t_16)))) 18 hF rfl (ex_assign rfl) rfl rfl (by kernel_rfl) (by kernel_rfl) (by kernel_rfl) fun a hF => ?_
      refine e_p (v := (.int .i64 (w64 (t_18.1 - t_23)))) 19 hF rfl (ex_assign rfl) rfl rfl (by kernel_rfl) (by kernel_rfl) (by kernel_rfl) fun a hF => ?_
      refine e_end (by kernel_rfl) (n_sq (q_ret ?_)) _
      obtain rfl := someI hr
      exact ret_of hF hS rfl (.cellA (us := [s6.v, s7.v]) 3 0 Try.underlying46 rfl sz46 rfl rfl rfl rfl (.tmp rfl (.tmp rfl .nil))) ⟨m4', q7, s6, s7, rfl, hm4, hS.sel [2] (by decide), h6, h7⟩
    · have hS : St _ _ _ _ [[⟨b3, [s1.v, (.int .i64 t_5.2.at_), (.int .u64 t_5.2.seed.v)], 69⟩], [⟨b9, [s6.v, s7.v], 46⟩], q7, [⟨b2, [nilS.v, nilS.v], 46⟩]] := hS.sel [1, 0, 2, 3] (by decide)
      have hS10 : St _ _ _ _ ([[⟨b3, [s1.v, (.int .i64 t_5.2.at_), (.int .u64 t_5.2.seed.v)], 69⟩]] ++ [[⟨b9, [s6.v, s7.v], 46⟩], q7, [⟨b2, [nilS.v, nilS.v], 46⟩]]) := hS
      have hE10 := hS10.enter
      refine e_opl rfl rfl rfl fun _ hK => wp_callX (vs := [(.pointer (some ⟨b3, 0, none⟩)), (.int .i64 (w64 ((goLen t_5.1.Sizes) + 1)))]) hF Try.func41 (by kernel_rfl) rfl rfl rfl (c_spec_l1Cur_pick t_5.2 (w64 ((goLen t_5.1.Sizes) + 1)) t_11 ht_11 _ m4' b3 s1 h8 _ hE10) fun a w _ hR hF => hK _ _ ?_
      obtain ⟨rfl, hR10, hk12⟩ := hR
      have hS : St _ _ _ _ [[⟨b3, [s1.v, (.int .i64 t_11.2.at_), (.int .u64 t_11.2.seed.v)], 69⟩], [⟨b9, [s6.v, s7.v], 46⟩], q7, [⟨b2, [nilS.v, nilS.v], 46⟩]] := hS10.leaveF hR10
      have h12 : Rd m4' s1 t_11.2.code := by rw [hk12]; exact h8
      refine e_all [0, 8] (by kernel_rfl) rfl ⟨?_, ?_, trivial⟩
      · refine e_lx (v := (.agg #[s6.v, s7.v])) hF hS rfl (ex_loadA (vs := [s6.v, s7.v]) 1 0 Try.underlying46 rfl sz46 rfl rfl rfl rfl) rfl rfl fun a hF => ?_
        refine e_one 8 (by kernel_rfl) ?_
        have hS13 : St _ _ _ _ ([[⟨b3, [s1.v, (.int .i64 t_11.2.at_), (.int .u64 t_11.2.seed.v)], 69⟩]] ++ [[⟨b9, [s6.v, s7.v], 46⟩], q7, [⟨b2, [nilS.v, nilS.v], 46⟩]]) := hS
        have hE13 := hS13.enter
        refine e_opl rfl rfl rfl fun _ hK => wp_callX (vs := [(.pointer (some ⟨b3, 0, none⟩)), (.int .i64 8)]) hF Try.func41 (by kernel_rfl) rfl rfl rfl (c_spec_l1Cur_pick t_11.2 8 t_14 ht_14 _ m4' b3 s1 h12 _ hE13) fun a w _ hR hF => hK _ _ ?_
        obtain ⟨rfl, hR13, hk15⟩ := hR
        have hS : St _ _ _ _ [[⟨b3, [s1.v, (.int .i64 t_14.2.at_), (.int .u64 t_14.2.seed.v)], 69⟩], [⟨b9, [s6.v, s7.v], 46⟩], q7, [⟨b2, [nilS.v, nilS.v], 46⟩]] := hS13.leaveF hR13
        have h15 : Rd m4' s1 t_14.2.code := by rw [hk15]; exact h12
        refine e_p (v := (.int .i64 t_16)) 9 hF rfl (ex_quo rfl rfl ht_16) rfl rfl (by kernel_rfl) (by kernel_rfl) (by kernel_rfl) fun a hF => ?_
        refine e_p (v := (.int .i64 (w64 (t_11.1 - t_16)))) 10 hF rfl (ex_ibin rfl rfl rfl) rfl rfl (by kernel_rfl) (by kernel_rfl) (by kernel_rfl) fun a hF => ?_
        refine e_one 12 (by kernel_rfl) ?_
        have hS17 : St _ _ _ _ ([[⟨b3, [s1.v, (.int .i64 t_14.2.at_), (.int .u64 t_14.2.seed.v)], 69⟩]] ++ [[⟨b9, [s6.v, s7.v], 46⟩], q7, [⟨b2, [nilS.v, nilS.v], 46⟩]]) := hS
        have hE17 := hS17.enter
        refine e_opl rfl rfl rfl fun _ hK => wp_callX (vs := [(.pointer (some ⟨b3, 0, none⟩)), (.int .i64 6)]) hF Try.func41 (by kernel_rfl) rfl rfl rfl (c_spec_l1Cur_pick t_14.2 6 t_18 ht_18 _ m4' b3 s1 h15 _ hE17) fun a w _ hR hF => hK _ _ ?_
        obtain ⟨rfl, hR17, hk19⟩ := hR
        have hS : St _ _ _ _ [[⟨b3, [s1.v, (.int .i64 t_18.2.at_), (.int .u64 t_18.2.seed.v)], 69⟩], [⟨b9, [s6.v, s7.v], 46⟩], q7, [⟨b2, [nilS.v, nilS.v], 46⟩]] := hS17.leaveF hR17
        have h19 : Rd m4' s1 t_18.2.code := by rw [hk19]; exact h15
        refine e_one 14 (by kernel_rfl) ?_
        have hS20 : St _ _ _ _ ([[⟨b3, [s1.v, (.int .i64 t_18.2.at_), (.int .u64 t_18.2.seed.v)], 69⟩]] ++ [[⟨b9, [s6.v, s7.v], 46⟩], q7, [⟨b2, [nilS.v, nilS.v], 46⟩]]) := hS
        have hE20 := hS20.enter
        refine e_opl rfl rfl rfl fun _ hK => wp_callX (vs := [(.pointer (some ⟨b3, 0, none⟩)), (.int .i64 8)]) hF Try.func41 (by kernel_rfl) rfl rfl rfl (c_spec_l1Cur_pick t_18.2 8 t_21 ht_21 _ m4' b3 s1 h19 _ hE20) fun a w _ hR hF => hK _ _ ?_
        obtain ⟨rfl, hR20, hk22⟩ := hR
        have hS : St _ _ _ _ [[⟨b3, [s1.v, (.int .i64 t_21.2.at_), (.int .u64 t_21.2.seed.v)], 69⟩], [⟨b9, [s6.v, s7.v], 46⟩], q7, [⟨b2, [nilS.v, nilS.v], 46⟩]] := hS20.leaveF hR20
        have h22 : Rd m4' s1 t_21.2.code := by rw [hk22]; exact h19
        refine e_p (v := (.int .i64 t_23)) 15 hF rfl (ex_quo rfl rfl ht_23) rfl rfl (by kernel_rfl) (by kernel_rfl) (by kernel_rfl) fun a hF => ?_
        refine e_p (v := (.int .i64 (w64 (t_18.1 - t_23)))) 16 hF rfl (ex_ibin rfl rfl rfl) rfl rfl (by kernel_rfl) (by kernel_rfl) (by kernel_rfl) fun a hF => ?_
        refine e_one 17 (by kernel_rfl) ?_
        refine e_store (vs := [s6.v, s7.v]) (cs' := [s6.v, s7.v]) 3 0 hF hS rfl rfl sz46 rfl rfl rfl rfl rfl rfl rfl rfl fun a w hF hS => ?_
        refine e_p (v := (.int .i64 (w64 (t_11.1 - t_16)))) 18 hF rfl (ex_assign rfl) rfl rfl (by kernel_rfl) (by kernel_rfl) (by kernel_rfl) fun a hF => ?_
        refine e_p (v := (.int .i64 (w64 (t_18.1 - t_23)))) 19 hF rfl (ex_assign rfl) rfl rfl (by kernel_rfl) (by kernel_rfl) (by kernel_rfl) fun a hF => ?_
        refine e_end (by kernel_rfl) (n_sq (q_ret ?_)) _
        obtain rfl := someI hr
        exact ret_of hF hS rfl (.cellA (us := [s6.v, s7.v]) 3 0 Try.underlying46 rfl sz46 rfl rfl rfl rfl (.tmp rfl (.tmp rfl .nil))) ⟨m4', q7, s6, s7, rfl, hm4, hS.sel [2] (by decide), h6, h7⟩
      · have hS13 : St _ _ _ _ ([[⟨b3, [s1.v, (.int .i64 t_11.2.at_), (.int .u64 t_11.2.seed.v)], 69⟩]] ++ [[⟨b9, [s6.v, s7.v], 46⟩], q7, [⟨b2, [nilS.v, nilS.v], 46⟩]]) := hS
        have hE13 := hS13.enter
        refine e_opl rfl rfl rfl fun _ hK => wp_callX (vs := [(.pointer (some ⟨b3, 0, none⟩)), (.int .i64 8)]) hF Try.func41 (by kernel_rfl) rfl rfl rfl (c_spec_l1Cur_pick t_11.2 8 t_14 ht_14 _ m4' b3 s1 h12 _ hE13) fun a w _ hR hF => hK _ _ ?_
        obtain ⟨rfl, hR13, hk15⟩ := hR
        have hS : St _ _ _ _ [[⟨b3, [s1.v, (.int .i64 t_14.2.at_), (.int .u64 t_14.2.seed.v)], 69⟩], [⟨b9, [s6.v, s7.v], 46⟩], q7, [⟨b2, [nilS.v, nilS.v], 46⟩]] := hS13.leaveF hR13
        have h15 : Rd m4' s1 t_14.2.code := by rw [hk15]; exact h12
        refine e_p (v := (.int .i64 t_16)) 9 hF rfl (ex_quo rfl rfl ht_16) rfl rfl (by kernel_rfl) (by kernel_rfl) (by kernel_rfl) fun a hF => ?_
        refine e_p (v := (.int .i64 (w64 (t_11.1 - t_16)))) 10 hF rfl (ex_ibin rfl rfl rfl) rfl rfl (by kernel_rfl) (by kernel_rfl) (by kernel_rfl) fun a hF => ?_
        refine e_all [0, 12] (by kernel_rfl) rfl ⟨?_, ?_, trivial⟩
        · refine e_lx (v := (.agg #[s6.v, s7.v])) hF hS rfl (ex_loadA (vs := [s6.v, s7.v]) 1 0 Try.underlying46 rfl sz46 rfl rfl rfl rfl) rfl rfl fun a hF => ?_
          refine e_one 12 (by kernel_rfl) ?_
          have hS17 : St _ _ _ _ ([[⟨b3, [s1.v, (.int .i64 t_14.2.at_), (.int .u64 t_14.2.seed.v)], 69⟩]] ++ [[⟨b9, [s6.v, s7.v], 46⟩], q7, [⟨b2, [nilS.v, nilS.v], 46⟩]]) := hS
          have hE17 := hS17.enter
          refine e_opl rfl rfl rfl fun _ hK => wp_callX (vs := [(.pointer (some ⟨b3, 0, none⟩)), (.int .i64 6)]) hF Try.func41 (by kernel_rfl) rfl rfl rfl (c_spec_l1Cur_pick t_14.2 6 t_18 ht_18 _ m4' b3 s1 h15 _ hE17) fun a w _ hR hF => hK _ _ ?_
          obtain ⟨rfl, hR17, hk19⟩ := hR
          have hS : St _ _ _ _ [[⟨b3, [s1.v, (.int .i64 t_18.2.at_), (.int .u64 t_18.2.seed.v)], 69⟩], [⟨b9, [s6.v, s7.v], 46⟩], q7, [⟨b2, [nilS.v, nilS.v], 46⟩]] := hS17.leaveF hR17
          have h19 : Rd m4' s1 t_18.2.code := by rw [hk19]; exact h15
          refine e_one 14 (by kernel_rfl) ?_
          have hS20 : St _ _ _ _ ([[⟨b3, [s1.v, (.int .i64 t_18.2.at_), (.int .u64 t_18.2.seed.v)], 69⟩]] ++ [[⟨b9, [s6.v, s7.v], 46⟩], q7, [⟨b2, [nilS.v, nilS.v], 46⟩]]) := hS
          have hE20 := hS20.enter
          refine e_opl rfl rfl rfl fun _ hK => wp_callX (vs := [(.pointer (some ⟨b3, 0, none⟩)), (.int .i64 8)]) hF Try.func41 (by kernel_rfl) rfl rfl rfl (c_spec_l1Cur_pick t_18.2 8 t_21 ht_21 _ m4' b3 s1 h19 _ hE20) fun a w _ hR hF => hK _ _ ?_
          obtain ⟨rfl, hR20, hk22⟩ := hR
          have hS : St _ _ _ _ [[⟨b3, [s1.v, (.int .i64 t_21.2.at_), (.int .u64 t_21.2.seed.v)], 69⟩], [⟨b9, [s6.v, s7.v], 46⟩], q7, [⟨b2, [nilS.v, nilS.v], 46⟩]] := hS20.leaveF hR20
          have h22 : Rd m4' s1 t_21.2.code := by rw [hk22]; exact h19
          refine e_p (v := (.int .i64 t_23)) 15 hF rfl (ex_quo rfl rfl ht_23) rfl rfl (by kernel_rfl) (by kernel_rfl) (by kernel_rfl) fun a hF => ?_
          refine e_p (v := (.int .i64 (w64 (t_18.1 - t_23)))) 16 hF rfl (ex_ibin rfl rfl rfl) rfl rfl (by kernel_rfl) (by kernel_rfl) (by kernel_rfl) fun a hF => ?_
          refine e_one 17 (by kernel_rfl) ?_
          refine e_store (vs := [s6.v, s7.v]) (cs' := [s6.v, s7.v]) 3 0 hF hS rfl rfl sz46 rfl rfl rfl rfl rfl rfl rfl rfl fun a w hF hS => ?_
          refine e_p (v := (.int .i64 (w64 (t_11.1 - t_16)))) 18 hF rfl (ex_assign rfl) rfl rfl (by kernel_rfl) (by kernel_rfl) (by kernel_rfl) fun a hF => ?_
          refine e_p (v := (.int .i64 (w64 (t_18.1 - t_23)))) 19 hF rfl (ex_assign rfl) rfl rfl (by kernel_rfl) (by kernel_rfl) (by kernel_rfl) fun a hF => ?_
          refine e_end (by kernel_rfl) (n_sq (q_ret ?_)) _
          obtain rfl := someI hr
          exact ret_of hF hS rfl (.cellA (us := [s6.v, s7.v]) 3 0 Try.underlying46 rfl sz46 rfl rfl rfl rfl (.tmp rfl (.tmp rfl .nil))) ⟨m4', q7, s6, s7, rfl, hm4, hS.sel [2] (by decide), h6, h7⟩
        · have hS17 : St _ _ _ _ ([[⟨b3, [s1.v, (.int .i64 t_14.2.at_), (.int .u64 t_14.2.seed.v)], 69⟩]] ++ [[⟨b9, [s6.v, s7.v], 46⟩], q7, [⟨b2, [nilS.v, nilS.v], 46⟩]]) := hS
          have hE17 := hS17.enter
          refine e_opl rfl rfl rfl fun _ hK => wp_callX (vs := [(.pointer (some ⟨b3, 0, none⟩)), (.int .i64 6)]) hF Try.func41 (by kernel_rfl) rfl rfl rfl (c_spec_l1Cur_pick t_14.2 6 t_18 ht_18 _ m4' b3 s1 h15 _ hE17) fun a w _ hR hF => hK _ _ ?_
          obtain ⟨rfl, hR17, hk19⟩ := hR
          have hS : St _ _ _ _ [[⟨b3, [s1.v, (.int .i64 t_18.2.at_), (.int .u64 t_18.2.seed.v)], 69⟩], [⟨b9, [s6.v, s7.v], 46⟩], q7, [⟨b2, [nilS.v, nilS.v], 46⟩]] := hS17.leaveF hR17
          have h19 : Rd m4' s1 t_18.2.code := by rw [hk19]; exact h15
          refine e_all [0, 14] (by kernel_rfl) rfl ⟨?_, ?_, trivial⟩
          · refine e_lx (v := (.agg #[s6.v, s7.v])) hF hS rfl (ex_loadA (vs := [s6.v, s7.v]) 1 0 Try.underlying46 rfl sz46 rfl rfl rfl rfl) rfl rfl fun a hF => ?_
            refine e_one 14 (by kernel_rfl) ?_
            have hS20 : St _ _ _ _ ([[⟨b3, [s1.v, (.int .i64 t_18.2.at_), (.int .u64 t_18.2.seed.v)], 69⟩]] ++ [[⟨b9, [s6.v, s7.v], 46⟩], q7, [⟨b2, [nilS.v, nilS.v], 46⟩]]) := hS
            have hE20 := hS20.enter
            refine e_opl rfl rfl rfl fun _ hK => wp_callX (vs := [(.pointer (some ⟨b3, 0, none⟩)), (.int .i64 8)]) hF Try.func41 (by kernel_rfl) rfl rfl rfl (c_spec_l1Cur_pick t_18.2 8 t_21 ht_21 _ m4' b3 s1 h19 _ hE20) fun a w _ hR hF => hK _ _ ?_
            obtain ⟨rfl, hR20, hk22⟩ := hR
            have hS : St _ _ _ _ [[⟨b3, [s1.v, (.int .i64 t_21.2.at_), (.int .u64 t_21.2.seed.v)], 69⟩], [⟨b9, [s6.v, s7.v], 46⟩], q7, [⟨b2, [nilS.v, nilS.v], 46⟩]] := hS20.leaveF hR20
            have h22 : Rd m4' s1 t_21.2.code := by rw [hk22]; exact h19
            refine e_p (v := (.int .i64 t_23)) 15 hF rfl (ex_quo rfl rfl ht_23) rfl rfl (by kernel_rfl) (by kernel_rfl) (by kernel_rfl) fun a hF => ?_
            refine e_p (v := (.int .i64 (w64 (t_18.1 - t_23)))) 16 hF rfl (ex_ibin rfl rfl rfl) rfl rfl (by kernel_rfl) (by kernel_rfl) (by kernel_rfl) fun a hF => ?_
            refine e_one 17 (by kernel_rfl) ?_
            refine e_store (vs := [s6.v, s7.v]) (cs' := [s6.v, s7.v]) 3 0 hF hS rfl rfl sz46 rfl rfl rfl rfl rfl rfl rfl rfl fun a w hF hS => ?_
            refine e_p (v := (.int .i64 (w64 (t_11.1 - t_16)))) 18 hF rfl (ex_assign rfl) rfl rfl (by kernel_rfl) (by kernel_rfl) (by kernel_rfl) fun a hF => ?_
            refine e_p (v := (.int .i64 (w64 (t_18.1 - t_23)))) 19 hF rfl (ex_assign rfl) rfl rfl (by kernel_rfl) (by kernel_rfl) (by kernel_rfl) fun a hF => ?_
            refine e_end (by kernel_rfl) (n_sq (q_ret ?_)) _
            obtain rfl := someI hr
            exact ret_of hF hS rfl (.cellA (us := [s6.v, s7.v]) 3 0 Try.underlying46 rfl sz46 rfl rfl rfl rfl (.tmp rfl (.tmp rfl .nil))) ⟨m4', q7, s6, s7, rfl, hm4, hS.sel [2] (by decide), h6, h7⟩
          · have hS20 : St _ _ _ _ ([[⟨b3, [s1.v, (.int .i64 t_18.2.at_), (.int .u64 t_18.2.seed.v)], 69⟩]] ++ [[⟨b9, [s6.v, s7.v], 46⟩], q7, [⟨b2, [nilS.v, nilS.v], 46⟩]]) := hS
            have hE20 := hS20.enter
            refine e_opl rfl rfl rfl fun _ hK => wp_callX (vs := [(.pointer (some ⟨b3, 0, none⟩)), (.int .i64 8)]) hF Try.func41 (by kernel_rfl) rfl rfl rfl (c_spec_l1Cur_pick t_18.2 8 t_21 ht_21 _ m4' b3 s1 h19 _ hE20) fun a w _ hR hF => hK _ _ ?_
            obtain ⟨rfl, hR20, hk22⟩ := hR
            have hS : St _ _ _ _ [[⟨b3, [s1.v, (.int .i64 t_21.2.at_), (.int .u64 t_21.2.seed.v)], 69⟩], [⟨b9, [s6.v, s7.v], 46⟩], q7, [⟨b2, [nilS.v, nilS.v], 46⟩]] := hS20.leaveF hR20
            have h22 : Rd m4' s1 t_21.2.code := by rw [hk22]; exact h19
            refine e_x (v := (.agg #[s6.v, s7.v])) 0 hF hS rfl (ex_loadA (vs := [s6.v, s7.v]) 1 0 Try.underlying46 rfl sz46 rfl rfl rfl rfl) rfl rfl (by kernel_rfl) (by kernel_rfl) (by kernel_rfl) (by kernel_rfl) fun a hF => ?_
            refine e_p (v := (.int .i64 t_23)) 15 hF rfl (ex_quo rfl rfl ht_23) rfl rfl (by kernel_rfl) (by kernel_rfl) (by kernel_rfl) fun a hF => ?_
            refine e_p (v := (.int .i64 (w64 (t_18.1 - t_23)))) 16 hF rfl (ex_ibin rfl rfl rfl) rfl rfl (by kernel_rfl) (by kernel_rfl) (by kernel_rfl) fun a hF => ?_
            refine e_one 17 (by kernel_rfl) ?_
            refine e_store (vs := [s6.v, s7.v]) (cs' := [s6.v, s7.v]) 3 0 hF hS rfl rfl sz46 rfl rfl rfl rfl rfl rfl rfl rfl fun a w hF hS => ?_
            refine e_p (v := (.int .i64 (w64 (t_11.1 - t_16)))) 18 hF rfl (ex_assign rfl) rfl rfl (by kernel_rfl) (by kernel_rfl) (by kernel_rfl) fun a hF => ?_
            refine e_p (v := (.int .i64 (w64 (t_18.1 - t_23)))) 19 hF rfl (ex_assign rfl) rfl rfl (by kernel_rfl) (by kernel_rfl) (by kernel_rfl) fun a hF => ?_
            refine e_end (by kernel_rfl) (n_sq (q_ret ?_)) _
            obtain rfl := someI hr
            exact ret_of hF hS rfl (.cellA (us := [s6.v, s7.v]) 3 0 Try.underlying46 rfl sz46 rfl rfl rfl rfl (.tmp rfl (.tmp rfl .nil))) ⟨m4', q7, s6, s7, rfl, hm4, hS.sel [2] (by decide), h6, h7⟩

theorem c_impl_cubeCells (p_sizes : List Int) (r : Int) (hr : impl_cubeCells p_sizes = some r) (w0 : World) (m : Mem) (hv : Vis m w0) (s1 : Sl) (h1 : Rd m s1 p_sizes) :
    Ret Try.prog 57 [s1.v] w0 (fun v _ => v = (.int .i64 r)) := by
  unfold impl_cubeCells at hr
  refine ret_start Try.func57 rfl 29 rfl rfl m hv fun a hF hS => ?_
  refine q_seq ?_
  refine q_region ?_
  refine q_x (v := (.int .i64 0)) hF hS (ex_assign rfl) rfl rfl fun a hF => ?_
  refine q_end (n_sq ?_)
  refine q_seq ?_
  refine q_seq ?_
  refine q_region ?_
  refine q_x (v := s1.v) hF hS (ex_move rfl) rfl rfl fun a hF => ?_
  refine q_x (v := (.int .i64 (goLen p_sizes))) hF hS (ex_len Try.underlying33 rfl h1.len) rfl rfl fun a hF => ?_
  refine q_x (v := (.bool (decide (4 < (goLen p_sizes))))) hF hS (ex_ibin rfl rfl rfl) rfl rfl fun a hF => ?_
  refine q_end (n_sq ?_)
  rcases bcase (decide (4 < (goLen p_sizes))) with hc1 | hc1
  · have hr := cond_f hc1 hr
    refine q_cond_f hF rfl hc1 ?_
    refine q_skipc (n_sq ?_)
    refine q_seq ?_
    refine q_region ?_
    refine q_x (v := (.int .i64 1)) hF hS (ex_assign rfl) rfl rfl fun a hF => ?_
    refine q_end (n_sq ?_)
    refine q_seq ?_
    refine q_seq ?_
    refine q_region ?_
    refine q_x (v := s1.v) hF hS (ex_move rfl) rfl rfl fun a hF => ?_
    refine q_x (v := (.int .i64 (goLen p_sizes))) hF hS (ex_len Try.underlying33 rfl h1.len) rfl rfl fun a hF => ?_
    refine q_x (v := (.int .i64 0)) hF hS (ex_move rfl) rfl rfl fun a hF => ?_
    refine q_end (n_sq ?_)
    refine q_block ?_
    obtain ⟨o2, hl2, hr⟩ := bindS hr
    refine q_loop (fun (s : Int × Int) a w => ∃ n_2, ∃ t_3, s = (n_2, t_3) ∧ Fr a 29 [(3, (.int .i64 n_2)), (9, s1.v), (10, (.int .i64 (goLen p_sizes))), (11, (.int .i64 t_3))] ∧ St [] w0 w m []) (fun (o : (Int) ⊕ (Int)) e a w => ∃ n_7, o = .inl n_7 ∧ e = .exit 0 ∧ Fr a 29 [(3, (.int .i64 n_7))] ∧ St [] w0 w m []) hl2 ⟨_, _, rfl, hF.sub ⟨rfl, rfl, rfl, rfl, trivial⟩, hS⟩ ?_ ?_
    · clear hF hS
      rintro s a w st ⟨n_2, t_3, rfl, hF, hS⟩ hb2
      unfold impl_cubeCells_l1 at hb2
      refine q_seq ?_
      refine q_region ?_
      refine q_x (v := (.bool (decide (t_3 < (goLen p_sizes))))) hF hS (ex_ibin rfl rfl rfl) rfl rfl fun a hF => ?_
      refine q_end (n_sq ?_)
      refine q_seq ?_
      rcases bcase (decide (t_3 < (goLen p_sizes))) with hc3 | hc3
      · have hb2 := cond_f hc3 hb2
        refine q_cond_f hF rfl hc3 ?_
        refine q_exit (x_sq ?_)
        obtain rfl := someI hb2
        exact ⟨nofun, .inl ⟨_, rfl, rfl, hF.sub ⟨rfl, trivial⟩, hS⟩⟩
      · have hb2 := cond_t hc3 hb2
        refine q_cond_t hF rfl hc3 ?_
        refine q_skipc (n_sq ?_)
        refine q_seq ?_
        refine q_block ?_
        refine q_seq ?_
        refine q_region ?_
        obtain ⟨e_4, he_4, hb2⟩ := bindS hb2
        obtain ⟨vs5, at5, d5⟩ := h1.at he_4 1 rfl
        obtain rfl : vs5 = [(.int .i64 e_4)] := d5
        refine q_x (v := (elP s1 (t_3.toNat * 1))) hF hS (ex_indexAddr Try.underlying33 sz3 rfl rfl (h1.idx he_4)) rfl rfl fun a hF => ?_
        refine q_x (v := (.int .i64 e_4)) hF hS (ex_loadE1 0 Try.underlying3 rfl rfl ((at5).at) rfl rfl) rfl rfl fun a hF => ?_
        refine q_x (v := (.int .i64 e_4)) hF hS (ex_assign rfl) rfl rfl fun a hF => ?_
        refine q_end (n_sq ?_)
        refine q_seq ?_
        refine q_seq ?_
        obtain ⟨t_6, hj4, hb2⟩ := bindS hb2
        refine q_join (fun a w => Fr a 29 [(3, (.int .i64 n_2)), (5, (.int .i64 e_4)), (9, s1.v), (10, (.int .i64 (goLen p_sizes))), (11, (.int .i64 t_3)), (20, (.bool t_6))] ∧ St [] w0 w m []) ?_ ?_
        · refine q_region ?_
          refine q_x (v := (.int .i64 e_4)) hF hS (ex_move rfl) rfl rfl fun a hF => ?_
          refine q_x (v := (.bool (decide (e_4 < 1)))) hF hS (ex_ibin rfl rfl rfl) rfl rfl fun a hF => ?_
          refine q_x (v := (.bool (decide (e_4 < 1)))) hF hS (ex_move rfl) rfl rfl fun a hF => ?_
          rcases bcase (decide (e_4 < 1)) with hc5 | hc5
          · have hj4 := cond_f hc5 hj4
            refine q_xg (v := (.int .i64 e_4)) hF hS (ex_move rfl) (wanted_t hF rfl rfl rfl hc5) rfl fun a hF => ?_
            refine q_xg (v := (.bool (decide (30 < e_4)))) hF hS (ex_ibin rfl rfl rfl) (wanted_t hF rfl rfl rfl hc5) rfl fun a hF => ?_
            refine q_x (v := (.bool (decide (30 < e_4)))) hF hS (ex_pick_f rfl rfl hc5) rfl rfl fun a hF => ?_
            refine q_end (n_jn ?_)
            obtain rfl := someI hj4
            exact ⟨hF.sub ⟨rfl, rfl, rfl, rfl, rfl, rfl, trivial⟩, hS⟩
          · have hj4 := cond_t hc5 hj4
            refine q_skip hF (wanted_f hF rfl rfl rfl hc5 rfl) rfl fun a hF => ?_
            refine q_skip hF (wanted_f hF rfl rfl rfl hc5 rfl) rfl fun a hF => ?_
            refine q_x (v := (.bool true)) hF hS (ex_pick_t rfl rfl hc5) rfl rfl fun a hF => ?_
            refine q_end (n_jn ?_)
            obtain rfl := someI hj4
            exact ⟨hF.sub ⟨rfl, rfl, rfl, rfl, rfl, rfl, trivial⟩, hS⟩
        · rintro a w ⟨hF, hS⟩
          refine n_sq ?_
          rcases bcase (t_6) with hc6 | hc6
          · have hb2 := cond_f hc6 hb2
            refine q_cond_f hF rfl hc6 ?_
            refine q_skipc (n_sq ?_)
            refine q_region ?_
            refine q_x (v := (.int .i64 n_2)) hF hS (ex_move rfl) rfl rfl fun a hF => ?_
            refine q_x (v := (.int .i64 e_4)) hF hS (ex_move rfl) rfl rfl fun a hF => ?_
            refine q_x (v := (.int .i64 (w64 (e_4 + 1)))) hF hS (ex_ibin rfl rfl rfl) rfl rfl fun a hF => ?_
            refine q_x (v := (.int .i64 (w64 (n_2 * (w64 (e_4 + 1)))))) hF hS (ex_ibin rfl rfl rfl) rfl rfl fun a hF => ?_
            refine q_x (v := (.int .i64 (w64 (n_2 * (w64 (e_4 + 1)))))) hF hS (ex_assign rfl) rfl rfl fun a hF => ?_
            refine q_end (n_ib (n_sq ?_))
            refine q_region ?_
            refine q_x (v := (.int .i64 (w64 (t_3 + 1)))) hF hS (ex_ibin rfl rfl rfl) rfl rfl fun a hF => ?_
            refine q_x (v := (.int .i64 (w64 (t_3 + 1)))) hF hS (ex_move rfl) rfl rfl fun a hF => ?_
            refine q_end ?_
            obtain rfl := someI hb2
            exact ⟨rfl, _, _, rfl, hF.sub ⟨rfl, rfl, rfl, rfl, trivial⟩, hS⟩
          · have hb2 := cond_t hc6 hb2
            refine q_cond_t hF rfl hc6 ?_
            refine q_seq ?_
            refine q_region ?_
            refine q_x (v := (.int .i64 0)) hF hS (ex_assign rfl) rfl rfl fun a hF => ?_
            refine q_end (n_sq (q_ret (r_sq (r_ib (r_sq ?_)))))
            obtain rfl := someI hb2
            refine ⟨nofun, .inr fun ho => ?_⟩
            subst ho
            refine r_ib (r_sq ?_)
            obtain rfl := someI hr
            exact ret_of hF hS rfl (.tmp rfl .nil) rfl
    · rintro e a w ⟨n_7, rfl, rfl, hF, hS⟩
      refine x_ib (n_sq ?_)
      refine q_seq ?_
      refine q_seq ?_
      refine q_region ?_
      refine q_x (v := (.int .i64 n_7)) hF hS (ex_move rfl) rfl rfl fun a hF => ?_
      refine q_x (v := (.bool (decide (2000 < n_7)))) hF hS (ex_ibin rfl rfl rfl) rfl rfl fun a hF => ?_
      refine q_end (n_sq ?_)
      rcases bcase (decide (2000 < n_7)) with hc7 | hc7
      · have hr := cond_f hc7 hr
        refine q_cond_f hF rfl hc7 ?_
        refine q_skipc (n_sq ?_)
        refine q_seq ?_
        refine q_region ?_
        refine q_x (v := (.int .i64 n_7)) hF hS (ex_move rfl) rfl rfl fun a hF => ?_
        refine q_x (v := (.int .i64 n_7)) hF hS (ex_assign rfl) rfl rfl fun a hF => ?_
        refine q_end (n_sq (q_ret ?_))
        obtain rfl := someI hr
        exact ret_of hF hS rfl (.tmp rfl .nil) rfl
      · have hr := cond_t hc7 hr
        refine q_cond_t hF rfl hc7 ?_
        refine q_seq ?_
        refine q_region ?_
        refine q_x (v := (.int .i64 0)) hF hS (ex_assign rfl) rfl rfl fun a hF => ?_
        refine q_end (n_sq (q_ret (r_sq ?_)))
        obtain rfl := someI hr
        exact ret_of hF hS rfl (.tmp rfl .nil) rfl
  · have hr := cond_t hc1 hr
    refine q_cond_t hF rfl hc1 ?_
    refine q_seq ?_
    refine q_region ?_
    refine q_x (v := (.int .i64 0)) hF hS (ex_assign rfl) rfl rfl fun a hF => ?_
    refine q_end (n_sq (q_ret (r_sq ?_)))
    obtain rfl := someI hr
    exact ret_of hF hS rfl (.tmp rfl .nil) rfl

theorem c_impl_areCubeValues (p_cells : List Int) (r : Bool) (hr : impl_areCubeValues p_cells = some r) (w0 : World) (m : Mem) (hv : Vis m w0) (s1 : Sl) (h1 : Rd m s1 p_cells) :
    Ret Try.prog 80 [s1.v] w0 (fun v _ => v = (.bool r)) := by
  unfold impl_areCubeValues at hr
  refine ret_start Try.func80 rfl 18 rfl rfl m hv fun a hF hS => ?_
  refine q_seq ?_
  refine q_region ?_
  refine q_x (v := (.bool false)) hF hS (ex_assign rfl) rfl rfl fun a hF => ?_
  refine q_end (n_sq ?_)
  refine q_seq ?_
  refine q_seq ?_
  refine q_region ?_
  refine q_x (v := s1.v) hF hS (ex_move rfl) rfl rfl fun a hF => ?_
  refine q_x (v := (.int .i64 (goLen p_cells))) hF hS (ex_len Try.underlying33 rfl h1.len) rfl rfl fun a hF => ?_
  refine q_x (v := (.int .i64 0)) hF hS (ex_move rfl) rfl rfl fun a hF => ?_
  refine q_end (n_sq ?_)
  refine q_block ?_
  obtain ⟨o1, hl1, hr⟩ := bindS hr
  refine q_loop (fun (t_2 : Int) a w => Fr a 18 [(5, s1.v), (6, (.int .i64 (goLen p_cells))), (7, (.int .i64 t_2))] ∧ St [] w0 w m []) (fun (o : (Unit) ⊕ (Bool)) e a w => o = .inl () ∧ e = .exit 0 ∧ Fr a 18 [] ∧ St [] w0 w m []) hl1 ⟨hF.sub ⟨rfl, rfl, rfl, trivial⟩, hS⟩ ?_ ?_
  · clear hF hS
    rintro t_2 a w st ⟨hF, hS⟩ hb1
    unfold impl_areCubeValues_l1 at hb1
    refine q_seq ?_
    refine q_region ?_
    refine q_x (v := (.bool (decide (t_2 < (goLen p_cells))))) hF hS (ex_ibin rfl rfl rfl) rfl rfl fun a hF => ?_
    refine q_end (n_sq ?_)
    refine q_seq ?_
    rcases bcase (decide (t_2 < (goLen p_cells))) with hc2 | hc2
    · have hb1 := cond_f hc2 hb1
      refine q_cond_f hF rfl hc2 ?_
      refine q_exit (x_sq ?_)
      obtain rfl := someI hb1
      exact ⟨nofun, .inl ⟨rfl, rfl, hF.sub trivial, hS⟩⟩
    · have hb1 := cond_t hc2 hb1
      refine q_cond_t hF rfl hc2 ?_
      refine q_skipc (n_sq ?_)
      refine q_seq ?_
      refine q_block ?_
      refine q_seq ?_
      refine q_region ?_
      obtain ⟨e_3, he_3, hb1⟩ := bindS hb1
      obtain ⟨vs4, at4, d4⟩ := h1.at he_3 1 rfl
      obtain rfl : vs4 = [(.int .i64 e_3)] := d4
      refine q_x (v := (elP s1 (t_2.toNat * 1))) hF hS (ex_indexAddr Try.underlying33 sz3 rfl rfl (h1.idx he_3)) rfl rfl fun a hF => ?_
      refine q_x (v := (.int .i64 e_3)) hF hS (ex_loadE1 0 Try.underlying3 rfl rfl ((at4).at) rfl rfl) rfl rfl fun a hF => ?_
      refine q_x (v := (.int .i64 e_3)) hF hS (ex_assign rfl) rfl rfl fun a hF => ?_
      refine q_end (n_sq ?_)
      refine q_seq ?_
      obtain ⟨t_5, hj3, hb1⟩ := bindS hb1
      refine q_join (fun a w => Fr a 18 [(5, s1.v), (6, (.int .i64 (goLen p_cells))), (7, (.int .i64 t_2)), (16, (.bool t_5))] ∧ St [] w0 w m []) ?_ ?_
      · refine q_region ?_
        refine q_x (v := (.int .i64 e_3)) hF hS (ex_move rfl) rfl rfl fun a hF => ?_
        refine q_x (v := (.bool (decide (e_3 < (-1000000))))) hF hS (ex_ibin rfl rfl rfl) rfl rfl fun a hF => ?_
        refine q_x (v := (.bool (decide (e_3 < (-1000000))))) hF hS (ex_move rfl) rfl rfl fun a hF => ?_
        rcases bcase (decide (e_3 < (-1000000))) with hc4 | hc4
        · have hj3 := cond_f hc4 hj3
          refine q_xg (v := (.int .i64 e_3)) hF hS (ex_move rfl) (wanted_t hF rfl rfl rfl hc4) rfl fun a hF => ?_
          refine q_xg (v := (.bool (decide (1000000 < e_3)))) hF hS (ex_ibin rfl rfl rfl) (wanted_t hF rfl rfl rfl hc4) rfl fun a hF => ?_
          refine q_x (v := (.bool (decide (1000000 < e_3)))) hF hS (ex_pick_f rfl rfl hc4) rfl rfl fun a hF => ?_
          refine q_end (n_jn ?_)
          obtain rfl := someI hj3
          exact ⟨hF.sub ⟨rfl, rfl, rfl, rfl, trivial⟩, hS⟩
        · have hj3 := cond_t hc4 hj3
          refine q_skip hF (wanted_f hF rfl rfl rfl hc4 rfl) rfl fun a hF => ?_
          refine q_skip hF (wanted_f hF rfl rfl rfl hc4 rfl) rfl fun a hF => ?_
          refine q_x (v := (.bool true)) hF hS (ex_pick_t rfl rfl hc4) rfl rfl fun a hF => ?_
          refine q_end (n_jn ?_)
          obtain rfl := someI hj3
          exact ⟨hF.sub ⟨rfl, rfl, rfl, rfl, trivial⟩, hS⟩
      · rintro a w ⟨hF, hS⟩
        refine n_sq ?_
        rcases bcase (t_5) with hc5 | hc5
        · have hb1 := cond_f hc5 hb1
          refine q_cond_f hF rfl hc5 ?_
          refine q_skipc (n_ib (n_sq ?_))
          refine q_region ?_
          refine q_x (v := (.int .i64 (w64 (t_2 + 1)))) hF hS (ex_ibin rfl rfl rfl) rfl rfl fun a hF => ?_
          refine q_x (v := (.int .i64 (w64 (t_2 + 1)))) hF hS (ex_move rfl) rfl rfl fun a hF => ?_
          refine q_end ?_
          obtain rfl := someI hb1
          exact ⟨rfl, hF.sub ⟨rfl, rfl, rfl, trivial⟩, hS⟩
        · have hb1 := cond_t hc5 hb1
          refine q_cond_t hF rfl hc5 ?_
          refine q_seq ?_
          refine q_region ?_
          refine q_x (v := (.bool false)) hF hS (ex_assign rfl) rfl rfl fun a hF => ?_
          refine q_end (n_sq (q_ret (r_ib (r_sq ?_))))
          obtain rfl := someI hb1
          refine ⟨nofun, .inr fun ho => ?_⟩
          subst ho
          refine r_ib (r_sq ?_)
          obtain rfl := someI hr
          exact ret_of hF hS rfl (.tmp rfl .nil) rfl
  · rintro e a w ⟨rfl, rfl, hF, hS⟩
    refine x_ib (n_sq ?_)
    refine q_seq ?_
    refine q_region ?_
    refine q_x (v := (.bool true)) hF hS (ex_assign rfl) rfl rfl fun a hF => ?_
    refine q_end (n_sq (q_ret ?_))
    obtain rfl := someI hr
    exact ret_of hF hS rfl (.tmp rfl .nil) rfl

theorem c_impl_hasRightForm (p_c : impl_Cube) (r : Bool) (hr : impl_hasRightForm p_c = some r) (w0 : World) (m : Mem) (hv : Vis m w0) (s1 : Sl) (h1 : Rd m s1 p_c.Sizes) (s2 : Sl) (h2 : Rd m s2 p_c.Cells) :
    Ret Try.prog 70 [(.agg #[s1.v, s2.v])] w0 (fun v _ => v = (.bool r)) := by
  unfold impl_hasRightForm at hr
  refine ret_start Try.func70 rfl 21 rfl rfl m hv fun a hF hS => ?_
  refine q_seq ?_
  refine q_region ?_
  refine q_box (cs := [s1.v, s2.v]) hF hS rfl rfl rfl fun a w b3 hF hS => ?_
  refine q_x (v := (.bool false)) hF hS (ex_assign rfl) rfl rfl fun a hF => ?_
  refine q_end (n_sq ?_)
  refine q_seq ?_
  refine q_region ?_
  refine q_x (v := (.pointer (some ⟨b3, 0, none⟩))) hF hS (ex_fieldAddr Try.underlying46 rfl sz33 rfl rfl) rfl rfl fun a hF => ?_
  refine q_x (v := s1.v) hF hS (ex_load1 0 0 Try.underlying33 rfl rfl rfl rfl) rfl rfl fun a hF => ?_
  obtain ⟨t_4, ht_4, hr⟩ := bindS hr
  refine q_call (vs := [s1.v]) hF hS Try.func57 (by kernel_rfl) rfl rfl rfl (c_impl_cubeCells p_c.Sizes t_4 ht_4 _ m hS.vis s1 h1) ?_
  rintro a w _ rfl hF hS
  refine q_x (v := (.int .i64 t_4)) hF hS (ex_assign rfl) rfl rfl fun a hF => ?_
  refine q_end (n_sq ?_)
  refine q_seq ?_
  obtain ⟨t_6, hj1, hr⟩ := bindS hr
  refine q_join (fun a w => Fr a 21 [(2, (.bool t_6))] ∧ St [] w0 w m []) ?_ ?_
  · refine q_region ?_
    refine q_x (v := (.int .i64 t_4)) hF hS (ex_move rfl) rfl rfl fun a hF => ?_
    refine q_x (v := (.bool (decide (0 < t_4)))) hF hS (ex_ibin rfl rfl rfl) rfl rfl fun a hF => ?_
    refine q_x (v := (.bool (decide (0 < t_4)))) hF hS (ex_move rfl) rfl rfl fun a hF => ?_
    rcases bcase (decide (0 < t_4)) with hc2 | hc2
    · have hj1 := cond_f hc2 hj1
      refine q_skip hF (wanted_f hF rfl rfl rfl hc2 rfl) rfl fun a hF => ?_
      refine q_skip hF (wanted_f hF rfl rfl rfl hc2 rfl) rfl fun a hF => ?_
      refine q_skip hF (wanted_f hF rfl rfl rfl hc2 rfl) rfl fun a hF => ?_
      refine q_skip hF (wanted_f hF rfl rfl rfl hc2 rfl) rfl fun a hF => ?_
      refine q_skip hF (wanted_f hF rfl rfl rfl hc2 rfl) rfl fun a hF => ?_
      refine q_x (v := (.bool false)) hF hS (ex_pick_f rfl rfl hc2) rfl rfl fun a hF => ?_
      refine q_x (v := (.bool false)) hF hS (ex_move rfl) rfl rfl fun a hF => ?_
      refine q_skip hF (wanted_f hF rfl rfl rfl rfl rfl) rfl fun a hF => ?_
      refine q_skip hF (wanted_f hF rfl rfl rfl rfl rfl) rfl fun a hF => ?_
      refine q_skip hF (wanted_f hF rfl rfl rfl rfl rfl) rfl fun a hF => ?_
      refine q_x (v := (.bool false)) hF hS (ex_pick_f rfl rfl rfl) rfl rfl fun a hF => ?_
      refine q_x (v := (.bool false)) hF hS (ex_assign rfl) rfl rfl fun a hF => ?_
      refine q_end (n_jn ?_)
      obtain rfl := someI hj1
      exact ⟨hF.sub ⟨rfl, trivial⟩, hS.mask [false]⟩
    · have hj1 := cond_t hc2 hj1
      refine q_xg (v := (.pointer (some ⟨b3, 1, none⟩))) hF hS (ex_fieldAddr Try.underlying46 rfl sz33 rfl rfl) (wanted_t hF rfl rfl rfl hc2) rfl fun a hF => ?_
      refine q_xg (v := s2.v) hF hS (ex_load1 0 0 Try.underlying33 rfl rfl rfl rfl) (wanted_t hF rfl rfl rfl hc2) rfl fun a hF => ?_
      refine q_xg (v := (.int .i64 (goLen p_c.Cells))) hF hS (ex_len Try.underlying33 rfl h2.len) (wanted_t hF rfl rfl rfl hc2) rfl fun a hF => ?_
      refine q_xg (v := (.int .i64 t_4)) hF hS (ex_move rfl) (wanted_t hF rfl rfl rfl hc2) rfl fun a hF => ?_
      refine q_xg (v := (.bool ((goLen p_c.Cells) == t_4))) hF hS (ex_ibin rfl rfl rfl) (wanted_t hF rfl rfl rfl hc2) rfl fun a hF => ?_
      refine q_x (v := (.bool ((goLen p_c.Cells) == t_4))) hF hS (ex_pick_t rfl rfl hc2) rfl rfl fun a hF => ?_
      refine q_x (v := (.bool ((goLen p_c.Cells) == t_4))) hF hS (ex_move rfl) rfl rfl fun a hF => ?_
      rcases bcase ((goLen p_c.Cells) == t_4) with hc3 | hc3
      · have hj1 := cond_f hc3 hj1
        refine q_skip hF (wanted_f hF rfl rfl rfl hc3 rfl) rfl fun a hF => ?_
        refine q_skip hF (wanted_f hF rfl rfl rfl hc3 rfl) rfl fun a hF => ?_
        refine q_skip hF (wanted_f hF rfl rfl rfl hc3 rfl) rfl fun a hF => ?_
        refine q_x (v := (.bool false)) hF hS (ex_pick_f rfl rfl hc3) rfl rfl fun a hF => ?_
        refine q_x (v := (.bool false)) hF hS (ex_assign rfl) rfl rfl fun a hF => ?_
        refine q_end (n_jn ?_)
        obtain rfl := someI hj1
        exact ⟨hF.sub ⟨rfl, trivial⟩, hS.mask [false]⟩
      · have hj1 := cond_t hc3 hj1
        refine q_xg (v := (.pointer (some ⟨b3, 1, none⟩))) hF hS (ex_fieldAddr Try.underlying46 rfl sz33 rfl rfl) (wanted_t hF rfl rfl rfl hc3) rfl fun a hF => ?_
        refine q_xg (v := s2.v) hF hS (ex_load1 0 0 Try.underlying33 rfl rfl rfl rfl) (wanted_t hF rfl rfl rfl hc3) rfl fun a hF => ?_
        obtain ⟨t_5, ht_5, hj1⟩ := bindS hj1
        refine q_callg (vs := [s2.v]) hF hS (wanted_t hF rfl rfl rfl hc3) Try.func80 (by kernel_rfl) rfl rfl rfl (c_impl_areCubeValues p_c.Cells t_5 ht_5 _ m hS.vis s2 h2) ?_
        rintro a w _ rfl hF hS
        refine q_x (v := (.bool t_5)) hF hS (ex_pick_t rfl rfl hc3) rfl rfl fun a hF => ?_
        refine q_x (v := (.bool t_5)) hF hS (ex_assign rfl) rfl rfl fun a hF => ?_
        refine q_end (n_jn ?_)
        obtain rfl := someI hj1
        exact ⟨hF.sub ⟨rfl, trivial⟩, hS.mask [false]⟩
  · rintro a w ⟨hF, hS⟩
    refine n_sq (q_ret ?_)
    obtain rfl := someI hr
    exact ret_of hF hS rfl (.tmp rfl .nil) rfl

theorem c_impl_strides (p_sizes : List Int) (r : (List Int)) (hr : impl_strides p_sizes = some r) (w0 : World) (m : Mem) (hv : Vis m w0) (s1 : Sl) (h1 : Rd m s1 p_sizes) :
    Ret Try.prog 90 [s1.v] w0 (fun v w => ∃ (q0' : Piece) (s0' : Sl), v = s0'.v ∧ St [] w0 w m [q0'] ∧ OwnL m 3 q0' s0' r) := by
  unfold impl_strides at hr
  refine ret_start Try.func90 rfl 28 rfl rfl m hv fun a hF hS => ?_
  refine q_seq ?_
  refine q_region ?_
  refine q_x (v := nilS.v) hF hS (ex_assign rfl) rfl rfl fun a hF => ?_
  refine q_end (n_sq ?_)
  refine q_seq ?_
  refine q_region ?_
  refine q_x (v := s1.v) hF hS (ex_move rfl) rfl rfl fun a hF => ?_
  refine q_x (v := (.int .i64 (goLen p_sizes))) hF hS (ex_len Try.underlying33 rfl h1.len) rfl rfl fun a hF => ?_
  obtain ⟨l_2, hl_2, hr⟩ := bindS hr
  refine q_do rfl fun _ hK => wp_make (z := (0 : Int)) hF hS Try.underlying33 inf3 rfl rfl rfl rfl rfl (by decide) hl_2 rfl fun a w q3 s3 hF hS h3 _ => hK _ _ ?_
  refine q_x (v := s3.v) hF hS (ex_assign rfl) rfl rfl fun a hF => ?_
  refine q_end (n_sq ?_)
  refine q_seq ?_
  refine q_region ?_
  refine q_x (v := (.int .i64 1)) hF hS (ex_assign rfl) rfl rfl fun a hF => ?_
  refine q_end (n_sq ?_)
  refine q_seq ?_
  refine q_seq ?_
  refine q_region ?_
  refine q_x (v := s1.v) hF hS (ex_move rfl) rfl rfl fun a hF => ?_
  refine q_x (v := (.int .i64 (goLen p_sizes))) hF hS (ex_len Try.underlying33 rfl h1.len) rfl rfl fun a hF => ?_
  refine q_x (v := (.int .i64 (w64 ((goLen p_sizes) - 1)))) hF hS (ex_ibin rfl rfl rfl) rfl rfl fun a hF => ?_
  refine q_x (v := (.int .i64 (w64 ((goLen p_sizes) - 1)))) hF hS (ex_assign rfl) rfl rfl fun a hF => ?_
  refine q_end (n_sq ?_)
  refine q_block ?_
  obtain ⟨out_13, hl1, hr⟩ := bindS hr
  refine q_loop (fun (s : (List Int) × Int × Int) a w => ∃ (q5 : Piece), ∃ out_4, ∃ n_6, ∃ d_7, s = (out_4, n_6, d_7) ∧ Fr a 28 [(0, s1.v), (3, s3.v), (4, (.int .i64 n_6)), (5, (.int .i64 d_7))] ∧ St [] w0 w m [q5] ∧ OwnL m 3 q5 s3 out_4) (fun (out_13 : (List Int)) e a w => ∃ (q14 : Piece), e = .exit 0 ∧ Fr a 28 [(3, s3.v)] ∧ St [] w0 w m [q14] ∧ OwnL m 3 q14 s3 out_13) hl1 ⟨q3, _, _, _, rfl, hF.sub ⟨rfl, rfl, rfl, rfl, trivial⟩, hS, h3⟩ ?_ ?_
  · clear hF hS
    rintro s a w st ⟨q5, out_4, n_6, d_7, rfl, hF, hS, h5⟩ hb1
    unfold impl_strides_l1 at hb1
    refine q_seq ?_
    refine q_seq ?_
    refine q_region ?_
    refine q_x (v := (.int .i64 d_7)) hF hS (ex_move rfl) rfl rfl fun a hF => ?_
    refine q_x (v := (.bool (decide (0 ≤ d_7)))) hF hS (ex_ibin rfl rfl rfl) rfl rfl fun a hF => ?_
    refine q_end (n_sq ?_)
    rcases bcase (decide (0 ≤ d_7)) with hc2 | hc2
    · have hb1 := cond_f hc2 hb1
      refine q_cond_f hF rfl hc2 ?_
      refine q_exit (x_sq ?_)
      obtain rfl := someI hb1
      exact ⟨nofun, .inl ⟨q5, rfl, hF.sub ⟨rfl, trivial⟩, hS, h5⟩⟩
    · have hb1 := cond_t hc2 hb1
      refine q_cond_t hF rfl hc2 ?_
      refine q_skipc (n_sq ?_)
      refine q_seq ?_
      refine q_block ?_
      refine q_seq ?_
      refine q_region ?_
      refine q_x (v := s3.v) hF hS (ex_move rfl) rfl rfl fun a hF => ?_
      refine q_x (v := (.int .i64 d_7)) hF hS (ex_move rfl) rfl rfl fun a hF => ?_
      refine q_x (v := (.int .i64 n_6)) hF hS (ex_move rfl) rfl rfl fun a hF => ?_
      obtain ⟨e_8, he_8, hb1⟩ := bindS hb1
      obtain ⟨vs9, at9, d9⟩ := h5.at he_8 1 rfl
      obtain rfl : vs9 = [(.int .i64 e_8)] := d9
      refine q_x (v := (elP s3 (d_7.toNat * 1))) hF hS (ex_indexAddr Try.underlying33 sz3 rfl rfl (h5.idx he_8)) rfl rfl fun a hF => ?_
      refine q_do rfl fun _ hK => wp_storeE (e' := n_6) (us := [(.int .i64 n_6)]) (vs := [(.int .i64 e_8)]) 0 hF hS h5 sz3 rfl rfl rfl rfl rfl rfl rfl he_8 at9 rfl rfl rfl fun w q10 hS h10 => hK _ _ ?_
      refine q_end (n_sq ?_)
      refine q_region ?_
      refine q_x (v := (.int .i64 n_6)) hF hS (ex_move rfl) rfl rfl fun a hF => ?_
      refine q_x (v := s1.v) hF hS (ex_move rfl) rfl rfl fun a hF => ?_
      refine q_x (v := (.int .i64 d_7)) hF hS (ex_move rfl) rfl rfl fun a hF => ?_
      obtain ⟨e_11, he_11, hb1⟩ := bindS hb1
      obtain ⟨vs12, at12, d12⟩ := h1.at he_11 1 rfl
      obtain rfl : vs12 = [(.int .i64 e_11)] := d12
      refine q_x (v := (elP s1 (d_7.toNat * 1))) hF hS (ex_indexAddr Try.underlying33 sz3 rfl rfl (h1.idx he_11)) rfl rfl fun a hF => ?_
      refine q_x (v := (.int .i64 e_11)) hF hS (ex_loadE1 0 Try.underlying3 rfl rfl ((at12).at) rfl rfl) rfl rfl fun a hF => ?_
      refine q_x (v := (.int .i64 (w64 (e_11 + 1)))) hF hS (ex_ibin rfl rfl rfl) rfl rfl fun a hF => ?_
      refine q_x (v := (.int .i64 (w64 (n_6 * (w64 (e_11 + 1)))))) hF hS (ex_ibin rfl rfl rfl) rfl rfl fun a hF => ?_
      refine q_x (v := (.int .i64 (w64 (n_6 * (w64 (e_11 + 1)))))) hF hS (ex_assign rfl) rfl rfl fun a hF => ?_
      refine q_end (n_ib (n_sq ?_))
      refine q_region ?_
      refine q_x (v := (.int .i64 d_7)) hF hS (ex_move rfl) rfl rfl fun a hF => ?_
      refine q_x (v := (.int .i64 (w64 (d_7 - 1)))) hF hS (ex_ibin rfl rfl rfl) rfl rfl fun a hF => ?_
      refine q_x (v := (.int .i64 (w64 (d_7 - 1)))) hF hS (ex_assign rfl) rfl rfl fun a hF => ?_
      refine q_end ?_
      obtain rfl := someI hb1
      exact ⟨rfl, q10, _, _, _, rfl, hF.sub ⟨rfl, rfl, rfl, rfl, trivial⟩, hS, h10⟩
  · rintro e a w ⟨q14, rfl, hF, hS, h14⟩
    refine x_ib (n_sq ?_)
    refine q_seq ?_
    refine q_region ?_
    refine q_x (v := s3.v) hF hS (ex_move rfl) rfl rfl fun a hF => ?_
    refine q_x (v := s3.v) hF hS (ex_assign rfl) rfl rfl fun a hF => ?_
    refine q_end (n_sq (q_ret ?_))
    obtain rfl := someI hr
    exact ret_of hF hS rfl (.tmp rfl .nil) ⟨q14, s3, rfl, hS.sel [0] (by decide), h14⟩

theorem c_impl_indexOf (p_sizes : List Int) (p_i : Int) (r : (List Int)) (hr : impl_indexOf p_sizes p_i = some r) (w0 : World) (m : Mem) (hv : Vis m w0) (s1 : Sl) (h1 : Rd m s1 p_sizes) :
    Ret Try.prog 79 [s1.v, (.int .i64 p_i)] w0 (fun v w => ∃ (q0' : Piece) (s0' : Sl), v = s0'.v ∧ St [] w0 w m [q0'] ∧ OwnL m 3 q0' s0' r) := by
  unfold impl_indexOf at hr
  refine ret_start Try.func79 rfl 30 rfl rfl m hv fun a hF hS => ?_
  refine q_seq ?_
  refine q_region ?_
  refine q_x (v := nilS.v) hF hS (ex_assign rfl) rfl rfl fun a hF => ?_
  refine q_end (n_sq ?_)
  refine q_seq ?_
  refine q_region ?_
  refine q_x (v := s1.v) hF hS (ex_move rfl) rfl rfl fun a hF => ?_
  refine q_x (v := (.int .i64 (goLen p_sizes))) hF hS (ex_len Try.underlying33 rfl h1.len) rfl rfl fun a hF => ?_
  obtain ⟨l_2, hl_2, hr⟩ := bindS hr
  refine q_do rfl fun _ hK => wp_make (z := (0 : Int)) hF hS Try.underlying33 inf3 rfl rfl rfl rfl rfl (by decide) hl_2 rfl fun a w q3 s3 hF hS h3 _ => hK _ _ ?_
  refine q_x (v := s3.v) hF hS (ex_assign rfl) rfl rfl fun a hF => ?_
  refine q_end (n_sq ?_)
  refine q_seq ?_
  refine q_seq ?_
  refine q_region ?_
  refine q_x (v := s1.v) hF hS (ex_move rfl) rfl rfl fun a hF => ?_
  obtain ⟨t_4, ht_4, hr⟩ := bindS hr
  refine q_call (vs := [s1.v]) hF hS Try.func90 (by kernel_rfl) rfl rfl rfl (c_impl_strides p_sizes t_4 ht_4 _ m hS.vis s1 h1) ?_
  rintro a w _ ⟨q6, s6, rfl, hR5, h6⟩ hF hS2
  have hS : St _ _ _ _ [q6, q3] := hS.joinF hR5
  refine q_x (v := (.int .i64 (goLen t_4))) hF hS (ex_len Try.underlying33 rfl h6.len) rfl rfl fun a hF => ?_
  refine q_x (v := (.int .i64 0)) hF hS (ex_move rfl) rfl rfl fun a hF => ?_
  refine q_end (n_sq ?_)
  refine q_block ?_
  obtain ⟨out_18, hl1, hr⟩ := bindS hr
  refine q_loop (fun (s : Int × (List Int) × Int) a w => ∃ (q9 : Piece), ∃ i_7, ∃ out_8, ∃ t_10, s = (i_7, out_8, t_10) ∧ Fr a 30 [(1, (.int .i64 i_7)), (5, s3.v), (12, s6.v), (13, (.int .i64 (goLen t_4))), (14, (.int .i64 t_10))] ∧ St [] w0 w m [q9, q6] ∧ OwnL m 3 q9 s3 out_8) (fun (out_18 : (List Int)) e a w => ∃ (q19 : Piece), e = .exit 0 ∧ Fr a 30 [(5, s3.v)] ∧ St [] w0 w m [q19] ∧ OwnL m 3 q19 s3 out_18) hl1 ⟨q3, _, _, _, rfl, hF.sub ⟨rfl, rfl, rfl, rfl, rfl, trivial⟩, hS.sel [1, 0] (by decide), h3⟩ ?_ ?_
  · clear hF hS
    rintro s a w st ⟨q9, i_7, out_8, t_10, rfl, hF, hS, h9⟩ hb1
    unfold impl_indexOf_l1 at hb1
    refine q_seq ?_
    refine q_region ?_
    refine q_x (v := (.bool (decide (t_10 < (goLen t_4))))) hF hS (ex_ibin rfl rfl rfl) rfl rfl fun a hF => ?_
    refine q_end (n_sq ?_)
    refine q_seq ?_
    rcases bcase (decide (t_10 < (goLen t_4))) with hc2 | hc2
    · have hb1 := cond_f hc2 hb1
      refine q_cond_f hF rfl hc2 ?_
      refine q_exit (x_sq ?_)
      obtain rfl := someI hb1
      exact ⟨nofun, .inl ⟨q9, rfl, hF.sub ⟨rfl, trivial⟩, hS.mask [true, false], h9⟩⟩
    · have hb1 := cond_t hc2 hb1
      refine q_cond_t hF rfl hc2 ?_
      refine q_skipc (n_sq ?_)
      refine q_seq ?_
      refine q_block ?_
      refine q_seq ?_
      refine q_region ?_
      refine q_x (v := (.int .i64 t_10)) hF hS (ex_move rfl) rfl rfl fun a hF => ?_
      obtain ⟨e_11, he_11, hb1⟩ := bindS hb1
      obtain ⟨vs12, at12, d12⟩ := h6.at he_11 1 rfl
      obtain rfl : vs12 = [(.int .i64 e_11)] := d12
      refine q_x (v := (elP s6 (t_10.toNat * 1))) hF hS (ex_indexAddr Try.underlying33 sz3 rfl rfl (h6.idx he_11)) rfl rfl fun a hF => ?_
      refine q_x (v := (.int .i64 e_11)) hF hS (ex_loadE1 0 Try.underlying3 rfl rfl (at12.at 1 rfl) rfl rfl) rfl rfl fun a hF => ?_
      refine q_x (v := (.int .i64 t_10)) hF hS (ex_assign rfl) rfl rfl fun a hF => ?_
      refine q_x (v := (.int .i64 e_11)) hF hS (ex_assign rfl) rfl rfl fun a hF => ?_
      refine q_end (n_sq ?_)
      refine q_seq ?_
      refine q_region ?_
      refine q_x (v := s3.v) hF hS (ex_move rfl) rfl rfl fun a hF => ?_
      refine q_x (v := (.int .i64 t_10)) hF hS (ex_move rfl) rfl rfl fun a hF => ?_
      refine q_x (v := (.int .i64 i_7)) hF hS (ex_move rfl) rfl rfl fun a hF => ?_
      refine q_x (v := (.int .i64 e_11)) hF hS (ex_move rfl) rfl rfl fun a hF => ?_
      obtain ⟨t_13, ht_13, hb1⟩ := bindS hb1
      refine q_x (v := (.int .i64 t_13)) hF hS (ex_quo rfl rfl ht_13) rfl rfl fun a hF => ?_
      obtain ⟨e_14, he_14, hb1⟩ := bindS hb1
      obtain ⟨vs15, at15, d15⟩ := h9.at he_14 1 rfl
      obtain rfl : vs15 = [(.int .i64 e_14)] := d15
      refine q_x (v := (elP s3 (t_10.toNat * 1))) hF hS (ex_indexAddr Try.underlying33 sz3 rfl rfl (h9.idx he_14)) rfl rfl fun a hF => ?_
      refine q_do rfl fun _ hK => wp_storeE (e' := t_13) (us := [(.int .i64 t_13)]) (vs := [(.int .i64 e_14)]) 0 hF hS h9 sz3 rfl rfl rfl rfl rfl rfl rfl he_14 at15 rfl rfl rfl fun w q16 hS h16 => hK _ _ ?_
      refine q_end (n_sq ?_)
      refine q_region ?_
      refine q_x (v := (.int .i64 i_7)) hF hS (ex_move rfl) rfl rfl fun a hF => ?_
      refine q_x (v := (.int .i64 e_11)) hF hS (ex_move rfl) rfl rfl fun a hF => ?_
      obtain ⟨t_17, ht_17, hb1⟩ := bindS hb1
      refine q_x (v := (.int .i64 t_17)) hF hS (ex_rem rfl rfl ht_17) rfl rfl fun a hF => ?_
      refine q_x (v := (.int .i64 t_17)) hF hS (ex_assign rfl) rfl rfl fun a hF => ?_
      refine q_end (n_ib (n_sq ?_))
      refine q_region ?_
      refine q_x (v := (.int .i64 (w64 (t_10 + 1)))) hF hS (ex_ibin rfl rfl rfl) rfl rfl fun a hF => ?_
      refine q_x (v := (.int .i64 (w64 (t_10 + 1)))) hF hS (ex_move rfl) rfl rfl fun a hF => ?_
      refine q_end ?_
      obtain rfl := someI hb1
      exact ⟨rfl, q16, _, _, _, rfl, hF.sub ⟨rfl, rfl, rfl, rfl, rfl, trivial⟩, hS, h16⟩
  · rintro e a w ⟨q19, rfl, hF, hS, h19⟩
    refine x_ib (n_sq ?_)
    refine q_seq ?_
    refine q_region ?_
    refine q_x (v := s3.v) hF hS (ex_move rfl) rfl rfl fun a hF => ?_
    refine q_x (v := s3.v) hF hS (ex_assign rfl) rfl rfl fun a hF => ?_
    refine q_end (n_sq (q_ret ?_))
    obtain rfl := someI hr
    exact ret_of hF hS rfl (.tmp rfl .nil) ⟨q19, s3, rfl, hS.sel [0] (by decide), h19⟩

theorem c_impl_firstBreak (p_c : impl_Cube) (r : Int) (hr : impl_firstBreak p_c = some r) (w0 : World) (m : Mem) (hv : Vis m w0) (s1 : Sl) (h1 : Rd m s1 p_c.Sizes) (s2 : Sl) (h2 : Rd m s2 p_c.Cells) :
    Ret Try.prog 71 [(.agg #[s1.v, s2.v])] w0 (fun v _ => v = (.int .i64 r)) := by
  unfold impl_firstBreak at hr
  refine ret_start Try.func71 rfl 66 rfl rfl m hv fun a hF hS => ?_
  refine q_seq ?_
  refine q_region ?_
  refine q_box (cs := [s1.v, s2.v]) hF hS rfl rfl rfl fun a w b3 hF hS => ?_
  refine q_x (v := (.int .i64 0)) hF hS (ex_assign rfl) rfl rfl fun a hF => ?_
  refine q_end (n_sq ?_)
  refine q_seq ?_
  refine q_region ?_
  refine q_x (v := (.pointer (some ⟨b3, 0, none⟩))) hF hS (ex_fieldAddr Try.underlying46 rfl sz33 rfl rfl) rfl rfl fun a hF => ?_
  refine q_x (v := s1.v) hF hS (ex_load1 0 0 Try.underlying33 rfl rfl rfl rfl) rfl rfl fun a hF => ?_
  obtain ⟨t_4, ht_4, hr⟩ := bindS hr
  refine q_call (vs := [s1.v]) hF hS Try.func90 (by kernel_rfl) rfl rfl rfl (c_impl_strides p_c.Sizes t_4 ht_4 _ m hS.vis s1 h1) ?_
  rintro a w _ ⟨q6, s6, rfl, hR5, h6⟩ hF hS2
  have hS : St _ _ _ _ [q6, [⟨b3, [s1.v, s2.v], 46⟩]] := hS.joinF hR5
  refine q_x (v := s6.v) hF hS (ex_assign rfl) rfl rfl fun a hF => ?_
  refine q_end (n_sq ?_)
  refine q_seq ?_
  refine q_seq ?_
  refine q_region ?_
  refine q_x (v := (.pointer (some ⟨b3, 1, none⟩))) hF hS (ex_fieldAddr Try.underlying46 rfl sz33 rfl rfl) rfl rfl fun a hF => ?_
  refine q_x (v := s2.v) hF hS (ex_load1 1 0 Try.underlying33 rfl rfl rfl rfl) rfl rfl fun a hF => ?_
  refine q_x (v := (.int .i64 (goLen p_c.Cells))) hF hS (ex_len Try.underlying33 rfl h2.len) rfl rfl fun a hF => ?_
  refine q_x (v := (.int .i64 0)) hF hS (ex_move rfl) rfl rfl fun a hF => ?_
  refine q_end (n_sq ?_)
  refine q_block ?_
  obtain ⟨o1, hl1, hr⟩ := bindS hr
  refine q_loop (fun (t_7 : Int) a w => Fr a 66 [(1, (.pointer (some ⟨b3, 0, none⟩))), (3, s6.v), (14, s2.v), (15, (.int .i64 (goLen p_c.Cells))), (16, (.int .i64 t_7))] ∧ St [] w0 w m [q6, [⟨b3, [s1.v, s2.v], 46⟩]]) (fun (o : (Unit) ⊕ (Int)) e a w => o = .inl () ∧ e = .exit 0 ∧ Fr a 66 [(1, (.pointer (some ⟨b3, 0, none⟩)))] ∧ St [] w0 w m [[⟨b3, [s1.v, s2.v], 46⟩]]) hl1 ⟨hF.sub ⟨rfl, rfl, rfl, rfl, rfl, trivial⟩, hS⟩ ?_ ?_
  · clear hF hS
    rintro t_7 a w st ⟨hF, hS⟩ hb1
    unfold impl_firstBreak_l1 at hb1
    refine q_seq ?_
    refine q_region ?_
    refine q_x (v := (.bool (decide (t_7 < (goLen p_c.Cells))))) hF hS (ex_ibin rfl rfl rfl) rfl rfl fun a hF => ?_
    refine q_end (n_sq ?_)
    refine q_seq ?_
    rcases bcase (decide (t_7 < (goLen p_c.Cells))) with hc2 | hc2
    · have hb1 := cond_f hc2 hb1
      refine q_cond_f hF rfl hc2 ?_
      refine q_exit (x_sq ?_)
      obtain rfl := someI hb1
      exact ⟨nofun, .inl ⟨rfl, rfl, hF.sub ⟨rfl, trivial⟩, hS.mask [false, true]⟩⟩
    · have hb1 := cond_t hc2 hb1
      refine q_cond_t hF rfl hc2 ?_
      refine q_skipc (n_sq ?_)
      refine q_seq ?_
      refine q_block ?_
      refine q_seq ?_
      refine q_region ?_
      refine q_x (v := (.int .i64 t_7)) hF hS (ex_move rfl) rfl rfl fun a hF => ?_
      obtain ⟨e_8, he_8, hb1⟩ := bindS hb1
      obtain ⟨vs9, at9, d9⟩ := h2.at he_8 1 rfl
      obtain rfl : vs9 = [(.int .i64 e_8)] := d9
      refine q_x (v := (elP s2 (t_7.toNat * 1))) hF hS (ex_indexAddr Try.underlying33 sz3 rfl rfl (h2.idx he_8)) rfl rfl fun a hF => ?_
      refine q_x (v := (.int .i64 e_8)) hF hS (ex_loadE1 0 Try.underlying3 rfl rfl ((at9).at) rfl rfl) rfl rfl fun a hF => ?_
      refine q_x (v := (.int .i64 t_7)) hF hS (ex_assign rfl) rfl rfl fun a hF => ?_
      refine q_x (v := (.int .i64 e_8)) hF hS (ex_assign rfl) rfl rfl fun a hF => ?_
      refine q_end (n_sq ?_)
      refine q_seq ?_
      refine q_region ?_
      refine q_x (v := (.pointer (some ⟨b3, 0, none⟩))) hF hS (ex_fieldAddr Try.underlying46 rfl sz33 rfl rfl) rfl rfl fun a hF => ?_
      refine q_x (v := s1.v) hF hS (ex_load1 1 0 Try.underlying33 rfl rfl rfl rfl) rfl rfl fun a hF => ?_
      refine q_x (v := (.int .i64 t_7)) hF hS (ex_move rfl) rfl rfl fun a hF => ?_
      obtain ⟨t_10, ht_10, hb1⟩ := bindS hb1
      refine q_call (vs := [s1.v, (.int .i64 t_7)]) hF hS Try.func79 (by kernel_rfl) rfl rfl rfl (c_impl_indexOf p_c.Sizes t_7 t_10 ht_10 _ m hS.vis s1 h1) ?_
      rintro a w _ ⟨q12, s12, rfl, hR11, h12⟩ hF hS2
      have hS : St _ _ _ _ [q12, q6, [⟨b3, [s1.v, s2.v], 46⟩]] := hS.joinF hR11
      refine q_x (v := (.int .i64 (goLen t_10))) hF hS (ex_len Try.underlying33 rfl h12.len) rfl rfl fun a hF => ?_
      refine q_x (v := (.int .i64 0)) hF hS (ex_move rfl) rfl rfl fun a hF => ?_
      refine q_end (n_sq ?_)
      refine q_block ?_
      obtain ⟨o3, hl3, hb1⟩ := bindS hb1
      refine q_loop (fun (t_13 : Int) a w => Fr a 66 [(1, (.pointer (some ⟨b3, 0, none⟩))), (3, s6.v), (4, (.int .i64 t_7)), (5, (.int .i64 e_8)), (14, s2.v), (15, (.int .i64 (goLen p_c.Cells))), (16, (.int .i64 t_7)), (24, s12.v), (25, (.int .i64 (goLen t_10))), (26, (.int .i64 t_13))] ∧ St [] w0 w m [q12, q6, [⟨b3, [s1.v, s2.v], 46⟩]]) (fun (o : (Unit) ⊕ (Stp (Int) ((Unit) ⊕ (Int)))) e a w => o = .inl () ∧ e = .exit 2 ∧ Fr a 66 [(1, (.pointer (some ⟨b3, 0, none⟩))), (3, s6.v), (14, s2.v), (15, (.int .i64 (goLen p_c.Cells))), (16, (.int .i64 t_7))] ∧ St [] w0 w m [q6, [⟨b3, [s1.v, s2.v], 46⟩]]) hl3 ⟨hF.sub ⟨rfl, rfl, rfl, rfl, rfl, rfl, rfl, rfl, rfl, rfl, trivial⟩, hS⟩ ?_ ?_
      · clear hF hS
        rintro t_13 a w st ⟨hF, hS⟩ hb3
        unfold impl_firstBreak_l2 at hb3
        refine q_seq ?_
        refine q_region ?_
        refine q_x (v := (.bool (decide (t_13 < (goLen t_10))))) hF hS (ex_ibin rfl rfl rfl) rfl rfl fun a hF => ?_
        refine q_end (n_sq ?_)
        refine q_seq ?_
        rcases bcase (decide (t_13 < (goLen t_10))) with hc4 | hc4
        · have hb3 := cond_f hc4 hb3
          refine q_cond_f hF rfl hc4 ?_
          refine q_exit (x_sq ?_)
          obtain rfl := someI hb3
          exact ⟨nofun, .inl ⟨rfl, rfl, hF.sub ⟨rfl, rfl, rfl, rfl, rfl, trivial⟩, hS.mask [false, true, true]⟩⟩
        · have hb3 := cond_t hc4 hb3
          refine q_cond_t hF rfl hc4 ?_
          refine q_skipc (n_sq ?_)
          refine q_seq ?_
          obtain ⟨j5, hj5, hb3⟩ := bindS hb3
          refine q_join (fun a w => j5 = .inl () ∧ Fr a 66 [(1, (.pointer (some ⟨b3, 0, none⟩))), (3, s6.v), (4, (.int .i64 t_7)), (5, (.int .i64 e_8)), (14, s2.v), (15, (.int .i64 (goLen p_c.Cells))), (16, (.int .i64 t_7)), (24, s12.v), (25, (.int .i64 (goLen t_10))), (26, (.int .i64 t_13))] ∧ St [] w0 w m [q6, q12, [⟨b3, [s1.v, s2.v], 46⟩]]) ?_ ?_
          · refine q_block ?_
            refine q_seq ?_
            refine q_region ?_
            refine q_x (v := (.int .i64 t_13)) hF hS (ex_move rfl) rfl rfl fun a hF => ?_
            obtain ⟨e_14, he_14, hj5⟩ := bindS hj5
            obtain ⟨vs15, at15, d15⟩ := h12.at he_14 1 rfl
            obtain rfl : vs15 = [(.int .i64 e_14)] := d15
            refine q_x (v := (elP s12 (t_13.toNat * 1))) hF hS (ex_indexAddr Try.underlying33 sz3 rfl rfl (h12.idx he_14)) rfl rfl fun a hF => ?_
            refine q_x (v := (.int .i64 e_14)) hF hS (ex_loadE1 0 Try.underlying3 rfl rfl (at15.at 0 rfl) rfl rfl) rfl rfl fun a hF => ?_
            refine q_x (v := (.int .i64 t_13)) hF hS (ex_assign rfl) rfl rfl fun a hF => ?_
            refine q_x (v := (.int .i64 e_14)) hF hS (ex_assign rfl) rfl rfl fun a hF => ?_
            refine q_end (n_sq ?_)
            refine q_seq ?_
            refine q_seq ?_
            refine q_region ?_
            refine q_x (v := (.int .i64 e_14)) hF hS (ex_move rfl) rfl rfl fun a hF => ?_
            refine q_x (v := (.pointer (some ⟨b3, 0, none⟩))) hF hS (ex_fieldAddr Try.underlying46 rfl sz33 rfl rfl) rfl rfl fun a hF => ?_
            refine q_x (v := s1.v) hF hS (ex_load1 2 0 Try.underlying33 rfl rfl rfl rfl) rfl rfl fun a hF => ?_
            refine q_x (v := (.int .i64 t_13)) hF hS (ex_move rfl) rfl rfl fun a hF => ?_
            obtain ⟨e_16, he_16, hj5⟩ := bindS hj5
            obtain ⟨vs17, at17, d17⟩ := h1.at he_16 1 rfl
            obtain rfl : vs17 = [(.int .i64 e_16)] := d17
            refine q_x (v := (elP s1 (t_13.toNat * 1))) hF hS (ex_indexAddr Try.underlying33 sz3 rfl rfl (h1.idx he_16)) rfl rfl fun a hF => ?_
            refine q_x (v := (.int .i64 e_16)) hF hS (ex_loadE1 0 Try.underlying3 rfl rfl ((at17).at) rfl rfl) rfl rfl fun a hF => ?_
            refine q_x (v := (.bool (e_14 != e_16))) hF hS (ex_ibin rfl rfl rfl) rfl rfl fun a hF => ?_
            refine q_end (n_sq ?_)
            rcases bcase (e_14 != e_16) with hc6 | hc6
            · have hj5 := cond_f hc6 hj5
              refine q_cond_f hF rfl hc6 ?_
              refine q_skipc (n_sq ?_)
              refine q_seq ?_
              refine q_region ?_
              refine q_x (v := (.int .i64 0)) hF hS (ex_assign rfl) rfl rfl fun a hF => ?_
              refine q_end (n_sq ?_)
              refine q_seq ?_
              refine q_seq ?_
              refine q_region ?_
              refine q_x (v := (.int .i64 1)) hF hS (ex_assign rfl) rfl rfl fun a hF => ?_
              refine q_end (n_sq ?_)
              refine q_block ?_
              obtain ⟨sum_24, hl7, hj5⟩ := bindS hj5
              refine q_loop (fun (s : Int × Int) a w => ∃ sum_18, ∃ k_19, s = (sum_18, k_19) ∧ Fr a 66 [(1, (.pointer (some ⟨b3, 0, none⟩))), (3, s6.v), (4, (.int .i64 t_7)), (5, (.int .i64 e_8)), (6, (.int .i64 t_13)), (7, (.int .i64 e_14)), (8, (.int .i64 sum_18)), (9, (.int .i64 k_19)), (14, s2.v), (15, (.int .i64 (goLen p_c.Cells))), (16, (.int .i64 t_7)), (24, s12.v), (25, (.int .i64 (goLen t_10))), (26, (.int .i64 t_13))] ∧ St [] w0 w m [q12, q6, [⟨b3, [s1.v, s2.v], 46⟩]]) (fun (sum_24 : Int) e a w => e = .exit 4 ∧ Fr a 66 [(1, (.pointer (some ⟨b3, 0, none⟩))), (3, s6.v), (4, (.int .i64 t_7)), (5, (.int .i64 e_8)), (8, (.int .i64 sum_24)), (14, s2.v), (15, (.int .i64 (goLen p_c.Cells))), (16, (.int .i64 t_7)), (24, s12.v), (25, (.int .i64 (goLen t_10))), (26, (.int .i64 t_13))] ∧ St [] w0 w m [q6, q12, [⟨b3, [s1.v, s2.v], 46⟩]]) hl7 ⟨_, _, rfl, hF.sub ⟨rfl, rfl, rfl, rfl, rfl, rfl, rfl, rfl, rfl, rfl, rfl, rfl, rfl, rfl, trivial⟩, hS⟩ ?_ ?_
              · clear hF hS
                rintro s a w st ⟨sum_18, k_19, rfl, hF, hS⟩ hb7
                unfold impl_firstBreak_l3 at hb7
                refine q_seq ?_
                refine q_seq ?_
                refine q_region ?_
                refine q_x (v := (.int .i64 k_19)) hF hS (ex_move rfl) rfl rfl fun a hF => ?_
                refine q_x (v := (.int .i64 e_14)) hF hS (ex_move rfl) rfl rfl fun a hF => ?_
                refine q_x (v := (.bool (decide (k_19 ≤ e_14)))) hF hS (ex_ibin rfl rfl rfl) rfl rfl fun a hF => ?_
                refine q_end (n_sq ?_)
                rcases bcase (decide (k_19 ≤ e_14)) with hc8 | hc8
                · have hb7 := cond_f hc8 hb7
                  refine q_cond_f hF rfl hc8 ?_
                  refine q_exit (x_sq ?_)
                  obtain rfl := someI hb7
                  exact ⟨nofun, .inl ⟨rfl, hF.sub ⟨rfl, rfl, rfl, rfl, rfl, rfl, rfl, rfl, rfl, rfl, rfl, trivial⟩, hS.sel [1, 0, 2] (by decide)⟩⟩
                · have hb7 := cond_t hc8 hb7
                  refine q_cond_t hF rfl hc8 ?_
                  refine q_skipc (n_sq ?_)
                  refine q_seq ?_
                  refine q_block ?_
                  refine e_region [] mixed fun w' hw' => ?_
                  have hS := hS.below hw'
                  refine e_p (v := (.int .i64 sum_18)) 0 hF rfl (ex_move rfl) rfl rfl (by kernel_rfl) (by kernel_rfl) (by kernel_rfl) fun a hF => ?_
                  refine e_p (v := (.pointer (some ⟨b3, 1, none⟩))) 1 hF rfl (ex_fieldAddr Try.underlying46 rfl sz33 rfl rfl) rfl rfl (by kernel_rfl) (by kernel_rfl) (by kernel_rfl) fun a hF => ?_
                  refine e_x (v := s2.v) 2 hF hS rfl (ex_load1 2 0 Try.underlying33 rfl rfl rfl rfl) rfl rfl (by kernel_rfl) (by kernel_rfl) (by kernel_rfl) (by kernel_rfl) fun a hF => ?_
                  refine e_p (v := (.int .i64 t_7)) 3 hF rfl (ex_move rfl) rfl rfl (by kernel_rfl) (by kernel_rfl) (by kernel_rfl) fun a hF => ?_
                  refine e_p (v := (.int .i64 k_19)) 4 hF rfl (ex_move rfl) rfl rfl (by kernel_rfl) (by kernel_rfl) (by kernel_rfl) fun a hF => ?_
                  refine e_p (v := s6.v) 5 hF rfl (ex_move rfl) rfl rfl (by kernel_rfl) (by kernel_rfl) (by kernel_rfl) fun a hF => ?_
                  refine e_p (v := (.int .i64 t_13)) 6 hF rfl (ex_move rfl) rfl rfl (by kernel_rfl) (by kernel_rfl) (by kernel_rfl) fun a hF => ?_
                  obtain ⟨e_20, he_20, hb7⟩ := bindS hb7
                  obtain ⟨vs21, at21, d21⟩ := h6.at he_20 1 rfl
                  obtain rfl : vs21 = [(.int .i64 e_20)] := d21
                  refine e_p (v := (elP s6 (t_13.toNat * 1))) 7 hF rfl (ex_indexAddr Try.underlying33 sz3 rfl rfl (h6.idx he_20)) rfl rfl (by kernel_rfl) (by kernel_rfl) (by kernel_rfl) fun a hF => ?_
                  refine e_x (v := (.int .i64 e_20)) 8 hF hS rfl (ex_loadE1 0 Try.underlying3 rfl rfl (at21.at 1 rfl) rfl rfl) rfl rfl (by kernel_rfl) (by kernel_rfl) (by kernel_rfl) (by kernel_rfl) fun a hF => ?_
                  refine e_p (v := (.int .i64 (w64 (k_19 * e_20)))) 9 hF rfl (ex_ibin rfl rfl rfl) rfl rfl (by kernel_rfl) (by kernel_rfl) (by kernel_rfl) fun a hF => ?_
                  refine e_p (v := (.int .i64 (w64 (t_7 - (w64 (k_19 * e_20)))))) 10 hF rfl (ex_ibin rfl rfl rfl) rfl rfl (by kernel_rfl) (by kernel_rfl) (by kernel_rfl) fun a hF => ?_
                  obtain ⟨e_22, he_22, hb7⟩ := bindS hb7
                  obtain ⟨vs23, at23, d23⟩ := h2.at he_22 1 rfl
                  obtain rfl : vs23 = [(.int .i64 e_22)] := d23
                  refine e_p (v := (elP s2 ((w64 (t_7 - (w64 (k_19 * e_20)))).toNat * 1))) 11 hF rfl (ex_indexAddr Try.underlying33 sz3 rfl rfl (h2.idx he_22)) rfl rfl (by kernel_rfl) (by kernel_rfl) (by kernel_rfl) fun a hF => ?_
                  refine e_x (v := (.int .i64 e_22)) 12 hF hS rfl (ex_loadE1 0 Try.underlying3 rfl rfl ((at23).at) rfl rfl) rfl rfl (by kernel_rfl) (by kernel_rfl) (by kernel_rfl) (by kernel_rfl) fun a hF => ?_
                  refine e_p (v := (.int .i64 (w64 (sum_18 + e_22)))) 13 hF rfl (ex_ibin rfl rfl rfl) rfl rfl (by kernel_rfl) (by kernel_rfl) (by kernel_rfl) fun a hF => ?_
                  refine e_p (v := (.int .i64 (w64 (sum_18 + e_22)))) 14 hF rfl (ex_assign rfl) rfl rfl (by kernel_rfl) (by kernel_rfl) (by kernel_rfl) fun a hF => ?_
                  refine e_end (by kernel_rfl) (n_ib (n_sq ?_)) _
                  refine q_region ?_
                  refine q_x (v := (.int .i64 k_19)) hF hS (ex_move rfl) rfl rfl fun a hF => ?_
                  refine q_x (v := (.int .i64 (w64 (k_19 + 1)))) hF hS (ex_ibin rfl rfl rfl) rfl rfl fun a hF => ?_
                  refine q_x (v := (.int .i64 (w64 (k_19 + 1)))) hF hS (ex_assign rfl) rfl rfl fun a hF => ?_
                  refine q_end ?_
                  obtain rfl := someI hb7
                  exact ⟨rfl, _, _, rfl, hF.sub ⟨rfl, rfl, rfl, rfl, rfl, rfl, rfl, rfl, rfl, rfl, rfl, rfl, rfl, rfl, trivial⟩, hS⟩
              · rintro e a w ⟨rfl, hF, hS⟩
                refine x_ib (n_sq ?_)
                refine q_seq ?_
                refine q_region ?_
                refine q_x (v := (.int .i64 sum_24)) hF hS (ex_move rfl) rfl rfl fun a hF => ?_
                refine q_x (v := (.int .i64 e_8)) hF hS (ex_move rfl) rfl rfl fun a hF => ?_
                refine q_x (v := (.bool (sum_24 != e_8))) hF hS (ex_ibin rfl rfl rfl) rfl rfl fun a hF => ?_
                refine q_end (n_sq ?_)
                rcases bcase (sum_24 != e_8) with hc9 | hc9
                · have hj5 := cond_f hc9 hj5
                  refine q_cond_f hF rfl hc9 ?_
                  refine q_skipc (n_ib (n_jn ?_))
                  obtain rfl := someI hj5
                  exact ⟨rfl, hF.sub ⟨rfl, rfl, rfl, rfl, rfl, rfl, rfl, rfl, rfl, rfl, trivial⟩, hS⟩
                · have hj5 := cond_t hc9 hj5
                  refine q_cond_t hF rfl hc9 ?_
                  refine q_seq ?_
                  refine q_region ?_
                  refine q_x (v := (.int .i64 t_7)) hF hS (ex_move rfl) rfl rfl fun a hF => ?_
                  refine q_x (v := (.int .i64 t_7)) hF hS (ex_assign rfl) rfl rfl fun a hF => ?_
                  refine q_end (n_sq (q_ret (r_ib (r_jn ?_))))
                  obtain rfl := someI hj5
                  refine r_sq ?_
                  obtain rfl := someI hb3
                  refine ⟨nofun, .inr fun ho => ?_⟩
                  subst ho
                  refine r_ib (r_ib (r_sq ?_))
                  obtain rfl := someI hb1
                  refine ⟨nofun, .inr fun ho => ?_⟩
                  subst ho
                  refine r_ib (r_sq ?_)
                  obtain rfl := someI hr
                  exact ret_of hF hS rfl (.tmp rfl .nil) rfl
            · have hj5 := cond_t hc6 hj5
              refine q_cond_t hF rfl hc6 ?_
              refine q_exit (x_sq (x_ib (n_jn ?_)))
              obtain rfl := someI hj5
              exact ⟨rfl, hF.sub ⟨rfl, rfl, rfl, rfl, rfl, rfl, rfl, rfl, rfl, rfl, trivial⟩, hS.sel [1, 0, 2] (by decide)⟩
          · rintro a w ⟨rfl, hF, hS⟩
            refine n_sq ?_
            refine q_region ?_
            refine q_x (v := (.int .i64 (w64 (t_13 + 1)))) hF hS (ex_ibin rfl rfl rfl) rfl rfl fun a hF => ?_
            refine q_x (v := (.int .i64 (w64 (t_13 + 1)))) hF hS (ex_move rfl) rfl rfl fun a hF => ?_
            refine q_end ?_
            obtain rfl := someI hb3
            exact ⟨rfl, hF.sub ⟨rfl, rfl, rfl, rfl, rfl, rfl, rfl, rfl, rfl, rfl, trivial⟩, hS.sel [1, 0, 2] (by decide)⟩
      · rintro e a w ⟨rfl, rfl, hF, hS⟩
        refine x_ib (n_ib (n_sq ?_))
        refine q_region ?_
        refine q_x (v := (.int .i64 (w64 (t_7 + 1)))) hF hS (ex_ibin rfl rfl rfl) rfl rfl fun a hF => ?_
        refine q_x (v := (.int .i64 (w64 (t_7 + 1)))) hF hS (ex_move rfl) rfl rfl fun a hF => ?_
        refine q_end ?_
        obtain rfl := someI hb1
        exact ⟨rfl, hF.sub ⟨rfl, rfl, rfl, rfl, rfl, trivial⟩, hS⟩
  · rintro e a w ⟨rfl, rfl, hF, hS⟩
    refine x_ib (n_sq ?_)
    refine q_seq ?_
    refine q_region ?_
    refine q_x (v := (.pointer (some ⟨b3, 1, none⟩))) hF hS (ex_fieldAddr Try.underlying46 rfl sz33 rfl rfl) rfl rfl fun a hF => ?_
    refine q_x (v := s2.v) hF hS (ex_load1 0 0 Try.underlying33 rfl rfl rfl rfl) rfl rfl fun a hF => ?_
    refine q_x (v := (.int .i64 (goLen p_c.Cells))) hF hS (ex_len Try.underlying33 rfl h2.len) rfl rfl fun a hF => ?_
    refine q_x (v := (.int .i64 (goLen p_c.Cells))) hF hS (ex_assign rfl) rfl rfl fun a hF => ?_
    refine q_end (n_sq (q_ret ?_))
    obtain rfl := someI hr
    exact ret_of hF hS rfl (.tmp rfl .nil) rfl

theorem c_impl_IsCube (p_c : impl_Cube) (r : Bool) (hr : impl_IsCube p_c = some r) (w0 : World) (m : Mem) (hv : Vis m w0) (s1 : Sl) (h1 : Rd m s1 p_c.Sizes) (s2 : Sl) (h2 : Rd m s2 p_c.Cells) :
    Ret Try.prog 27 [(.agg #[s1.v, s2.v])] w0 (fun v _ => v = (.bool r)) := by
  unfold impl_IsCube at hr
  refine ret_start Try.func27 rfl 13 rfl rfl m hv fun a hF hS => ?_
  refine q_seq ?_
  refine q_region ?_
  refine q_box (cs := [s1.v, s2.v]) hF hS rfl rfl rfl fun a w b3 hF hS => ?_
  refine q_x (v := (.bool false)) hF hS (ex_assign rfl) rfl rfl fun a hF => ?_
  refine q_end (n_sq ?_)
  refine q_seq ?_
  obtain ⟨t_9, hj1, hr⟩ := bindS hr
  refine q_join (fun a w => Fr a 13 [(2, (.bool t_9))] ∧ St [] w0 w m []) ?_ ?_
  · refine e_region [] mixed fun w' hw' => ?_
    have hS := hS.below hw'
    refine e_x (v := (.agg #[s1.v, s2.v])) 0 hF hS rfl (ex_loadA (vs := [s1.v, s2.v]) 0 0 Try.underlying46 rfl sz46 rfl rfl rfl rfl) rfl rfl (by kernel_rfl) (by kernel_rfl) (by kernel_rfl) (by kernel_rfl) fun a hF => ?_
    refine e_one 1 (by kernel_rfl) ?_
    obtain ⟨t_4, ht_4, hj1⟩ := bindS hj1
    refine e_call (vs := [(.agg #[s1.v, s2.v])]) hF hS rfl Try.func70 (by kernel_rfl) rfl rfl rfl (c_impl_hasRightForm p_c t_4 ht_4 _ m hS.vis s1 h1 s2 h2) ?_
    rintro a w _ rfl hF hS
    refine e_p (v := (.bool t_4)) 2 hF rfl (ex_move rfl) rfl rfl (by kernel_rfl) (by kernel_rfl) (by kernel_rfl) fun a hF => ?_
    rcases bcase (t_4) with hc2 | hc2
    · have hj1 := cond_f hc2 hj1
      refine e_skipP 3 hF rfl (wanted_f hF rfl rfl rfl hc2 rfl) rfl (by kernel_rfl) (by kernel_rfl) (by kernel_rfl) fun a hF => ?_
      refine e_skipP 4 hF rfl (wanted_f hF rfl rfl rfl hc2 rfl) rfl (by kernel_rfl) (by kernel_rfl) (by kernel_rfl) fun a hF => ?_
      refine e_skipP 5 hF rfl (wanted_f hF rfl rfl rfl hc2 rfl) rfl (by kernel_rfl) (by kernel_rfl) (by kernel_rfl) fun a hF => ?_
      refine e_skipP 6 hF rfl (wanted_f hF rfl rfl rfl hc2 rfl) rfl (by kernel_rfl) (by kernel_rfl) (by kernel_rfl) fun a hF => ?_
      refine e_skipP 7 hF rfl (wanted_f hF rfl rfl rfl hc2 rfl) rfl (by kernel_rfl) (by kernel_rfl) (by kernel_rfl) fun a hF => ?_
      refine e_skipP 8 hF rfl (wanted_f hF rfl rfl rfl hc2 rfl) rfl (by kernel_rfl) (by kernel_rfl) (by kernel_rfl) fun a hF => ?_
      refine e_p (v := (.bool false)) 9 hF rfl (ex_pick_f rfl rfl hc2) rfl rfl (by kernel_rfl) (by kernel_rfl) (by kernel_rfl) fun a hF => ?_
      refine e_p (v := (.bool false)) 10 hF rfl (ex_assign rfl) rfl rfl (by kernel_rfl) (by kernel_rfl) (by kernel_rfl) fun a hF => ?_
      refine e_end (by kernel_rfl) (n_jn ?_) _
      obtain rfl := someI hj1
      exact ⟨hF.sub ⟨rfl, trivial⟩, hS.mask [false]⟩
    · have hj1 := cond_t hc2 hj1
      refine e_xg (v := (.agg #[s1.v, s2.v])) 3 hF hS rfl (ex_loadA (vs := [s1.v, s2.v]) 0 0 Try.underlying46 rfl sz46 rfl rfl rfl rfl) (wanted_t hF rfl rfl rfl hc2) rfl (by kernel_rfl) (by kernel_rfl) (by kernel_rfl) (by kernel_rfl) fun a hF => ?_
      refine e_pg (v := (.pointer (some ⟨b3, 1, none⟩))) 5 hF rfl (ex_fieldAddr Try.underlying46 rfl sz33 rfl rfl) (wanted_t hF rfl rfl rfl hc2) rfl (by kernel_rfl) (by kernel_rfl) (by kernel_rfl) fun a hF => ?_
      refine e_xg (v := s2.v) 6 hF hS rfl (ex_load1 0 0 Try.underlying33 rfl rfl rfl rfl) (wanted_t hF rfl rfl rfl hc2) rfl (by kernel_rfl) (by kernel_rfl) (by kernel_rfl) (by kernel_rfl) fun a hF => ?_
      refine e_pg (v := (.int .i64 (goLen p_c.Cells))) 7 hF rfl (ex_len Try.underlying33 rfl h2.len) (wanted_t hF rfl rfl rfl hc2) rfl (by kernel_rfl) (by kernel_rfl) (by kernel_rfl) fun a hF => ?_
      refine e_one 4 (by kernel_rfl) ?_
      obtain ⟨t_8, ht_8, hj1⟩ := bindS hj1
      refine e_callg (vs := [(.agg #[s1.v, s2.v])]) hF hS rfl (wanted_t hF rfl rfl rfl hc2) Try.func71 (by kernel_rfl) rfl rfl rfl (c_impl_firstBreak p_c t_8 ht_8 _ m hS.vis s1 h1 s2 h2) ?_
      rintro a w _ rfl hF hS
      refine e_pg (v := (.bool (t_8 == (goLen p_c.Cells)))) 8 hF rfl (ex_ibin rfl rfl rfl) (wanted_t hF rfl rfl rfl hc2) rfl (by kernel_rfl) (by kernel_rfl) (by kernel_rfl) fun a hF => ?_
      refine e_p (v := (.bool (t_8 == (goLen p_c.Cells)))) 9 hF rfl (ex_pick_t rfl rfl hc2) rfl rfl (by kernel_rfl) (by kernel_rfl) (by kernel_rfl) fun a hF => ?_
      refine e_p (v := (.bool (t_8 == (goLen p_c.Cells)))) 10 hF rfl (ex_assign rfl) rfl rfl (by kernel_rfl) (by kernel_rfl) (by kernel_rfl) fun a hF => ?_
      refine e_end (by kernel_rfl) (n_jn ?_) _
      obtain rfl := someI hj1
      exact ⟨hF.sub ⟨rfl, trivial⟩, hS.mask [false]⟩
  · rintro a w ⟨hF, hS⟩
    refine n_sq (q_ret ?_)
    obtain rfl := someI hr
    exact ret_of hF hS rfl (.tmp rfl .nil) rfl

end Go.Proofs.Ytiikfhfnkppeeaa
