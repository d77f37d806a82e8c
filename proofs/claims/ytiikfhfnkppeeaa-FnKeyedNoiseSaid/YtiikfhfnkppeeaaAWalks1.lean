/- The walks of the functions: each returns what its plain function says. -/
import Derived.Test.YtiikfhfnkppeeaaADefs
import Derived.Test.YtiikfhfnkppeeaaRows
namespace Go.Proofs.Ytiikfhfnkppeeaa
open Go.Gx Go.Gx.F Go.RowKit
set_option linter.all false
set_option maxRecDepth 10000

theorem mixed : Try.prog.follows .mixedOrders = true := by kernel_rfl
theorem inf3 : inf Try.prog 3 = some (1, 8, [(.int .i64 0)]) := by kernel_rfl
theorem inf33 : inf Try.prog 33 = some (1, 24, [nilS.v]) := by kernel_rfl
theorem sz3 : szOf Try.prog 3 = some 1 := by kernel_rfl
theorem sz5 : szOf Try.prog 5 = some 1 := by kernel_rfl
theorem sz22 : szOf Try.prog 22 = some 1 := by kernel_rfl
theorem sz23 : szOf Try.prog 23 = some 1 := by kernel_rfl
theorem sz25 : szOf Try.prog 25 = some 1 := by kernel_rfl
theorem sz33 : szOf Try.prog 33 = some 1 := by kernel_rfl
theorem sz38 : szOf Try.prog 38 = some 2 := by kernel_rfl
theorem sz67 : szOf Try.prog 67 = some 1 := by kernel_rfl

theorem c_spec_l1Cur_next (p_c : spec_l1Cur) (r : Int × spec_l1Cur) (hr : spec_l1Cur_next p_c = some r) (w0 : World) (m : Mem) (b_p_c : Nat) (s1 : Sl) (h1 : Rd m s1 p_c.code) (X : List Nat) (hS : St X w0 w0 m [[⟨b_p_c, [s1.v, (.int .i64 p_c.at_), (.int .u64 p_c.seed.v)], 69⟩]]) :
    RetX Try.prog 85 [(.pointer (some ⟨b_p_c, 0, none⟩))] w0 (fun v w => v = (.int .i64 r.1) ∧ St X w0 w m [[⟨b_p_c, [s1.v, (.int .i64 r.2.at_), (.int .u64 r.2.seed.v)], 69⟩]] ∧ r.2.code = p_c.code) := by
  unfold spec_l1Cur_next at hr
  refine ret_startX Try.func85 rfl 62 rfl rfl fun a hF => ?_
  refine q_seq ?_
  refine q_region ?_
  refine q_x (v := (.int .i64 0)) hF hS (ex_assign rfl) rfl rfl fun a hF => ?_
  refine q_end (n_sq ?_)
  refine q_seq ?_
  refine q_region ?_
  refine q_x (v := (.int .i64 0)) hF hS (ex_assign rfl) rfl rfl fun a hF => ?_
  refine q_end (n_sq ?_)
  refine q_seq ?_
  refine q_seq ?_
  refine e_region [] mixed fun w' hw' => ?_
  have hS := hS.below hw'
  refine e_p (v := (.pointer (some ⟨b_p_c, 0, none⟩))) 0 hF rfl (ex_move rfl) rfl rfl (by kernel_rfl) (by kernel_rfl) (by kernel_rfl) fun a hF => ?_
  refine e_p (v := (.pointer (some ⟨b_p_c, 0, none⟩))) 1 hF rfl (ex_nilCheck rfl) rfl rfl (by kernel_rfl) (by kernel_rfl) (by kernel_rfl) fun a hF => ?_
  refine e_p (v := (.pointer (some ⟨b_p_c, 1, none⟩))) 2 hF rfl (ex_fieldAddr Try.underlying69 rfl sz3 rfl rfl) rfl rfl (by kernel_rfl) (by kernel_rfl) (by kernel_rfl) fun a hF => ?_
  refine e_x (v := (.int .i64 p_c.at_)) 3 hF hS rfl (ex_load1 0 0 Try.underlying3 rfl rfl rfl rfl) rfl rfl (by kernel_rfl) (by kernel_rfl) (by kernel_rfl) (by kernel_rfl) fun a hF => ?_
  refine e_p (v := (.pointer (some ⟨b_p_c, 0, none⟩))) 4 hF rfl (ex_move rfl) rfl rfl (by kernel_rfl) (by kernel_rfl) (by kernel_rfl) fun a hF => ?_
  refine e_p (v := (.pointer (some ⟨b_p_c, 0, none⟩))) 5 hF rfl (ex_nilCheck rfl) rfl rfl (by kernel_rfl) (by kernel_rfl) (by kernel_rfl) fun a hF => ?_
  refine e_p (v := (.pointer (some ⟨b_p_c, 0, none⟩))) 6 hF rfl (ex_fieldAddr Try.underlying69 rfl sz22 rfl rfl) rfl rfl (by kernel_rfl) (by kernel_rfl) (by kernel_rfl) fun a hF => ?_
  refine e_x (v := s1.v) 7 hF hS rfl (ex_load1 0 0 Try.underlying22 rfl rfl rfl rfl) rfl rfl (by kernel_rfl) (by kernel_rfl) (by kernel_rfl) (by kernel_rfl) fun a hF => ?_
  refine e_p (v := (.int .i64 (goLen p_c.code))) 8 hF rfl (ex_len Try.underlying22 rfl h1.len) rfl rfl (by kernel_rfl) (by kernel_rfl) (by kernel_rfl) fun a hF => ?_
  refine e_p (v := (.bool (decide (p_c.at_ < (goLen p_c.code))))) 9 hF rfl (ex_ibin rfl rfl rfl) rfl rfl (by kernel_rfl) (by kernel_rfl) (by kernel_rfl) fun a hF => ?_
  refine e_end (by kernel_rfl) (n_sq ?_) _
  obtain ⟨b_4, hj1, hr⟩ := bindS hr
  refine q_join (fun a w => Fr a 62 [(0, (.pointer (some ⟨b_p_c, 0, none⟩))), (3, (.int .i64 b_4))] ∧ St X w0 w m [[⟨b_p_c, [s1.v, (.int .i64 p_c.at_), (.int .u64 p_c.seed.v)], 69⟩]]) ?_ ?_
  · rcases bcase (decide (p_c.at_ < (goLen p_c.code))) with hc2 | hc2
    · have hj1 := cond_f hc2 hj1
      refine q_cond_f hF rfl hc2 ?_
      refine q_skipc (n_jn ?_)
      obtain rfl := someI hj1
      exact ⟨hF.sub ⟨rfl, rfl, trivial⟩, hS⟩
    · have hj1 := cond_t hc2 hj1
      refine q_cond_t hF rfl hc2 ?_
      refine e_region [] mixed fun w' hw' => ?_
      have hS := hS.below hw'
      refine e_p (v := (.pointer (some ⟨b_p_c, 0, none⟩))) 0 hF rfl (ex_move rfl) rfl rfl (by kernel_rfl) (by kernel_rfl) (by kernel_rfl) fun a hF => ?_
      refine e_p (v := (.pointer (some ⟨b_p_c, 0, none⟩))) 1 hF rfl (ex_nilCheck rfl) rfl rfl (by kernel_rfl) (by kernel_rfl) (by kernel_rfl) fun a hF => ?_
      refine e_p (v := (.pointer (some ⟨b_p_c, 0, none⟩))) 2 hF rfl (ex_fieldAddr Try.underlying69 rfl sz22 rfl rfl) rfl rfl (by kernel_rfl) (by kernel_rfl) (by kernel_rfl) fun a hF => ?_
      refine e_x (v := s1.v) 3 hF hS rfl (ex_load1 0 0 Try.underlying22 rfl rfl rfl rfl) rfl rfl (by kernel_rfl) (by kernel_rfl) (by kernel_rfl) (by kernel_rfl) fun a hF => ?_
      refine e_p (v := (.pointer (some ⟨b_p_c, 0, none⟩))) 4 hF rfl (ex_move rfl) rfl rfl (by kernel_rfl) (by kernel_rfl) (by kernel_rfl) fun a hF => ?_
      refine e_p (v := (.pointer (some ⟨b_p_c, 0, none⟩))) 5 hF rfl (ex_nilCheck rfl) rfl rfl (by kernel_rfl) (by kernel_rfl) (by kernel_rfl) fun a hF => ?_
      refine e_p (v := (.pointer (some ⟨b_p_c, 1, none⟩))) 6 hF rfl (ex_fieldAddr Try.underlying69 rfl sz3 rfl rfl) rfl rfl (by kernel_rfl) (by kernel_rfl) (by kernel_rfl) fun a hF => ?_
      refine e_x (v := (.int .i64 p_c.at_)) 7 hF hS rfl (ex_load1 0 0 Try.underlying3 rfl rfl rfl rfl) rfl rfl (by kernel_rfl) (by kernel_rfl) (by kernel_rfl) (by kernel_rfl) fun a hF => ?_
      obtain ⟨e_2, he_2, hj1⟩ := bindS hj1
      obtain ⟨vs3, at3, d3⟩ := h1.at he_2 1 rfl
      obtain rfl : vs3 = [(.int .u8 e_2.v)] := d3
      refine e_p (v := (elP s1 (p_c.at_.toNat * 1))) 8 hF rfl (ex_indexAddr Try.underlying22 sz5 rfl rfl (h1.idx he_2)) rfl rfl (by kernel_rfl) (by kernel_rfl) (by kernel_rfl) fun a hF => ?_
      refine e_x (v := (.int .u8 e_2.v)) 9 hF hS rfl (ex_loadE1 0 Try.underlying5 rfl rfl ((at3).at) rfl rfl) rfl rfl (by kernel_rfl) (by kernel_rfl) (by kernel_rfl) (by kernel_rfl) fun a hF => ?_
      refine e_p (v := (.int .i64 (w64 e_2.v))) 10 hF rfl (ex_conv Try.underlying5 Try.underlying3 rfl) rfl rfl (by kernel_rfl) (by kernel_rfl) (by kernel_rfl) fun a hF => ?_
      refine e_p (v := (.int .i64 (w64 e_2.v))) 11 hF rfl (ex_assign rfl) rfl rfl (by kernel_rfl) (by kernel_rfl) (by kernel_rfl) fun a hF => ?_
      refine e_end (by kernel_rfl) (n_jn ?_) _
      obtain rfl := someI hj1
      exact ⟨hF.sub ⟨rfl, rfl, trivial⟩, hS⟩
  · rintro a w ⟨hF, hS⟩
    refine n_sq ?_
    refine q_seq ?_
    refine q_region ?_
    refine q_x (v := (.pointer (some ⟨b_p_c, 0, none⟩))) hF hS (ex_move rfl) rfl rfl fun a hF => ?_
    refine q_x (v := (.pointer (some ⟨b_p_c, 0, none⟩))) hF hS (ex_nilCheck rfl) rfl rfl fun a hF => ?_
    refine q_x (v := (.pointer (some ⟨b_p_c, 1, none⟩))) hF hS (ex_fieldAddr Try.underlying69 rfl sz3 rfl rfl) rfl rfl fun a hF => ?_
    refine q_x (v := (.int .i64 p_c.at_)) hF hS (ex_load1 0 0 Try.underlying3 rfl rfl rfl rfl) rfl rfl fun a hF => ?_
    refine q_x (v := (.int .i64 (w64 (p_c.at_ + 1)))) hF hS (ex_ibin rfl rfl rfl) rfl rfl fun a hF => ?_
    refine q_x (v := (.pointer (some ⟨b_p_c, 0, none⟩))) hF hS (ex_nilCheck rfl) rfl rfl fun a hF => ?_
    refine q_x (v := (.pointer (some ⟨b_p_c, 1, none⟩))) hF hS (ex_fieldAddr Try.underlying69 rfl sz3 rfl rfl) rfl rfl fun a hF => ?_
    refine q_store (vs := [(.int .i64 (w64 (p_c.at_ + 1)))]) (cs' := [s1.v, (.int .i64 (w64 (p_c.at_ + 1))), (.int .u64 p_c.seed.v)]) 0 0 hF hS sz3 rfl rfl rfl rfl rfl rfl rfl rfl fun a w hF hS => ?_
    refine q_end (n_sq ?_)
    refine q_seq ?_
    refine q_region ?_
    refine q_x (v := (.pointer (some ⟨b_p_c, 0, none⟩))) hF hS (ex_move rfl) rfl rfl fun a hF => ?_
    refine q_x (v := (.pointer (some ⟨b_p_c, 0, none⟩))) hF hS (ex_move rfl) rfl rfl fun a hF => ?_
    refine q_x (v := (.pointer (some ⟨b_p_c, 0, none⟩))) hF hS (ex_nilCheck rfl) rfl rfl fun a hF => ?_
    refine q_x (v := (.pointer (some ⟨b_p_c, 2, none⟩))) hF hS (ex_fieldAddr Try.underlying69 rfl sz67 rfl rfl) rfl rfl fun a hF => ?_
    refine q_x (v := (.int .u64 p_c.seed.v)) hF hS (ex_load1 0 0 Try.underlying67 rfl rfl rfl rfl) rfl rfl fun a hF => ?_
    refine q_x (v := (.int .u64 (IntKind.wrap .u64 (p_c.seed.v * 6364136223846793005)))) hF hS (ex_ibin rfl rfl rfl) rfl rfl fun a hF => ?_
    refine q_x (v := (.int .i64 b_4)) hF hS (ex_move rfl) rfl rfl fun a hF => ?_
    refine q_x (v := (.int .u64 (IntKind.wrap .u64 b_4))) hF hS (ex_conv Try.underlying3 Try.underlying67 rfl) rfl rfl fun a hF => ?_
    refine q_x (v := (.int .u64 (IntKind.wrap .u64 ((IntKind.wrap .u64 (p_c.seed.v * 6364136223846793005)) + (IntKind.wrap .u64 b_4))))) hF hS (ex_ibin rfl rfl rfl) rfl rfl fun a hF => ?_
    refine q_x (v := (.int .u64 (IntKind.wrap .u64 ((IntKind.wrap .u64 ((IntKind.wrap .u64 (p_c.seed.v * 6364136223846793005)) + (IntKind.wrap .u64 b_4))) + 1442695040888963407)))) hF hS (ex_ibin rfl rfl rfl) rfl rfl fun a hF => ?_
    refine q_x (v := (.pointer (some ⟨b_p_c, 0, none⟩))) hF hS (ex_nilCheck rfl) rfl rfl fun a hF => ?_
    refine q_x (v := (.pointer (some ⟨b_p_c, 2, none⟩))) hF hS (ex_fieldAddr Try.underlying69 rfl sz67 rfl rfl) rfl rfl fun a hF => ?_
    refine q_store (vs := [(.int .u64 (IntKind.wrap .u64 ((IntKind.wrap .u64 ((IntKind.wrap .u64 (p_c.seed.v * 6364136223846793005)) + (IntKind.wrap .u64 b_4))) + 1442695040888963407)))]) (cs' := [s1.v, (.int .i64 (w64 (p_c.at_ + 1))), (.int .u64 (IntKind.wrap .u64 ((IntKind.wrap .u64 ((IntKind.wrap .u64 (p_c.seed.v * 6364136223846793005)) + (IntKind.wrap .u64 b_4))) + 1442695040888963407)))]) 0 0 hF hS sz67 rfl rfl rfl rfl rfl rfl rfl rfl fun a w hF hS => ?_
    refine q_end (n_sq ?_)
    refine q_seq ?_
    refine q_seq ?_
    refine e_region [] mixed fun w' hw' => ?_
    have hS := hS.below hw'
    refine e_p (v := (.pointer (some ⟨b_p_c, 0, none⟩))) 0 hF rfl (ex_move rfl) rfl rfl (by kernel_rfl) (by kernel_rfl) (by kernel_rfl) fun a hF => ?_
    refine e_p (v := (.pointer (some ⟨b_p_c, 0, none⟩))) 1 hF rfl (ex_nilCheck rfl) rfl rfl (by kernel_rfl) (by kernel_rfl) (by kernel_rfl) fun a hF => ?_
    refine e_p (v := (.pointer (some ⟨b_p_c, 1, none⟩))) 2 hF rfl (ex_fieldAddr Try.underlying69 rfl sz3 rfl rfl) rfl rfl (by kernel_rfl) (by kernel_rfl) (by kernel_rfl) fun a hF => ?_
    refine e_x (v := (.int .i64 (w64 (p_c.at_ + 1)))) 3 hF hS rfl (ex_load1 0 0 Try.underlying3 rfl rfl rfl rfl) rfl rfl (by kernel_rfl) (by kernel_rfl) (by kernel_rfl) (by kernel_rfl) fun a hF => ?_
    refine e_p (v := (.pointer (some ⟨b_p_c, 0, none⟩))) 4 hF rfl (ex_move rfl) rfl rfl (by kernel_rfl) (by kernel_rfl) (by kernel_rfl) fun a hF => ?_
    refine e_p (v := (.pointer (some ⟨b_p_c, 0, none⟩))) 5 hF rfl (ex_nilCheck rfl) rfl rfl (by kernel_rfl) (by kernel_rfl) (by kernel_rfl) fun a hF => ?_
    refine e_p (v := (.pointer (some ⟨b_p_c, 0, none⟩))) 6 hF rfl (ex_fieldAddr Try.underlying69 rfl sz22 rfl rfl) rfl rfl (by kernel_rfl) (by kernel_rfl) (by kernel_rfl) fun a hF => ?_
    refine e_x (v := s1.v) 7 hF hS rfl (ex_load1 0 0 Try.underlying22 rfl rfl rfl rfl) rfl rfl (by kernel_rfl) (by kernel_rfl) (by kernel_rfl) (by kernel_rfl) fun a hF => ?_
    refine e_p (v := (.int .i64 (goLen p_c.code))) 8 hF rfl (ex_len Try.underlying22 rfl h1.len) rfl rfl (by kernel_rfl) (by kernel_rfl) (by kernel_rfl) fun a hF => ?_
    refine e_p (v := (.bool (decide ((w64 (p_c.at_ + 1)) ≤ (goLen p_c.code))))) 9 hF rfl (ex_ibin rfl rfl rfl) rfl rfl (by kernel_rfl) (by kernel_rfl) (by kernel_rfl) fun a hF => ?_
    refine e_end (by kernel_rfl) (n_sq ?_) _
    rcases bcase (decide ((w64 (p_c.at_ + 1)) ≤ (goLen p_c.code))) with hc3 | hc3
    · have hr := cond_f hc3 hr
      refine q_cond_f hF rfl hc3 ?_
      refine q_skipc (n_sq ?_)
      refine q_seq ?_
      refine q_region ?_
      refine q_x (v := (.pointer (some ⟨b_p_c, 0, none⟩))) hF hS (ex_move rfl) rfl rfl fun a hF => ?_
      refine q_x (v := (.pointer (some ⟨b_p_c, 0, none⟩))) hF hS (ex_nilCheck rfl) rfl rfl fun a hF => ?_
      refine q_x (v := (.pointer (some ⟨b_p_c, 2, none⟩))) hF hS (ex_fieldAddr Try.underlying69 rfl sz67 rfl rfl) rfl rfl fun a hF => ?_
      refine q_x (v := (.int .u64 (IntKind.wrap .u64 ((IntKind.wrap .u64 ((IntKind.wrap .u64 (p_c.seed.v * 6364136223846793005)) + (IntKind.wrap .u64 b_4))) + 1442695040888963407)))) hF hS (ex_load1 0 0 Try.underlying67 rfl rfl rfl rfl) rfl rfl fun a hF => ?_
      obtain ⟨t_5, ht_5, hr⟩ := bindS hr
      refine q_x (v := (.int .u64 t_5)) hF hS (ex_shr rfl rfl ht_5) rfl rfl fun a hF => ?_
      refine q_x (v := (.int .u64 (goBits .and .u64 t_5 255))) hF hS (ex_bits rfl rfl rfl) rfl rfl fun a hF => ?_
      refine q_x (v := (.int .i64 (w64 (goBits .and .u64 t_5 255)))) hF hS (ex_conv Try.underlying67 Try.underlying3 rfl) rfl rfl fun a hF => ?_
      refine q_x (v := (.int .i64 (w64 (goBits .and .u64 t_5 255)))) hF hS (ex_assign rfl) rfl rfl fun a hF => ?_
      refine q_end (n_sq (q_ret ?_))
      obtain rfl := someI hr
      exact ret_ofX hF hS rfl (.tmp rfl .nil) ⟨rfl, hS.sel [0] (by decide), rfl⟩
    · have hr := cond_t hc3 hr
      refine q_cond_t hF rfl hc3 ?_
      refine q_seq ?_
      refine q_region ?_
      refine q_x (v := (.int .i64 b_4)) hF hS (ex_move rfl) rfl rfl fun a hF => ?_
      refine q_x (v := (.int .i64 b_4)) hF hS (ex_assign rfl) rfl rfl fun a hF => ?_
      refine q_end (n_sq (q_ret (r_sq ?_)))
      obtain rfl := someI hr
      exact ret_ofX hF hS rfl (.tmp rfl .nil) ⟨rfl, hS.sel [0] (by decide), rfl⟩

theorem c_spec_l1Cur_pick (p_c : spec_l1Cur) (p_n : Int) (r : Int × spec_l1Cur) (hr : spec_l1Cur_pick p_c p_n = some r) (w0 : World) (m : Mem) (b_p_c : Nat) (s1 : Sl) (h1 : Rd m s1 p_c.code) (X : List Nat) (hS : St X w0 w0 m [[⟨b_p_c, [s1.v, (.int .i64 p_c.at_), (.int .u64 p_c.seed.v)], 69⟩]]) :
    RetX Try.prog 41 [(.pointer (some ⟨b_p_c, 0, none⟩)), (.int .i64 p_n)] w0 (fun v w => v = (.int .i64 r.1) ∧ St X w0 w m [[⟨b_p_c, [s1.v, (.int .i64 r.2.at_), (.int .u64 r.2.seed.v)], 69⟩]] ∧ r.2.code = p_c.code) := by
  unfold spec_l1Cur_pick at hr
  refine ret_startX Try.func41 rfl 20 rfl rfl fun a hF => ?_
  refine q_seq ?_
  refine q_region ?_
  refine q_x (v := (.int .i64 0)) hF hS (ex_assign rfl) rfl rfl fun a hF => ?_
  refine q_end (n_sq ?_)
  refine q_seq ?_
  refine q_seq ?_
  refine q_region ?_
  refine q_x (v := (.int .i64 p_n)) hF hS (ex_move rfl) rfl rfl fun a hF => ?_
  refine q_x (v := (.bool (decide (p_n ≤ 1)))) hF hS (ex_ibin rfl rfl rfl) rfl rfl fun a hF => ?_
  refine q_end (n_sq ?_)
  rcases bcase (decide (p_n ≤ 1)) with hc1 | hc1
  · have hr := cond_f hc1 hr
    refine q_cond_f hF rfl hc1 ?_
    refine q_skipc (n_sq ?_)
    refine q_seq ?_
    refine q_region ?_
    refine q_x (v := (.pointer (some ⟨b_p_c, 0, none⟩))) hF hS (ex_move rfl) rfl rfl fun a hF => ?_
    have hS2 : St _ _ _ _ ([[⟨b_p_c, [s1.v, (.int .i64 p_c.at_), (.int .u64 p_c.seed.v)], 69⟩]] ++ []) := hS
    have hE2 := hS2.enter
    obtain ⟨t_3, ht_3, hr⟩ := bindS hr
    refine q_do rfl fun _ hK => wp_callX (vs := [(.pointer (some ⟨b_p_c, 0, none⟩))]) hF Try.func85 (by kernel_rfl) rfl rfl rfl (c_spec_l1Cur_next p_c t_3 ht_3 _ m b_p_c s1 h1 _ hE2) fun a w _ hR hF => hK _ _ ?_
    obtain ⟨rfl, hR2, hk4⟩ := hR
    have hS : St _ _ _ _ [[⟨b_p_c, [s1.v, (.int .i64 t_3.2.at_), (.int .u64 t_3.2.seed.v)], 69⟩]] := hS2.leaveF hR2
    have h4 : Rd m s1 t_3.2.code := by rw [hk4]; exact h1
    refine q_x (v := (.int .i64 t_3.1)) hF hS (ex_assign rfl) rfl rfl fun a hF => ?_
    refine q_end (n_sq ?_)
    refine q_seq ?_
    refine q_seq ?_
    refine q_region ?_
    refine q_x (v := (.int .i64 p_n)) hF hS (ex_move rfl) rfl rfl fun a hF => ?_
    refine q_x (v := (.bool (decide (200 < p_n)))) hF hS (ex_ibin rfl rfl rfl) rfl rfl fun a hF => ?_
    refine q_end (n_sq ?_)
    obtain ⟨j2, hj2, hr⟩ := bindS hr
    refine q_join (fun a w => ∃ x_8, ∃ p_c_9, j2 = (x_8, p_c_9) ∧ Fr a 20 [(1, (.int .i64 p_n)), (5, (.int .i64 x_8))] ∧ St X w0 w m [[⟨b_p_c, [s1.v, (.int .i64 p_c_9.at_), (.int .u64 p_c_9.seed.v)], 69⟩]] ∧ Rd m s1 p_c_9.code ∧ p_c_9.code = p_c.code) ?_ ?_
    · rcases bcase (decide (200 < p_n)) with hc3 | hc3
      · have hj2 := cond_f hc3 hj2
        refine q_cond_f hF rfl hc3 ?_
        refine q_skipc (n_jn ?_)
        obtain rfl := someI hj2
        exact ⟨_, _, rfl, hF.sub ⟨rfl, rfl, trivial⟩, hS, h4, hk4⟩
      · have hj2 := cond_t hc3 hj2
        refine q_cond_t hF rfl hc3 ?_
        refine q_region ?_
        refine q_x (v := (.int .i64 t_3.1)) hF hS (ex_move rfl) rfl rfl fun a hF => ?_
        refine q_x (v := (.int .i64 (w64 (t_3.1 * 256)))) hF hS (ex_ibin rfl rfl rfl) rfl rfl fun a hF => ?_
        refine q_x (v := (.pointer (some ⟨b_p_c, 0, none⟩))) hF hS (ex_move rfl) rfl rfl fun a hF => ?_
        have hS5 : St _ _ _ _ ([[⟨b_p_c, [s1.v, (.int .i64 t_3.2.at_), (.int .u64 t_3.2.seed.v)], 69⟩]] ++ []) := hS
        have hE5 := hS5.enter
        obtain ⟨t_6, ht_6, hj2⟩ := bindS hj2
        refine q_do rfl fun _ hK => wp_callX (vs := [(.pointer (some ⟨b_p_c, 0, none⟩))]) hF Try.func85 (by kernel_rfl) rfl rfl rfl (c_spec_l1Cur_next t_3.2 t_6 ht_6 _ m b_p_c s1 h4 _ hE5) fun a w _ hR hF => hK _ _ ?_
        obtain ⟨rfl, hR5, hk7⟩ := hR
        have hS : St _ _ _ _ [[⟨b_p_c, [s1.v, (.int .i64 t_6.2.at_), (.int .u64 t_6.2.seed.v)], 69⟩]] := hS5.leaveF hR5
        have h7 : Rd m s1 t_6.2.code := by rw [hk7]; exact h4
        refine q_x (v := (.int .i64 (w64 ((w64 (t_3.1 * 256)) + t_6.1)))) hF hS (ex_ibin rfl rfl rfl) rfl rfl fun a hF => ?_
        refine q_x (v := (.int .i64 (w64 ((w64 (t_3.1 * 256)) + t_6.1)))) hF hS (ex_assign rfl) rfl rfl fun a hF => ?_
        refine q_end (n_jn ?_)
        obtain rfl := someI hj2
        exact ⟨_, _, rfl, hF.sub ⟨rfl, rfl, trivial⟩, hS, h7, (hk7.trans hk4)⟩
    · rintro a w ⟨x_8, p_c_9, rfl, hF, hS, h10, h10k⟩
      refine n_sq ?_
      refine q_seq ?_
      refine q_region ?_
      refine q_x (v := (.int .i64 x_8)) hF hS (ex_move rfl) rfl rfl fun a hF => ?_
      refine q_x (v := (.int .i64 p_n)) hF hS (ex_move rfl) rfl rfl fun a hF => ?_
      obtain ⟨t_11, ht_11, hr⟩ := bindS hr
      refine q_x (v := (.int .i64 t_11)) hF hS (ex_rem rfl rfl ht_11) rfl rfl fun a hF => ?_
      refine q_x (v := (.int .i64 t_11)) hF hS (ex_assign rfl) rfl rfl fun a hF => ?_
      refine q_end (n_sq (q_ret ?_))
      obtain rfl := someI hr
      exact ret_ofX hF hS rfl (.tmp rfl .nil) ⟨rfl, hS.sel [0] (by decide), h10k⟩
  · have hr := cond_t hc1 hr
    refine q_cond_t hF rfl hc1 ?_
    refine q_seq ?_
    refine q_region ?_
    refine q_x (v := (.int .i64 0)) hF hS (ex_assign rfl) rfl rfl fun a hF => ?_
    refine q_end (n_sq (q_ret (r_sq ?_)))
    obtain rfl := someI hr
    exact ret_ofX hF hS rfl (.tmp rfl .nil) ⟨rfl, hS.sel [0] (by decide), rfl⟩

theorem c_spec_yUniform (p_d : Int) (r : impl_NoiseTable) (hr : spec_yUniform p_d = some r) (w0 : World) (m : Mem) (hv : Vis m w0) :
    Ret Try.prog 46 [(.int .i64 p_d)] w0 (fun v w => ∃ (q0' : Piece) (s0' : Sl), v = (.agg #[s0'.v]) ∧ St [] w0 w m [q0'] ∧ OwnD m 33 3 q0' s0' r.Rows) := by
  unfold spec_yUniform at hr
  refine ret_start Try.func46 rfl 41 rfl rfl m hv fun a hF hS => ?_
  refine q_seq ?_
  refine q_region ?_
  refine q_alloc (cs := [nilS.v]) hF hS rfl rfl rfl fun a w b1 hF hS => ?_
  refine q_end (n_sq ?_)
  refine q_seq ?_
  refine q_region ?_
  refine q_x (v := (.agg #[nilS.v])) hF hS (ex_build (cells := [nilS.v]) rfl (by kernel_rfl)) rfl rfl fun a hF => ?_
  refine q_alloc (cs := [nilS.v]) hF hS rfl rfl rfl fun a w b2 hF hS => ?_
  refine q_store (vs := [nilS.v]) (cs' := [nilS.v]) 0 0 hF hS sz25 rfl rfl rfl rfl rfl rfl rfl rfl fun a w hF hS => ?_
  refine q_end (n_sq ?_)
  refine q_seq ?_
  refine q_seq ?_
  refine q_region ?_
  refine q_x (v := (.int .i64 0)) hF hS (ex_assign rfl) rfl rfl fun a hF => ?_
  refine q_end (n_sq ?_)
  refine q_block ?_
  obtain ⟨t_21, hl1, hr⟩ := bindS hr
  refine q_loop (fun (s : Int × impl_NoiseTable) a w => ∃ (q5 : Piece), ∃ (s5 : Sl), ∃ c_3, ∃ t_4, s = (c_3, t_4) ∧ Fr a 41 [(0, (.int .i64 p_d)), (2, (.pointer (some ⟨b1, 0, none⟩))), (3, (.pointer (some ⟨b2, 0, none⟩))), (4, (.int .i64 c_3))] ∧ St [] w0 w m [q5, [⟨b2, [s5.v], 25⟩], [⟨b1, [nilS.v], 25⟩]] ∧ OwnD m 33 3 q5 s5 t_4.Rows) (fun (t_21 : impl_NoiseTable) e a w => ∃ (q22 : Piece), ∃ (s22 : Sl), e = .exit 0 ∧ Fr a 41 [(2, (.pointer (some ⟨b1, 0, none⟩))), (3, (.pointer (some ⟨b2, 0, none⟩)))] ∧ St [] w0 w m [q22, [⟨b2, [s22.v], 25⟩], [⟨b1, [nilS.v], 25⟩]] ∧ OwnD m 33 3 q22 s22 t_21.Rows) hl1 ⟨[], nilS, _, _, rfl, hF.sub ⟨rfl, rfl, rfl, rfl, trivial⟩, hS.sel [2, 0, 1] (by decide), (OwnD.nil (β := Int) m 33 3)⟩ ?_ ?_
  · clear hF hS
    rintro s a w st ⟨q5, s5, c_3, t_4, rfl, hF, hS, h5⟩ hb1
    unfold spec_yUniform_l1 at hb1
    refine q_seq ?_
    refine q_seq ?_
    refine q_region ?_
    refine q_x (v := (.int .i64 c_3)) hF hS (ex_move rfl) rfl rfl fun a hF => ?_
    refine q_x (v := (.int .i64 p_d)) hF hS (ex_move rfl) rfl rfl fun a hF => ?_
    refine q_x (v := (.bool (decide (c_3 ≤ p_d)))) hF hS (ex_ibin rfl rfl rfl) rfl rfl fun a hF => ?_
    refine q_end (n_sq ?_)
    rcases bcase (decide (c_3 ≤ p_d)) with hc2 | hc2
    · have hb1 := cond_f hc2 hb1
      refine q_cond_f hF rfl hc2 ?_
      refine q_exit (x_sq ?_)
      obtain rfl := someI hb1
      exact ⟨nofun, .inl ⟨q5, s5, rfl, hF.sub ⟨rfl, rfl, trivial⟩, hS, h5⟩⟩
    · have hb1 := cond_t hc2 hb1
      refine q_cond_t hF rfl hc2 ?_
      refine q_skipc (n_sq ?_)
      refine q_seq ?_
      refine q_block ?_
      refine q_seq ?_
      refine q_region ?_
      refine q_x (v := (.int .i64 c_3)) hF hS (ex_move rfl) rfl rfl fun a hF => ?_
      refine q_x (v := (.int .i64 (w64 (2 * c_3)))) hF hS (ex_ibin rfl rfl rfl) rfl rfl fun a hF => ?_
      refine q_x (v := (.int .i64 (w64 ((w64 (2 * c_3)) + 1)))) hF hS (ex_ibin rfl rfl rfl) rfl rfl fun a hF => ?_
      refine q_x (v := (.int .i64 (w64 ((w64 (2 * c_3)) + 1)))) hF hS (ex_assign rfl) rfl rfl fun a hF => ?_
      refine q_end (n_sq ?_)
      refine q_seq ?_
      refine q_region ?_
      obtain ⟨l_6, hl_6, hb1⟩ := bindS hb1
      refine q_do rfl fun _ hK => wp_make (z := (0 : Int)) hF hS Try.underlying33 inf3 rfl rfl rfl rfl rfl (by decide) hl_6 rfl fun a w q7 s7 hF hS h7 _ => hK _ _ ?_
      refine q_x (v := s7.v) hF hS (ex_assign rfl) rfl rfl fun a hF => ?_
      refine q_end (n_sq ?_)
      refine q_seq ?_
      refine q_seq ?_
      refine q_region ?_
      refine q_x (v := (.int .i64 0)) hF hS (ex_assign rfl) rfl rfl fun a hF => ?_
      refine q_end (n_sq ?_)
      refine q_block ?_
      obtain ⟨row_16, hl3, hb1⟩ := bindS hb1
      refine q_loop (fun (s : (List Int) × Int) a w => ∃ (q9 : Piece), ∃ row_8, ∃ k_10, s = (row_8, k_10) ∧ Fr a 41 [(0, (.int .i64 p_d)), (2, (.pointer (some ⟨b1, 0, none⟩))), (3, (.pointer (some ⟨b2, 0, none⟩))), (4, (.int .i64 c_3)), (5, (.int .i64 (w64 ((w64 (2 * c_3)) + 1)))), (6, s7.v), (7, (.int .i64 k_10))] ∧ St [] w0 w m [q9, q5, [⟨b2, [s5.v], 25⟩], [⟨b1, [nilS.v], 25⟩]] ∧ OwnL m 3 q9 s7 row_8) (fun (row_16 : (List Int)) e a w => ∃ (q17 : Piece), e = .exit 2 ∧ Fr a 41 [(0, (.int .i64 p_d)), (2, (.pointer (some ⟨b1, 0, none⟩))), (3, (.pointer (some ⟨b2, 0, none⟩))), (4, (.int .i64 c_3)), (6, s7.v)] ∧ St [] w0 w m [q17, q5, [⟨b2, [s5.v], 25⟩], [⟨b1, [nilS.v], 25⟩]] ∧ OwnL m 3 q17 s7 row_16) hl3 ⟨q7, _, _, rfl, hF.sub ⟨rfl, rfl, rfl, rfl, rfl, rfl, rfl, trivial⟩, hS, h7⟩ ?_ ?_
      · clear hF hS
        rintro s a w st ⟨q9, row_8, k_10, rfl, hF, hS, h9⟩ hb3
        unfold spec_yUniform_l2 at hb3
        refine q_seq ?_
        refine q_seq ?_
        refine q_region ?_
        refine q_x (v := (.int .i64 k_10)) hF hS (ex_move rfl) rfl rfl fun a hF => ?_
        refine q_x (v := (.int .i64 (w64 ((w64 (2 * c_3)) + 1)))) hF hS (ex_move rfl) rfl rfl fun a hF => ?_
        obtain ⟨t_11, ht_11, hb3⟩ := bindS hb3
        refine q_x (v := (.int .i64 t_11)) hF hS (ex_quo rfl rfl ht_11) rfl rfl fun a hF => ?_
        refine q_x (v := (.int .i64 (w64 ((w64 (2 * c_3)) + 1)))) hF hS (ex_move rfl) rfl rfl fun a hF => ?_
        refine q_x (v := (.int .i64 (w64 (t_11 * (w64 ((w64 (2 * c_3)) + 1)))))) hF hS (ex_ibin rfl rfl rfl) rfl rfl fun a hF => ?_
        refine q_x (v := (.bool (decide (k_10 < (w64 (t_11 * (w64 ((w64 (2 * c_3)) + 1)))))))) hF hS (ex_ibin rfl rfl rfl) rfl rfl fun a hF => ?_
        refine q_end (n_sq ?_)
        rcases bcase (decide (k_10 < (w64 (t_11 * (w64 ((w64 (2 * c_3)) + 1)))))) with hc4 | hc4
        · have hb3 := cond_f hc4 hb3
          refine q_cond_f hF rfl hc4 ?_
          refine q_exit (x_sq ?_)
          obtain rfl := someI hb3
          exact ⟨nofun, .inl ⟨q9, rfl, hF.sub ⟨rfl, rfl, rfl, rfl, rfl, trivial⟩, hS, h9⟩⟩
        · have hb3 := cond_t hc4 hb3
          refine q_cond_t hF rfl hc4 ?_
          refine q_skipc (n_sq ?_)
          refine q_seq ?_
          refine q_block ?_
          refine q_region ?_
          refine q_x (v := s7.v) hF hS (ex_move rfl) rfl rfl fun a hF => ?_
          refine q_x (v := (.int .i64 k_10)) hF hS (ex_move rfl) rfl rfl fun a hF => ?_
          refine q_x (v := (.int .i64 k_10)) hF hS (ex_move rfl) rfl rfl fun a hF => ?_
          refine q_x (v := (.int .i64 (w64 ((w64 (2 * c_3)) + 1)))) hF hS (ex_move rfl) rfl rfl fun a hF => ?_
          obtain ⟨t_12, ht_12, hb3⟩ := bindS hb3
          refine q_x (v := (.int .i64 t_12)) hF hS (ex_rem rfl rfl ht_12) rfl rfl fun a hF => ?_
          refine q_x (v := (.int .i64 c_3)) hF hS (ex_move rfl) rfl rfl fun a hF => ?_
          refine q_x (v := (.int .i64 (w64 (t_12 - c_3)))) hF hS (ex_ibin rfl rfl rfl) rfl rfl fun a hF => ?_
          obtain ⟨e_13, he_13, hb3⟩ := bindS hb3
          obtain ⟨vs14, at14, d14⟩ := h9.at he_13 1 rfl
          obtain rfl : vs14 = [(.int .i64 e_13)] := d14
          refine q_x (v := (elP s7 (k_10.toNat * 1))) hF hS (ex_indexAddr Try.underlying33 sz3 rfl rfl (h9.idx he_13)) rfl rfl fun a hF => ?_
          refine q_do rfl fun _ hK => wp_storeE (e' := (w64 (t_12 - c_3))) (us := [(.int .i64 (w64 (t_12 - c_3)))]) (vs := [(.int .i64 e_13)]) 0 hF hS h9 sz3 rfl rfl rfl rfl rfl rfl rfl he_13 at14 rfl rfl rfl fun w q15 hS h15 => hK _ _ ?_
          refine q_end (n_ib (n_sq ?_))
          refine q_region ?_
          refine q_x (v := (.int .i64 k_10)) hF hS (ex_move rfl) rfl rfl fun a hF => ?_
          refine q_x (v := (.int .i64 (w64 (k_10 + 1)))) hF hS (ex_ibin rfl rfl rfl) rfl rfl fun a hF => ?_
          refine q_x (v := (.int .i64 (w64 (k_10 + 1)))) hF hS (ex_assign rfl) rfl rfl fun a hF => ?_
          refine q_end ?_
          obtain rfl := someI hb3
          exact ⟨rfl, q15, _, _, rfl, hF.sub ⟨rfl, rfl, rfl, rfl, rfl, rfl, rfl, trivial⟩, hS, h15⟩
      · rintro e a w ⟨q17, rfl, hF, hS, h17⟩
        refine x_ib (n_sq ?_)
        refine q_region ?_
        refine q_x (v := (.pointer (some ⟨b2, 0, none⟩))) hF hS (ex_fieldAddr Try.underlying25 rfl sz23 rfl rfl) rfl rfl fun a hF => ?_
        refine q_x (v := s5.v) hF hS (ex_load1 2 0 Try.underlying23 rfl rfl rfl rfl) rfl rfl fun a hF => ?_
        refine q_x (v := s7.v) hF hS (ex_move rfl) rfl rfl fun a hF => ?_
        refine q_do rfl fun _ hK => wp_build1D hF hS h17 Try.underlying23 inf33 rfl rfl rfl fun a w q18 s18 hF hS h18 _ => hK _ _ ?_
        have hS : St _ _ _ _ [q5, q18, [⟨b2, [s5.v], 25⟩], [⟨b1, [nilS.v], 25⟩]] := hS.sel [1, 0, 2, 3] (by decide)
        obtain ⟨l_19, hl_19, hb1⟩ := bindS hb1
        refine q_do rfl fun _ hK => wp_appendD hF hS h5 h18 Try.underlying23 inf33 rfl rfl rfl (by decide) hl_19 rfl fun a w q20 s20 hF hS h20 => hK _ _ ?_
        refine q_x (v := (.pointer (some ⟨b2, 0, none⟩))) hF hS (ex_fieldAddr Try.underlying25 rfl sz23 rfl rfl) rfl rfl fun a hF => ?_
        refine q_store (vs := [s20.v]) (cs' := [s20.v]) 1 0 hF hS sz23 rfl rfl rfl rfl rfl rfl rfl rfl fun a w hF hS => ?_
        refine q_end (n_ib (n_sq ?_))
        refine q_region ?_
        refine q_x (v := (.int .i64 c_3)) hF hS (ex_move rfl) rfl rfl fun a hF => ?_
        refine q_x (v := (.int .i64 (w64 (c_3 + 1)))) hF hS (ex_ibin rfl rfl rfl) rfl rfl fun a hF => ?_
        refine q_x (v := (.int .i64 (w64 (c_3 + 1)))) hF hS (ex_assign rfl) rfl rfl fun a hF => ?_
        refine q_end ?_
        obtain rfl := someI hb1
        exact ⟨rfl, q20, s20, _, _, rfl, hF.sub ⟨rfl, rfl, rfl, rfl, trivial⟩, hS, h20⟩
  · rintro e a w ⟨q22, s22, rfl, hF, hS, h22⟩
    refine x_ib (n_sq ?_)
    refine q_seq ?_
    refine q_region ?_
    refine q_x (v := (.agg #[s22.v])) hF hS (ex_loadA (vs := [s22.v]) 1 0 Try.underlying25 rfl sz25 rfl rfl rfl rfl) rfl rfl fun a hF => ?_
    refine q_store (vs := [s22.v]) (cs' := [s22.v]) 2 0 hF hS sz25 rfl rfl rfl rfl rfl rfl rfl rfl fun a w hF hS => ?_
    refine q_end (n_sq (q_ret ?_))
    obtain rfl := someI hr
    exact ret_of hF hS rfl (.cellA (us := [s22.v]) 2 0 Try.underlying25 rfl sz25 rfl rfl rfl rfl .nil) ⟨q22, s22, rfl, hS.sel [0] (by decide), h22⟩

theorem c_spec_l1Cur_one (p_c : spec_l1Cur) (p_n : Int) (r : Bool × spec_l1Cur) (hr : spec_l1Cur_one p_c p_n = some r) (w0 : World) (m : Mem) (b_p_c : Nat) (s1 : Sl) (h1 : Rd m s1 p_c.code) (X : List Nat) (hS : St X w0 w0 m [[⟨b_p_c, [s1.v, (.int .i64 p_c.at_), (.int .u64 p_c.seed.v)], 69⟩]]) :
    RetX Try.prog 65 [(.pointer (some ⟨b_p_c, 0, none⟩)), (.int .i64 p_n)] w0 (fun v w => v = (.bool r.1) ∧ St X w0 w m [[⟨b_p_c, [s1.v, (.int .i64 r.2.at_), (.int .u64 r.2.seed.v)], 69⟩]] ∧ r.2.code = p_c.code) := by
  unfold spec_l1Cur_one at hr
  refine ret_startX Try.func65 rfl 9 rfl rfl fun a hF => ?_
  refine q_seq ?_
  refine q_region ?_
  refine q_x (v := (.bool false)) hF hS (ex_assign rfl) rfl rfl fun a hF => ?_
  refine q_end (n_sq ?_)
  refine q_seq ?_
  refine q_region ?_
  refine q_x (v := (.pointer (some ⟨b_p_c, 0, none⟩))) hF hS (ex_move rfl) rfl rfl fun a hF => ?_
  refine q_x (v := (.int .i64 p_n)) hF hS (ex_move rfl) rfl rfl fun a hF => ?_
  have hS2 : St _ _ _ _ ([[⟨b_p_c, [s1.v, (.int .i64 p_c.at_), (.int .u64 p_c.seed.v)], 69⟩]] ++ []) := hS
  have hE2 := hS2.enter
  obtain ⟨t_3, ht_3, hr⟩ := bindS hr
  refine q_do rfl fun _ hK => wp_callX (vs := [(.pointer (some ⟨b_p_c, 0, none⟩)), (.int .i64 p_n)]) hF Try.func41 (by kernel_rfl) rfl rfl rfl (c_spec_l1Cur_pick p_c p_n t_3 ht_3 _ m b_p_c s1 h1 _ hE2) fun a w _ hR hF => hK _ _ ?_
  obtain ⟨rfl, hR2, hk4⟩ := hR
  have hS : St _ _ _ _ [[⟨b_p_c, [s1.v, (.int .i64 t_3.2.at_), (.int .u64 t_3.2.seed.v)], 69⟩]] := hS2.leaveF hR2
  have h4 : Rd m s1 t_3.2.code := by rw [hk4]; exact h1
  refine q_x (v := (.bool (t_3.1 == 0))) hF hS (ex_ibin rfl rfl rfl) rfl rfl fun a hF => ?_
  refine q_x (v := (.bool (t_3.1 == 0))) hF hS (ex_assign rfl) rfl rfl fun a hF => ?_
  refine q_end (n_sq (q_ret ?_))
  obtain rfl := someI hr
  exact ret_ofX hF hS rfl (.tmp rfl .nil) ⟨rfl, hS.sel [0] (by decide), hk4⟩

theorem c_spec_l1Cur_among (p_c : spec_l1Cur) (p_list : List Int) (r : Int × spec_l1Cur) (hr : spec_l1Cur_among p_c p_list = some r) (w0 : World) (m : Mem) (b_p_c : Nat) (s1 : Sl) (h1 : Rd m s1 p_c.code) (s2 : Sl) (h2 : Rd m s2 p_list) (X : List Nat) (hS : St X w0 w0 m [[⟨b_p_c, [s1.v, (.int .i64 p_c.at_), (.int .u64 p_c.seed.v)], 69⟩]]) :
    RetX Try.prog 40 [(.pointer (some ⟨b_p_c, 0, none⟩)), s2.v] w0 (fun v w => v = (.int .i64 r.1) ∧ St X w0 w m [[⟨b_p_c, [s1.v, (.int .i64 r.2.at_), (.int .u64 r.2.seed.v)], 69⟩]] ∧ r.2.code = p_c.code) := by
  unfold spec_l1Cur_among at hr
  refine ret_startX Try.func40 rfl 12 rfl rfl fun a hF => ?_
  refine q_seq ?_
  refine q_region ?_
  refine q_x (v := (.int .i64 0)) hF hS (ex_assign rfl) rfl rfl fun a hF => ?_
  refine q_end (n_sq ?_)
  refine q_seq ?_
  refine q_region ?_
  refine q_x (v := s2.v) hF hS (ex_move rfl) rfl rfl fun a hF => ?_
  refine q_x (v := (.pointer (some ⟨b_p_c, 0, none⟩))) hF hS (ex_move rfl) rfl rfl fun a hF => ?_
  refine q_x (v := s2.v) hF hS (ex_move rfl) rfl rfl fun a hF => ?_
  refine q_x (v := (.int .i64 (goLen p_list))) hF hS (ex_len Try.underlying33 rfl h2.len) rfl rfl fun a hF => ?_
  have hS3 : St _ _ _ _ ([[⟨b_p_c, [s1.v, (.int .i64 p_c.at_), (.int .u64 p_c.seed.v)], 69⟩]] ++ []) := hS
  have hE3 := hS3.enter
  obtain ⟨t_4, ht_4, hr⟩ := bindS hr
  refine q_do rfl fun _ hK => wp_callX (vs := [(.pointer (some ⟨b_p_c, 0, none⟩)), (.int .i64 (goLen p_list))]) hF Try.func41 (by kernel_rfl) rfl rfl rfl (c_spec_l1Cur_pick p_c (goLen p_list) t_4 ht_4 _ m b_p_c s1 h1 _ hE3) fun a w _ hR hF => hK _ _ ?_
  obtain ⟨rfl, hR3, hk5⟩ := hR
  have hS : St _ _ _ _ [[⟨b_p_c, [s1.v, (.int .i64 t_4.2.at_), (.int .u64 t_4.2.seed.v)], 69⟩]] := hS3.leaveF hR3
  have h5 : Rd m s1 t_4.2.code := by rw [hk5]; exact h1
  obtain ⟨e_6, he_6, hr⟩ := bindS hr
  obtain ⟨vs7, at7, d7⟩ := h2.at he_6 1 rfl
  obtain rfl : vs7 = [(.int .i64 e_6)] := d7
  refine q_x (v := (elP s2 (t_4.1.toNat * 1))) hF hS (ex_indexAddr Try.underlying33 sz3 rfl rfl (h2.idx he_6)) rfl rfl fun a hF => ?_
  refine q_x (v := (.int .i64 e_6)) hF hS (ex_loadE1 0 Try.underlying3 rfl rfl ((at7).at) rfl rfl) rfl rfl fun a hF => ?_
  refine q_x (v := (.int .i64 e_6)) hF hS (ex_assign rfl) rfl rfl fun a hF => ?_
  refine q_end (n_sq (q_ret ?_))
  obtain rfl := someI hr
  exact ret_ofX hF hS rfl (.tmp rfl .nil) ⟨rfl, hS.sel [0] (by decide), hk5⟩

theorem c_spec_l1Cur_noiseTable (p_c : spec_l1Cur) (r : impl_NoiseTable × spec_l1Cur) (hr : spec_l1Cur_noiseTable p_c = some r) (w0 : World) (m : Mem) (b_p_c : Nat) (s1 : Sl) (h1 : Rd m s1 p_c.code) (X : List Nat) (hS : St X w0 w0 m [[⟨b_p_c, [s1.v, (.int .i64 p_c.at_), (.int .u64 p_c.seed.v)], 69⟩]]) :
    RetX Try.prog 39 [(.pointer (some ⟨b_p_c, 0, none⟩))] w0 (fun v w => ∃ (q0' : Piece) (s0' : Sl), v = (.agg #[s0'.v]) ∧ St X w0 w m [[⟨b_p_c, [s1.v, (.int .i64 r.2.at_), (.int .u64 r.2.seed.v)], 69⟩], q0'] ∧ OwnD m 33 3 q0' s0' r.1.Rows ∧ r.2.code = p_c.code) := by
  unfold spec_l1Cur_noiseTable at hr
  refine ret_startX Try.func39 rfl 87 rfl rfl fun a hF => ?_
  refine q_seq ?_
  refine q_region ?_
  refine q_alloc (cs := [nilS.v]) hF hS rfl rfl rfl fun a w b2 hF hS => ?_
  refine q_end (n_sq ?_)
  refine q_seq ?_
  refine q_region ?_
  refine q_x (v := (.pointer (some ⟨b_p_c, 0, none⟩))) hF hS (ex_move rfl) rfl rfl fun a hF => ?_
  have hS : St _ _ _ _ [[⟨b_p_c, [s1.v, (.int .i64 p_c.at_), (.int .u64 p_c.seed.v)], 69⟩], [⟨b2, [nilS.v], 25⟩]] := hS.sel [1, 0] (by decide)
  have hS3 : St _ _ _ _ ([[⟨b_p_c, [s1.v, (.int .i64 p_c.at_), (.int .u64 p_c.seed.v)], 69⟩]] ++ [[⟨b2, [nilS.v], 25⟩]]) := hS
  have hE3 := hS3.enter
  obtain ⟨t_4, ht_4, hr⟩ := bindS hr
  refine q_do rfl fun _ hK => wp_callX (vs := [(.pointer (some ⟨b_p_c, 0, none⟩)), (.int .i64 4)]) hF Try.func41 (by kernel_rfl) rfl rfl rfl (c_spec_l1Cur_pick p_c 4 t_4 ht_4 _ m b_p_c s1 h1 _ hE3) fun a w _ hR hF => hK _ _ ?_
  obtain ⟨rfl, hR3, hk5⟩ := hR
  have hS : St _ _ _ _ [[⟨b_p_c, [s1.v, (.int .i64 t_4.2.at_), (.int .u64 t_4.2.seed.v)], 69⟩], [⟨b2, [nilS.v], 25⟩]] := hS3.leaveF hR3
  have h5 : Rd m s1 t_4.2.code := by rw [hk5]; exact h1
  obtain ⟨t_6, ht_6, hr⟩ := bindS hr
  refine q_call (vs := [(.int .i64 t_4.1)]) hF hS Try.func46 (by kernel_rfl) rfl rfl rfl (c_spec_yUniform t_4.1 t_6 ht_6 _ m hS.vis) ?_
  rintro a w _ ⟨q8, s8, rfl, hR7, h8⟩ hF hS2
  have hS : St _ _ _ _ [q8, [⟨b_p_c, [s1.v, (.int .i64 t_4.2.at_), (.int .u64 t_4.2.seed.v)], 69⟩], [⟨b2, [nilS.v], 25⟩]] := hS.joinF hR7
  refine q_alloc (cs := [nilS.v]) hF hS rfl rfl rfl fun a w b9 hF hS => ?_
  refine q_store (vs := [s8.v]) (cs' := [s8.v]) 0 0 hF hS sz25 rfl rfl rfl rfl rfl rfl rfl rfl fun a w hF hS => ?_
  refine q_end (n_sq ?_)
  refine q_seq ?_
  refine q_seq ?_
  obtain ⟨j1, hj1, hr⟩ := bindS hr
  refine q_join (fun a w => ∃ t_13, ∃ p_c_14, j1 = (t_13, p_c_14) ∧ Fr a 87 [(0, (.pointer (some ⟨b_p_c, 0, none⟩))), (2, (.pointer (some ⟨b2, 0, none⟩))), (3, (.pointer (some ⟨b9, 0, none⟩))), (15, (.bool t_13))] ∧ St X w0 w m [q8, [⟨b_p_c, [s1.v, (.int .i64 p_c_14.at_), (.int .u64 p_c_14.seed.v)], 69⟩], [⟨b9, [s8.v], 25⟩], [⟨b2, [nilS.v], 25⟩]] ∧ Rd m s1 p_c_14.code ∧ p_c_14.code = p_c.code) ?_ ?_
  · refine q_region ?_
    refine q_x (v := (.pointer (some ⟨b_p_c, 0, none⟩))) hF hS (ex_move rfl) rfl rfl fun a hF => ?_
    have hS : St _ _ _ _ [[⟨b_p_c, [s1.v, (.int .i64 t_4.2.at_), (.int .u64 t_4.2.seed.v)], 69⟩], [⟨b9, [s8.v], 25⟩], q8, [⟨b2, [nilS.v], 25⟩]] := hS.sel [2, 0, 1, 3] (by decide)
    have hS10 : St _ _ _ _ ([[⟨b_p_c, [s1.v, (.int .i64 t_4.2.at_), (.int .u64 t_4.2.seed.v)], 69⟩]] ++ [[⟨b9, [s8.v], 25⟩], q8, [⟨b2, [nilS.v], 25⟩]]) := hS
    have hE10 := hS10.enter
    obtain ⟨t_11, ht_11, hj1⟩ := bindS hj1
    refine q_do rfl fun _ hK => wp_callX (vs := [(.pointer (some ⟨b_p_c, 0, none⟩)), (.int .i64 2)]) hF Try.func65 (by kernel_rfl) rfl rfl rfl (c_spec_l1Cur_one t_4.2 2 t_11 ht_11 _ m b_p_c s1 h5 _ hE10) fun a w _ hR hF => hK _ _ ?_
    obtain ⟨rfl, hR10, hk12⟩ := hR
    have hS : St _ _ _ _ [[⟨b_p_c, [s1.v, (.int .i64 t_11.2.at_), (.int .u64 t_11.2.seed.v)], 69⟩], [⟨b9, [s8.v], 25⟩], q8, [⟨b2, [nilS.v], 25⟩]] := hS10.leaveF hR10
    have h12 : Rd m s1 t_11.2.code := by rw [hk12]; exact h5
    refine q_x (v := (.bool t_11.1)) hF hS (ex_move rfl) rfl rfl fun a hF => ?_
    rcases bcase (t_11.1) with hc2 | hc2
    · have hj1 := cond_f hc2 hj1
      refine q_skip hF (wanted_f hF rfl rfl rfl hc2 rfl) rfl fun a hF => ?_
      refine q_skip hF (wanted_f hF rfl rfl rfl hc2 rfl) rfl fun a hF => ?_
      refine q_skip hF (wanted_f hF rfl rfl rfl hc2 rfl) rfl fun a hF => ?_
      refine q_skip hF (wanted_f hF rfl rfl rfl hc2 rfl) rfl fun a hF => ?_
      refine q_x (v := (.bool false)) hF hS (ex_pick_f rfl rfl hc2) rfl rfl fun a hF => ?_
      refine q_end (n_jn ?_)
      obtain rfl := someI hj1
      exact ⟨_, _, rfl, hF.sub ⟨rfl, rfl, rfl, rfl, trivial⟩, hS.sel [2, 0, 1, 3] (by decide), h12, (hk12.trans hk5)⟩
    · have hj1 := cond_t hc2 hj1
      refine q_xg (v := (.pointer (some ⟨b9, 0, none⟩))) hF hS (ex_fieldAddr Try.underlying25 rfl sz23 rfl rfl) (wanted_t hF rfl rfl rfl hc2) rfl fun a hF => ?_
      refine q_xg (v := s8.v) hF hS (ex_load1 1 0 Try.underlying23 rfl rfl rfl rfl) (wanted_t hF rfl rfl rfl hc2) rfl fun a hF => ?_
      refine q_xg (v := (.int .i64 (goLen t_6.Rows))) hF hS (ex_len Try.underlying23 rfl h8.len) (wanted_t hF rfl rfl rfl hc2) rfl fun a hF => ?_
      refine q_xg (v := (.bool (decide (1 < (goLen t_6.Rows))))) hF hS (ex_ibin rfl rfl rfl) (wanted_t hF rfl rfl rfl hc2) rfl fun a hF => ?_
      refine q_x (v := (.bool (decide (1 < (goLen t_6.Rows))))) hF hS (ex_pick_t rfl rfl hc2) rfl rfl fun a hF => ?_
      refine q_end (n_jn ?_)
      obtain rfl := someI hj1
      exact ⟨_, _, rfl, hF.sub ⟨rfl, rfl, rfl, rfl, trivial⟩, hS.sel [2, 0, 1, 3] (by decide), h12, (hk12.trans hk5)⟩
  · rintro a w ⟨t_13, p_c_14, rfl, hF, hS, h15, h15k⟩
    refine n_sq ?_
    obtain ⟨j3, hj3, hr⟩ := bindS hr
    refine q_join (fun a w => ∃ (q39 : Piece), ∃ p_c_36, ∃ t_38, j3 = (p_c_36, t_38) ∧ Fr a 87 [(0, (.pointer (some ⟨b_p_c, 0, none⟩))), (2, (.pointer (some ⟨b2, 0, none⟩))), (3, (.pointer (some ⟨b9, 0, none⟩)))] ∧ St X w0 w m [q39, [⟨b_p_c, [s1.v, (.int .i64 p_c_36.at_), (.int .u64 p_c_36.seed.v)], 69⟩], [⟨b9, [s8.v], 25⟩], [⟨b2, [nilS.v], 25⟩]] ∧ Rd m s1 p_c_36.code ∧ p_c_36.code = p_c.code ∧ OwnD m 33 3 q39 s8 t_38.Rows) ?_ ?_
    · rcases bcase (t_13) with hc4 | hc4
      · have hj3 := cond_f hc4 hj3
        refine q_cond_f hF rfl hc4 ?_
        refine q_skipc (n_jn ?_)
        obtain rfl := someI hj3
        exact ⟨q8, _, _, rfl, hF.sub ⟨rfl, rfl, rfl, trivial⟩, hS, h15, h15k, h8⟩
      · have hj3 := cond_t hc4 hj3
        refine q_cond_t hF rfl hc4 ?_
        refine q_seq ?_
        refine q_region ?_
        refine q_x (v := (.pointer (some ⟨b_p_c, 0, none⟩))) hF hS (ex_move rfl) rfl rfl fun a hF => ?_
        refine q_x (v := (.pointer (some ⟨b9, 0, none⟩))) hF hS (ex_fieldAddr Try.underlying25 rfl sz23 rfl rfl) rfl rfl fun a hF => ?_
        refine q_x (v := s8.v) hF hS (ex_load1 2 0 Try.underlying23 rfl rfl rfl rfl) rfl rfl fun a hF => ?_
        refine q_x (v := (.int .i64 (goLen t_6.Rows))) hF hS (ex_len Try.underlying23 rfl h8.len) rfl rfl fun a hF => ?_
        refine q_x (v := (.int .i64 (w64 ((goLen t_6.Rows) - 1)))) hF hS (ex_ibin rfl rfl rfl) rfl rfl fun a hF => ?_
        have hS : St _ _ _ _ [[⟨b_p_c, [s1.v, (.int .i64 p_c_14.at_), (.int .u64 p_c_14.seed.v)], 69⟩], q8, [⟨b9, [s8.v], 25⟩], [⟨b2, [nilS.v], 25⟩]] := hS.sel [1, 0, 2, 3] (by decide)
        have hS16 : St _ _ _ _ ([[⟨b_p_c, [s1.v, (.int .i64 p_c_14.at_), (.int .u64 p_c_14.seed.v)], 69⟩]] ++ [q8, [⟨b9, [s8.v], 25⟩], [⟨b2, [nilS.v], 25⟩]]) := hS
        have hE16 := hS16.enter
        obtain ⟨t_17, ht_17, hj3⟩ := bindS hj3
        refine q_do rfl fun _ hK => wp_callX (vs := [(.pointer (some ⟨b_p_c, 0, none⟩)), (.int .i64 (w64 ((goLen t_6.Rows) - 1)))]) hF Try.func41 (by kernel_rfl) rfl rfl rfl (c_spec_l1Cur_pick p_c_14 (w64 ((goLen t_6.Rows) - 1)) t_17 ht_17 _ m b_p_c s1 h15 _ hE16) fun a w _ hR hF => hK _ _ ?_
        obtain ⟨rfl, hR16, hk18⟩ := hR
        have hS : St _ _ _ _ [[⟨b_p_c, [s1.v, (.int .i64 t_17.2.at_), (.int .u64 t_17.2.seed.v)], 69⟩], q8, [⟨b9, [s8.v], 25⟩], [⟨b2, [nilS.v], 25⟩]] := hS16.leaveF hR16
        have h18 : Rd m s1 t_17.2.code := by rw [hk18]; exact h15
        refine q_x (v := (.int .i64 (w64 (1 + t_17.1)))) hF hS (ex_ibin rfl rfl rfl) rfl rfl fun a hF => ?_
        refine q_x (v := (.int .i64 (w64 (1 + t_17.1)))) hF hS (ex_assign rfl) rfl rfl fun a hF => ?_
        refine q_end (n_sq ?_)
        refine e_region [6, 8, 11] mixed fun w' hw' => ?_
        have hS := hS.below hw'
        refine e_p (v := (.pointer (some ⟨b9, 0, none⟩))) 0 hF rfl (ex_fieldAddr Try.underlying25 rfl sz23 rfl rfl) rfl rfl (by kernel_rfl) (by kernel_rfl) (by kernel_rfl) fun a hF => ?_
        refine e_p (v := (.int .i64 (w64 (1 + t_17.1)))) 2 hF rfl (ex_move rfl) rfl rfl (by kernel_rfl) (by kernel_rfl) (by kernel_rfl) fun a hF => ?_
        refine e_p (v := (.pointer (some ⟨b_p_c, 0, none⟩))) 5 hF rfl (ex_move rfl) rfl rfl (by kernel_rfl) (by kernel_rfl) (by kernel_rfl) fun a hF => ?_
        refine e_p (v := (.pointer (some ⟨b_p_c, 0, none⟩))) 7 hF rfl (ex_move rfl) rfl rfl (by kernel_rfl) (by kernel_rfl) (by kernel_rfl) fun a hF => ?_
        obtain ⟨e_25, he_25, hj3⟩ := bindS hj3
        obtain ⟨t_28, ht_28, hj3⟩ := bindS hj3
        obtain ⟨t_31, ht_31, hj3⟩ := bindS hj3
        obtain ⟨e_33, he_33, hj3⟩ := bindS hj3
        refine e_all [1, 6] (by kernel_rfl) rfl ⟨?_, ?_, trivial⟩
        · refine e_lx (v := s8.v) hF hS rfl (ex_load1 2 0 Try.underlying23 rfl rfl rfl rfl) rfl rfl fun a hF => ?_
          obtain ⟨s26, hV26⟩ := h8.view he_25
          refine e_p (v := (elP s8 ((w64 (1 + t_17.1)).toNat * 1))) 3 hF rfl (ex_indexAddr Try.underlying23 sz33 rfl rfl (h8.idx he_25)) rfl rfl (by kernel_rfl) (by kernel_rfl) (by kernel_rfl) fun a hF => ?_
          refine e_all [4, 6] (by kernel_rfl) rfl ⟨?_, ?_, trivial⟩
          · refine e_lx (v := s26.v) hF hS rfl (ex_loadE1 0 Try.underlying33 rfl rfl ((hV26.atH he_25).at 1 rfl) rfl rfl) rfl rfl fun a hF => ?_
            refine e_one 6 (by kernel_rfl) ?_
            have hS27 : St _ _ _ _ ([[⟨b_p_c, [s1.v, (.int .i64 t_17.2.at_), (.int .u64 t_17.2.seed.v)], 69⟩]] ++ [q8, [⟨b9, [s8.v], 25⟩], [⟨b2, [nilS.v], 25⟩]]) := hS
            have hE27 := hS27.enter
            refine e_opl rfl rfl rfl fun _ hK => wp_callX (vs := [(.pointer (some ⟨b_p_c, 0, none⟩)), (.int .i64 16)]) hF Try.func41 (by kernel_rfl) rfl rfl rfl (c_spec_l1Cur_pick t_17.2 16 t_28 ht_28 _ m b_p_c s1 h18 _ hE27) fun a w _ hR hF => hK _ _ ?_
            obtain ⟨rfl, hR27, hk29⟩ := hR
            have hS : St _ _ _ _ [[⟨b_p_c, [s1.v, (.int .i64 t_28.2.at_), (.int .u64 t_28.2.seed.v)], 69⟩], q8, [⟨b9, [s8.v], 25⟩], [⟨b2, [nilS.v], 25⟩]] := hS27.leaveF hR27
            have h29 : Rd m s1 t_28.2.code := by rw [hk29]; exact h18
            refine e_one 8 (by kernel_rfl) ?_
            have hS30 : St _ _ _ _ ([[⟨b_p_c, [s1.v, (.int .i64 t_28.2.at_), (.int .u64 t_28.2.seed.v)], 69⟩]] ++ [q8, [⟨b9, [s8.v], 25⟩], [⟨b2, [nilS.v], 25⟩]]) := hS
            have hE30 := hS30.enter
            refine e_opl rfl rfl rfl fun _ hK => wp_callX (vs := [(.pointer (some ⟨b_p_c, 0, none⟩)), (.int .i64 3)]) hF Try.func41 (by kernel_rfl) rfl rfl rfl (c_spec_l1Cur_pick t_28.2 3 t_31 ht_31 _ m b_p_c s1 h29 _ hE30) fun a w _ hR hF => hK _ _ ?_
            obtain ⟨rfl, hR30, hk32⟩ := hR
            have hS : St _ _ _ _ [[⟨b_p_c, [s1.v, (.int .i64 t_31.2.at_), (.int .u64 t_31.2.seed.v)], 69⟩], q8, [⟨b9, [s8.v], 25⟩], [⟨b2, [nilS.v], 25⟩]] := hS30.leaveF hR30
            have h32 : Rd m s1 t_31.2.code := by rw [hk32]; exact h29
            refine e_p (v := (.int .i64 (w64 (t_31.1 - 1)))) 9 hF rfl (ex_ibin rfl rfl rfl) rfl rfl (by kernel_rfl) (by kernel_rfl) (by kernel_rfl) fun a hF => ?_
            obtain ⟨vs34, at34, d34⟩ := hV26.at he_25 he_33 1 rfl
            obtain rfl : vs34 = [(.int .i64 e_33)] := d34
            refine e_p (v := (elP s26 (t_28.1.toNat * 1))) 10 hF rfl (ex_indexAddr Try.underlying33 sz3 rfl rfl (hV26.idx he_25 he_33)) rfl rfl (by kernel_rfl) (by kernel_rfl) (by kernel_rfl) fun a hF => ?_
            refine e_one 11 (by kernel_rfl) ?_
            have hS : St _ _ _ _ [q8, [⟨b_p_c, [s1.v, (.int .i64 t_31.2.at_), (.int .u64 t_31.2.seed.v)], 69⟩], [⟨b9, [s8.v], 25⟩], [⟨b2, [nilS.v], 25⟩]] := hS.sel [1, 0, 2, 3] (by decide)
            refine e_opl rfl rfl rfl fun _ hK => wp_storeV (e' := (w64 (t_31.1 - 1))) (us := [(.int .i64 (w64 (t_31.1 - 1)))]) (vs := [(.int .i64 e_33)]) 0 hF hS hV26 he_25 sz3 rfl rfl rfl rfl rfl rfl rfl he_33 at34 rfl rfl rfl fun w q35 hS h35 => hK _ _ ?_
            refine e_end (by kernel_rfl) (n_jn ?_) _
            obtain rfl := someI hj3
            exact ⟨q35, _, _, rfl, hF.sub ⟨rfl, rfl, rfl, trivial⟩, hS, h32, (hk32.trans (hk29.trans (hk18.trans h15k))), h35.own⟩
          · have hS27 : St _ _ _ _ ([[⟨b_p_c, [s1.v, (.int .i64 t_17.2.at_), (.int .u64 t_17.2.seed.v)], 69⟩]] ++ [q8, [⟨b9, [s8.v], 25⟩], [⟨b2, [nilS.v], 25⟩]]) := hS
            have hE27 := hS27.enter
            refine e_opl rfl rfl rfl fun _ hK => wp_callX (vs := [(.pointer (some ⟨b_p_c, 0, none⟩)), (.int .i64 16)]) hF Try.func41 (by kernel_rfl) rfl rfl rfl (c_spec_l1Cur_pick t_17.2 16 t_28 ht_28 _ m b_p_c s1 h18 _ hE27) fun a w _ hR hF => hK _ _ ?_
            obtain ⟨rfl, hR27, hk29⟩ := hR
            have hS : St _ _ _ _ [[⟨b_p_c, [s1.v, (.int .i64 t_28.2.at_), (.int .u64 t_28.2.seed.v)], 69⟩], q8, [⟨b9, [s8.v], 25⟩], [⟨b2, [nilS.v], 25⟩]] := hS27.leaveF hR27
            have h29 : Rd m s1 t_28.2.code := by rw [hk29]; exact h18
            refine e_all [4, 8] (by kernel_rfl) rfl ⟨?_, ?_, trivial⟩
            · refine e_lx (v := s26.v) hF hS rfl (ex_loadE1 0 Try.underlying33 rfl rfl ((hV26.atH he_25).at 1 rfl) rfl rfl) rfl rfl fun a hF => ?_
              refine e_one 8 (by kernel_rfl) ?_
              have hS30 : St _ _ _ _ ([[⟨b_p_c, [s1.v, (.int .i64 t_28.2.at_), (.int .u64 t_28.2.seed.v)], 69⟩]] ++ [q8, [⟨b9, [s8.v], 25⟩], [⟨b2, [nilS.v], 25⟩]]) := hS
              have hE30 := hS30.enter
              refine e_opl rfl rfl rfl fun _ hK => wp_callX (vs := [(.pointer (some ⟨b_p_c, 0, none⟩)), (.int .i64 3)]) hF Try.func41 (by kernel_rfl) rfl rfl rfl (c_spec_l1Cur_pick t_28.2 3 t_31 ht_31 _ m b_p_c s1 h29 _ hE30) fun a w _ hR hF => hK _ _ ?_
              obtain ⟨rfl, hR30, hk32⟩ := hR
              have hS : St _ _ _ _ [[⟨b_p_c, [s1.v, (.int .i64 t_31.2.at_), (.int .u64 t_31.2.seed.v)], 69⟩], q8, [⟨b9, [s8.v], 25⟩], [⟨b2, [nilS.v], 25⟩]] := hS30.leaveF hR30
              have h32 : Rd m s1 t_31.2.code := by rw [hk32]; exact h29
              refine e_p (v := (.int .i64 (w64 (t_31.1 - 1)))) 9 hF rfl (ex_ibin rfl rfl rfl) rfl rfl (by kernel_rfl) (by kernel_rfl) (by kernel_rfl) fun a hF => ?_
              obtain ⟨vs34, at34, d34⟩ := hV26.at he_25 he_33 1 rfl
              obtain rfl : vs34 = [(.int .i64 e_33)] := d34
              refine e_p (v := (elP s26 (t_28.1.toNat * 1))) 10 hF rfl (ex_indexAddr Try.underlying33 sz3 rfl rfl (hV26.idx he_25 he_33)) rfl rfl (by kernel_rfl) (by kernel_rfl) (by kernel_rfl) fun a hF => ?_
              refine e_one 11 (by kernel_rfl) ?_
              have hS : St _ _ _ _ [q8, [⟨b_p_c, [s1.v, (.int .i64 t_31.2.at_), (.int .u64 t_31.2.seed.v)], 69⟩], [⟨b9, [s8.v], 25⟩], [⟨b2, [nilS.v], 25⟩]] := hS.sel [1, 0, 2, 3] (by decide)
              refine e_opl rfl rfl rfl fun _ hK => wp_storeV (e' := (w64 (t_31.1 - 1))) (us := [(.int .i64 (w64 (t_31.1 - 1)))]) (vs := [(.int .i64 e_33)]) 0 hF hS hV26 he_25 sz3 rfl rfl rfl rfl rfl rfl rfl he_33 at34 rfl rfl rfl fun w q35 hS h35 => hK _ _ ?_
              refine e_end (by kernel_rfl) (n_jn ?_) _
              obtain rfl := someI hj3
              exact ⟨q35, _, _, rfl, hF.sub ⟨rfl, rfl, rfl, trivial⟩, hS, h32, (hk32.trans (hk29.trans (hk18.trans h15k))), h35.own⟩
            · have hS30 : St _ _ _ _ ([[⟨b_p_c, [s1.v, (.int .i64 t_28.2.at_), (.int .u64 t_28.2.seed.v)], 69⟩]] ++ [q8, [⟨b9, [s8.v], 25⟩], [⟨b2, [nilS.v], 25⟩]]) := hS
              have hE30 := hS30.enter
              refine e_opl rfl rfl rfl fun _ hK => wp_callX (vs := [(.pointer (some ⟨b_p_c, 0, none⟩)), (.int .i64 3)]) hF Try.func41 (by kernel_rfl) rfl rfl rfl (c_spec_l1Cur_pick t_28.2 3 t_31 ht_31 _ m b_p_c s1 h29 _ hE30) fun a w _ hR hF => hK _ _ ?_
              obtain ⟨rfl, hR30, hk32⟩ := hR
              have hS : St _ _ _ _ [[⟨b_p_c, [s1.v, (.int .i64 t_31.2.at_), (.int .u64 t_31.2.seed.v)], 69⟩], q8, [⟨b9, [s8.v], 25⟩], [⟨b2, [nilS.v], 25⟩]] := hS30.leaveF hR30
              have h32 : Rd m s1 t_31.2.code := by rw [hk32]; exact h29
              refine e_x (v := s26.v) 4 hF hS rfl (ex_loadE1 0 Try.underlying33 rfl rfl ((hV26.atH he_25).at 1 rfl) rfl rfl) rfl rfl (by kernel_rfl) (by kernel_rfl) (by kernel_rfl) (by kernel_rfl) fun a hF => ?_
              refine e_p (v := (.int .i64 (w64 (t_31.1 - 1)))) 9 hF rfl (ex_ibin rfl rfl rfl) rfl rfl (by kernel_rfl) (by kernel_rfl) (by kernel_rfl) fun a hF => ?_
              obtain ⟨vs34, at34, d34⟩ := hV26.at he_25 he_33 1 rfl
              obtain rfl : vs34 = [(.int .i64 e_33)] := d34
              refine e_p (v := (elP s26 (t_28.1.toNat * 1))) 10 hF rfl (ex_indexAddr Try.underlying33 sz3 rfl rfl (hV26.idx he_25 he_33)) rfl rfl (by kernel_rfl) (by kernel_rfl) (by kernel_rfl) fun a hF => ?_
              refine e_one 11 (by kernel_rfl) ?_
              have hS : St _ _ _ _ [q8, [⟨b_p_c, [s1.v, (.int .i64 t_31.2.at_), (.int .u64 t_31.2.seed.v)], 69⟩], [⟨b9, [s8.v], 25⟩], [⟨b2, [nilS.v], 25⟩]] := hS.sel [1, 0, 2, 3] (by decide)
              refine e_opl rfl rfl rfl fun _ hK => wp_storeV (e' := (w64 (t_31.1 - 1))) (us := [(.int .i64 (w64 (t_31.1 - 1)))]) (vs := [(.int .i64 e_33)]) 0 hF hS hV26 he_25 sz3 rfl rfl rfl rfl rfl rfl rfl he_33 at34 rfl rfl rfl fun w q35 hS h35 => hK _ _ ?_
              refine e_end (by kernel_rfl) (n_jn ?_) _
              obtain rfl := someI hj3
              exact ⟨q35, _, _, rfl, hF.sub ⟨rfl, rfl, rfl, trivial⟩, hS, h32, (hk32.trans (hk29.trans (hk18.trans h15k))), h35.own⟩
        · have hS27 : St _ _ _ _ ([[⟨b_p_c, [s1.v, (.int .i64 t_17.2.at_), (.int .u64 t_17.2.seed.v)], 69⟩]] ++ [q8, [⟨b9, [s8.v], 25⟩], [⟨b2, [nilS.v], 25⟩]]) := hS
          have hE27 := hS27.enter
          refine e_opl rfl rfl rfl fun _ hK => wp_callX (vs := [(.pointer (some ⟨b_p_c, 0, none⟩)), (.int .i64 16)]) hF Try.func41 (by kernel_rfl) rfl rfl rfl (c_spec_l1Cur_pick t_17.2 16 t_28 ht_28 _ m b_p_c s1 h18 _ hE27) fun a w _ hR hF => hK _ _ ?_
          obtain ⟨rfl, hR27, hk29⟩ := hR
          have hS : St _ _ _ _ [[⟨b_p_c, [s1.v, (.int .i64 t_28.2.at_), (.int .u64 t_28.2.seed.v)], 69⟩], q8, [⟨b9, [s8.v], 25⟩], [⟨b2, [nilS.v], 25⟩]] := hS27.leaveF hR27
          have h29 : Rd m s1 t_28.2.code := by rw [hk29]; exact h18
          refine e_all [1, 8] (by kernel_rfl) rfl ⟨?_, ?_, trivial⟩
          · refine e_lx (v := s8.v) hF hS rfl (ex_load1 2 0 Try.underlying23 rfl rfl rfl rfl) rfl rfl fun a hF => ?_
            obtain ⟨s26, hV26⟩ := h8.view he_25
            refine e_p (v := (elP s8 ((w64 (1 + t_17.1)).toNat * 1))) 3 hF rfl (ex_indexAddr Try.underlying23 sz33 rfl rfl (h8.idx he_25)) rfl rfl (by kernel_rfl) (by kernel_rfl) (by kernel_rfl) fun a hF => ?_
            refine e_all [4, 8] (by kernel_rfl) rfl ⟨?_, ?_, trivial⟩
            · refine e_lx (v := s26.v) hF hS rfl (ex_loadE1 0 Try.underlying33 rfl rfl ((hV26.atH he_25).at 1 rfl) rfl rfl) rfl rfl fun a hF => ?_
              refine e_one 8 (by kernel_rfl) ?_
              have hS30 : St _ _ _ _ ([[⟨b_p_c, [s1.v, (.int .i64 t_28.2.at_), (.int .u64 t_28.2.seed.v)], 69⟩]] ++ [q8, [⟨b9, [s8.v], 25⟩], [⟨b2, [nilS.v], 25⟩]]) := hS
              have hE30 := hS30.enter
              refine e_opl rfl rfl rfl fun _ hK => wp_callX (vs := [(.pointer (some ⟨b_p_c, 0, none⟩)), (.int .i64 3)]) hF Try.func41 (by kernel_rfl) rfl rfl rfl (c_spec_l1Cur_pick t_28.2 3 t_31 ht_31 _ m b_p_c s1 h29 _ hE30) fun a w _ hR hF => hK _ _ ?_
              obtain ⟨rfl, hR30, hk32⟩ := hR
              have hS : St _ _ _ _ [[⟨b_p_c, [s1.v, (.int .i64 t_31.2.at_), (.int .u64 t_31.2.seed.v)], 69⟩], q8, [⟨b9, [s8.v], 25⟩], [⟨b2, [nilS.v], 25⟩]] := hS30.leaveF hR30
              have h32 : Rd m s1 t_31.2.code := by rw [hk32]; exact h29
              refine e_p (v := (.int .i64 (w64 (t_31.1 - 1)))) 9 hF rfl (ex_ibin rfl rfl rfl) rfl rfl (by kernel_rfl) (by kernel_rfl) (by kernel_rfl) fun a hF => ?_
              obtain ⟨vs34, at34, d34⟩ := hV26.at he_25 he_33 1 rfl
              obtain rfl : vs34 = [(.int .i64 e_33)] := d34
              refine e_p (v := (elP s26 (t_28.1.toNat * 1))) 10 hF rfl (ex_indexAddr Try.underlying33 sz3 rfl rfl (hV26.idx he_25 he_33)) rfl rfl (by kernel_rfl) (by kernel_rfl) (by kernel_rfl) fun a hF => ?_
              refine e_one 11 (by kernel_rfl) ?_
              have hS : St _ _ _ _ [q8, [⟨b_p_c, [s1.v, (.int .i64 t_31.2.at_), (.int .u64 t_31.2.seed.v)], 69⟩], [⟨b9, [s8.v], 25⟩], [⟨b2, [nilS.v], 25⟩]] := hS.sel [1, 0, 2, 3] (by decide)
              refine e_opl rfl rfl rfl fun _ hK => wp_storeV (e' := (w64 (t_31.1 - 1))) (us := [(.int .i64 (w64 (t_31.1 - 1)))]) (vs := [(.int .i64 e_33)]) 0 hF hS hV26 he_25 sz3 rfl rfl rfl rfl rfl rfl rfl he_33 at34 rfl rfl rfl fun w q35 hS h35 => hK _ _ ?_
              refine e_end (by kernel_rfl) (n_jn ?_) _
              obtain rfl := someI hj3
              exact ⟨q35, _, _, rfl, hF.sub ⟨rfl, rfl, rfl, trivial⟩, hS, h32, (hk32.trans (hk29.trans (hk18.trans h15k))), h35.own⟩
            · have hS30 : St _ _ _ _ ([[⟨b_p_c, [s1.v, (.int .i64 t_28.2.at_), (.int .u64 t_28.2.seed.v)], 69⟩]] ++ [q8, [⟨b9, [s8.v], 25⟩], [⟨b2, [nilS.v], 25⟩]]) := hS
              have hE30 := hS30.enter
              refine e_opl rfl rfl rfl fun _ hK => wp_callX (vs := [(.pointer (some ⟨b_p_c, 0, none⟩)), (.int .i64 3)]) hF Try.func41 (by kernel_rfl) rfl rfl rfl (c_spec_l1Cur_pick t_28.2 3 t_31 ht_31 _ m b_p_c s1 h29 _ hE30) fun a w _ hR hF => hK _ _ ?_
              obtain ⟨rfl, hR30, hk32⟩ := hR
              have hS : St _ _ _ _ [[⟨b_p_c, [s1.v, (.int .i64 t_31.2.at_), (.int .u64 t_31.2.seed.v)], 69⟩], q8, [⟨b9, [s8.v], 25⟩], [⟨b2, [nilS.v], 25⟩]] := hS30.leaveF hR30
              have h32 : Rd m s1 t_31.2.code := by rw [hk32]; exact h29
              refine e_x (v := s26.v) 4 hF hS rfl (ex_loadE1 0 Try.underlying33 rfl rfl ((hV26.atH he_25).at 1 rfl) rfl rfl) rfl rfl (by kernel_rfl) (by kernel_rfl) (by kernel_rfl) (by kernel_rfl) fun a hF => ?_
              refine e_p (v := (.int .i64 (w64 (t_31.1 - 1)))) 9 hF rfl (ex_ibin rfl rfl rfl) rfl rfl (by kernel_rfl) (by kernel_rfl) (by kernel_rfl) fun a hF => ?_
              obtain ⟨vs34, at34, d34⟩ := hV26.at he_25 he_33 1 rfl
              obtain rfl : vs34 = [(.int .i64 e_33)] := d34
              refine e_p (v := (elP s26 (t_28.1.toNat * 1))) 10 hF rfl (ex_indexAddr Try.underlying33 sz3 rfl rfl (hV26.idx he_25 he_33)) rfl rfl (by kernel_rfl) (by kernel_rfl) (by kernel_rfl) fun a hF => ?_
              refine e_one 11 (by kernel_rfl) ?_
              have hS : St _ _ _ _ [q8, [⟨b_p_c, [s1.v, (.int .i64 t_31.2.at_), (.int .u64 t_31.2.seed.v)], 69⟩], [⟨b9, [s8.v], 25⟩], [⟨b2, [nilS.v], 25⟩]] := hS.sel [1, 0, 2, 3] (by decide)
              refine e_opl rfl rfl rfl fun _ hK => wp_storeV (e' := (w64 (t_31.1 - 1))) (us := [(.int .i64 (w64 (t_31.1 - 1)))]) (vs := [(.int .i64 e_33)]) 0 hF hS hV26 he_25 sz3 rfl rfl rfl rfl rfl rfl rfl he_33 at34 rfl rfl rfl fun w q35 hS h35 => hK _ _ ?_
              refine e_end (by kernel_rfl) (n_jn ?_) _
              obtain rfl := someI hj3
              exact ⟨q35, _, _, rfl, hF.sub ⟨rfl, rfl, rfl, trivial⟩, hS, h32, (hk32.trans (hk29.trans (hk18.trans h15k))), h35.own⟩
          · have hS30 : St _ _ _ _ ([[⟨b_p_c, [s1.v, (.int .i64 t_28.2.at_), (.int .u64 t_28.2.seed.v)], 69⟩]] ++ [q8, [⟨b9, [s8.v], 25⟩], [⟨b2, [nilS.v], 25⟩]]) := hS
            have hE30 := hS30.enter
            refine e_opl rfl rfl rfl fun _ hK => wp_callX (vs := [(.pointer (some ⟨b_p_c, 0, none⟩)), (.int .i64 3)]) hF Try.func41 (by kernel_rfl) rfl rfl rfl (c_spec_l1Cur_pick t_28.2 3 t_31 ht_31 _ m b_p_c s1 h29 _ hE30) fun a w _ hR hF => hK _ _ ?_
            obtain ⟨rfl, hR30, hk32⟩ := hR
            have hS : St _ _ _ _ [[⟨b_p_c, [s1.v, (.int .i64 t_31.2.at_), (.int .u64 t_31.2.seed.v)], 69⟩], q8, [⟨b9, [s8.v], 25⟩], [⟨b2, [nilS.v], 25⟩]] := hS30.leaveF hR30
            have h32 : Rd m s1 t_31.2.code := by rw [hk32]; exact h29
            refine e_x (v := s8.v) 1 hF hS rfl (ex_load1 2 0 Try.underlying23 rfl rfl rfl rfl) rfl rfl (by kernel_rfl) (by kernel_rfl) (by kernel_rfl) (by kernel_rfl) fun a hF => ?_
            obtain ⟨s26, hV26⟩ := h8.view he_25
            refine e_p (v := (elP s8 ((w64 (1 + t_17.1)).toNat * 1))) 3 hF rfl (ex_indexAddr Try.underlying23 sz33 rfl rfl (h8.idx he_25)) rfl rfl (by kernel_rfl) (by kernel_rfl) (by kernel_rfl) fun a hF => ?_
            refine e_x (v := s26.v) 4 hF hS rfl (ex_loadE1 0 Try.underlying33 rfl rfl ((hV26.atH he_25).at 1 rfl) rfl rfl) rfl rfl (by kernel_rfl) (by kernel_rfl) (by kernel_rfl) (by kernel_rfl) fun a hF => ?_
            refine e_p (v := (.int .i64 (w64 (t_31.1 - 1)))) 9 hF rfl (ex_ibin rfl rfl rfl) rfl rfl (by kernel_rfl) (by kernel_rfl) (by kernel_rfl) fun a hF => ?_
            obtain ⟨vs34, at34, d34⟩ := hV26.at he_25 he_33 1 rfl
            obtain rfl : vs34 = [(.int .i64 e_33)] := d34
            refine e_p (v := (elP s26 (t_28.1.toNat * 1))) 10 hF rfl (ex_indexAddr Try.underlying33 sz3 rfl rfl (hV26.idx he_25 he_33)) rfl rfl (by kernel_rfl) (by kernel_rfl) (by kernel_rfl) fun a hF => ?_
            refine e_one 11 (by kernel_rfl) ?_
            have hS : St _ _ _ _ [q8, [⟨b_p_c, [s1.v, (.int .i64 t_31.2.at_), (.int .u64 t_31.2.seed.v)], 69⟩], [⟨b9, [s8.v], 25⟩], [⟨b2, [nilS.v], 25⟩]] := hS.sel [1, 0, 2, 3] (by decide)
            refine e_opl rfl rfl rfl fun _ hK => wp_storeV (e' := (w64 (t_31.1 - 1))) (us := [(.int .i64 (w64 (t_31.1 - 1)))]) (vs := [(.int .i64 e_33)]) 0 hF hS hV26 he_25 sz3 rfl rfl rfl rfl rfl rfl rfl he_33 at34 rfl rfl rfl fun w q35 hS h35 => hK _ _ ?_
            refine e_end (by kernel_rfl) (n_jn ?_) _
            obtain rfl := someI hj3
            exact ⟨q35, _, _, rfl, hF.sub ⟨rfl, rfl, rfl, trivial⟩, hS, h32, (hk32.trans (hk29.trans (hk18.trans h15k))), h35.own⟩
    · rintro a w ⟨q39, p_c_36, t_38, rfl, hF, hS, h37, h37k, h39⟩
      refine n_sq ?_
      refine q_seq ?_
      refine q_seq ?_
      refine q_region ?_
      refine q_x (v := (.pointer (some ⟨b_p_c, 0, none⟩))) hF hS (ex_move rfl) rfl rfl fun a hF => ?_
      have hS : St _ _ _ _ [[⟨b_p_c, [s1.v, (.int .i64 p_c_36.at_), (.int .u64 p_c_36.seed.v)], 69⟩], q39, [⟨b9, [s8.v], 25⟩], [⟨b2, [nilS.v], 25⟩]] := hS.sel [1, 0, 2, 3] (by decide)
      have hS40 : St _ _ _ _ ([[⟨b_p_c, [s1.v, (.int .i64 p_c_36.at_), (.int .u64 p_c_36.seed.v)], 69⟩]] ++ [q39, [⟨b9, [s8.v], 25⟩], [⟨b2, [nilS.v], 25⟩]]) := hS
      have hE40 := hS40.enter
      obtain ⟨t_41, ht_41, hr⟩ := bindS hr
      refine q_do rfl fun _ hK => wp_callX (vs := [(.pointer (some ⟨b_p_c, 0, none⟩)), (.int .i64 20)]) hF Try.func41 (by kernel_rfl) rfl rfl rfl (c_spec_l1Cur_pick p_c_36 20 t_41 ht_41 _ m b_p_c s1 h37 _ hE40) fun a w _ hR hF => hK _ _ ?_
      obtain ⟨rfl, hR40, hk42⟩ := hR
      have hS : St _ _ _ _ [[⟨b_p_c, [s1.v, (.int .i64 t_41.2.at_), (.int .u64 t_41.2.seed.v)], 69⟩], q39, [⟨b9, [s8.v], 25⟩], [⟨b2, [nilS.v], 25⟩]] := hS40.leaveF hR40
      have h42 : Rd m s1 t_41.2.code := by rw [hk42]; exact h37
      refine q_end (n_sq ?_)
      refine q_block ?_
      refine q_seq ?_
      refine q_region ?_
      refine q_x (v := (.bool (t_41.1 == 0))) hF hS (ex_ibin rfl rfl rfl) rfl rfl fun a hF => ?_
      refine q_x (v := (.bool (t_41.1 == 0))) hF hS (ex_assign rfl) rfl rfl fun a hF => ?_
      refine q_end (n_sq ?_)
      obtain ⟨j5, hj5, hr⟩ := bindS hr
      refine q_join (fun a w => ∃ (q114 : Piece), ∃ (s114 : Sl), ∃ p_c_111, ∃ t_113, j5 = .inl (p_c_111, t_113) ∧ Fr a 87 [(2, (.pointer (some ⟨b2, 0, none⟩))), (3, (.pointer (some ⟨b9, 0, none⟩)))] ∧ St X w0 w m [q114, [⟨b_p_c, [s1.v, (.int .i64 p_c_111.at_), (.int .u64 p_c_111.seed.v)], 69⟩], [⟨b9, [s114.v], 25⟩], [⟨b2, [nilS.v], 25⟩]] ∧ Rd m s1 p_c_111.code ∧ p_c_111.code = p_c.code ∧ OwnD m 33 3 q114 s114 t_113.Rows) ?_ ?_
      · rcases bcase (t_41.1 == 0) with hc6 | hc6
        · have hj5 := cond_f hc6 hj5
          refine q_cond_f hF rfl hc6 ?_
          refine q_seq ?_
          refine q_region ?_
          refine q_x (v := (.bool (t_41.1 == 1))) hF hS (ex_ibin rfl rfl rfl) rfl rfl fun a hF => ?_
          refine q_x (v := (.bool (t_41.1 == 1))) hF hS (ex_assign rfl) rfl rfl fun a hF => ?_
          refine q_end (n_sq ?_)
          obtain ⟨j7, hj7, hj5⟩ := bindS hj5
          refine q_join (fun a w => ∃ (q96 : Piece), ∃ (s96 : Sl), ∃ p_c_93, ∃ t_95, j7 = .inl (p_c_93, t_95) ∧ Fr a 87 [(2, (.pointer (some ⟨b2, 0, none⟩))), (3, (.pointer (some ⟨b9, 0, none⟩)))] ∧ St X w0 w m [q96, [⟨b_p_c, [s1.v, (.int .i64 p_c_93.at_), (.int .u64 p_c_93.seed.v)], 69⟩], [⟨b9, [s96.v], 25⟩], [⟨b2, [nilS.v], 25⟩]] ∧ Rd m s1 p_c_93.code ∧ p_c_93.code = p_c.code ∧ OwnD m 33 3 q96 s96 t_95.Rows) ?_ ?_
          · rcases bcase (t_41.1 == 1) with hc8 | hc8
            · have hj7 := cond_f hc8 hj7
              refine q_cond_f hF rfl hc8 ?_
              refine q_seq ?_
              refine q_region ?_
              refine q_x (v := (.bool (t_41.1 == 2))) hF hS (ex_ibin rfl rfl rfl) rfl rfl fun a hF => ?_
              refine q_x (v := (.bool (t_41.1 == 2))) hF hS (ex_assign rfl) rfl rfl fun a hF => ?_
              refine q_end (n_sq ?_)
              rcases bcase (t_41.1 == 2) with hc9 | hc9
              · have hj7 := cond_f hc9 hj7
                refine q_cond_f hF rfl hc9 ?_
                refine q_seq ?_
                refine q_region ?_
                refine q_x (v := (.bool (t_41.1 == 3))) hF hS (ex_ibin rfl rfl rfl) rfl rfl fun a hF => ?_
                refine q_x (v := (.bool (t_41.1 == 3))) hF hS (ex_assign rfl) rfl rfl fun a hF => ?_
                refine q_end (n_sq ?_)
                obtain ⟨j10, hj10, hj7⟩ := bindS hj7
                refine q_join (fun a w => ∃ (q88 : Piece), ∃ (s88 : Sl), ∃ p_c_85, ∃ t_87, j10 = (p_c_85, t_87) ∧ Fr a 87 [(2, (.pointer (some ⟨b2, 0, none⟩))), (3, (.pointer (some ⟨b9, 0, none⟩)))] ∧ St X w0 w m [q88, [⟨b_p_c, [s1.v, (.int .i64 p_c_85.at_), (.int .u64 p_c_85.seed.v)], 69⟩], [⟨b9, [s88.v], 25⟩], [⟨b2, [nilS.v], 25⟩]] ∧ Rd m s1 p_c_85.code ∧ p_c_85.code = p_c.code ∧ OwnD m 33 3 q88 s88 t_87.Rows) ?_ ?_
                · rcases bcase (t_41.1 == 3) with hc11 | hc11
                  · have hj10 := cond_f hc11 hj10
                    refine q_cond_f hF rfl hc11 ?_
                    refine q_seq ?_
                    refine q_region ?_
                    refine q_x (v := (.bool (t_41.1 == 4))) hF hS (ex_ibin rfl rfl rfl) rfl rfl fun a hF => ?_
                    refine q_x (v := (.bool (t_41.1 == 4))) hF hS (ex_assign rfl) rfl rfl fun a hF => ?_
                    refine q_end (n_sq ?_)
                    obtain ⟨j12, hj12, hj10⟩ := bindS hj10
                    refine q_join (fun a w => ∃ (q60 : Piece), ∃ p_c_57, ∃ t_59, j12 = (p_c_57, t_59) ∧ Fr a 87 [(2, (.pointer (some ⟨b2, 0, none⟩))), (3, (.pointer (some ⟨b9, 0, none⟩)))] ∧ St X w0 w m [q60, [⟨b_p_c, [s1.v, (.int .i64 p_c_57.at_), (.int .u64 p_c_57.seed.v)], 69⟩], [⟨b9, [s8.v], 25⟩], [⟨b2, [nilS.v], 25⟩]] ∧ Rd m s1 p_c_57.code ∧ p_c_57.code = p_c.code ∧ OwnD m 33 3 q60 s8 t_59.Rows) ?_ ?_
                    · rcases bcase (t_41.1 == 4) with hc13 | hc13
                      · have hj12 := cond_f hc13 hj12
                        refine q_cond_f hF rfl hc13 ?_
                        refine q_skipc (n_jn ?_)
                        obtain rfl := someI hj12
                        exact ⟨q39, _, _, rfl, hF.sub ⟨rfl, rfl, trivial⟩, hS.sel [1, 0, 2, 3] (by decide), h42, (hk42.trans h37k), h39⟩
                      · have hj12 := cond_t hc13 hj12
                        refine q_cond_t hF rfl hc13 ?_
                        obtain ⟨j14, hj14, hj12⟩ := bindS hj12
                        refine q_join (fun a w => ∃ (q56 : Piece), ∃ p_c_53, ∃ t_55, j14 = (p_c_53, t_55) ∧ Fr a 87 [(2, (.pointer (some ⟨b2, 0, none⟩))), (3, (.pointer (some ⟨b9, 0, none⟩)))] ∧ St X w0 w m [q56, [⟨b_p_c, [s1.v, (.int .i64 p_c_53.at_), (.int .u64 p_c_53.seed.v)], 69⟩], [⟨b9, [s8.v], 25⟩], [⟨b2, [nilS.v], 25⟩]] ∧ Rd m s1 p_c_53.code ∧ p_c_53.code = p_c.code ∧ OwnD m 33 3 q56 s8 t_55.Rows) ?_ ?_
                        · refine e_region [10, 12] mixed fun w' hw' => ?_
                          have hS := hS.below hw'
                          refine e_p (v := (.pointer (some ⟨b9, 0, none⟩))) 0 hF rfl (ex_fieldAddr Try.underlying25 rfl sz23 rfl rfl) rfl rfl (by kernel_rfl) (by kernel_rfl) (by kernel_rfl) fun a hF => ?_
                          refine e_p (v := (.pointer (some ⟨b9, 0, none⟩))) 2 hF rfl (ex_fieldAddr Try.underlying25 rfl sz23 rfl rfl) rfl rfl (by kernel_rfl) (by kernel_rfl) (by kernel_rfl) fun a hF => ?_
                          refine e_p (v := (.pointer (some ⟨b_p_c, 0, none⟩))) 8 hF rfl (ex_move rfl) rfl rfl (by kernel_rfl) (by kernel_rfl) (by kernel_rfl) fun a hF => ?_
                          obtain ⟨e_44, he_44, hj14⟩ := bindS hj14
                          obtain ⟨t_48, ht_48, hj14⟩ := bindS hj14
                          obtain ⟨e_50, he_50, hj14⟩ := bindS hj14
                          refine e_all [1, 3, 9] (by kernel_rfl) rfl ⟨?_, ?_, ?_, trivial⟩
                          · refine e_lx (v := s8.v) hF hS rfl (ex_load1 2 0 Try.underlying23 rfl rfl rfl rfl) rfl rfl fun a hF => ?_
                            refine e_all [3, 9] (by kernel_rfl) rfl ⟨?_, ?_, trivial⟩
                            · refine e_lx (v := s8.v) hF hS rfl (ex_load1 2 0 Try.underlying23 rfl rfl rfl rfl) rfl rfl fun a hF => ?_
                              refine e_p (v := (.int .i64 (goLen t_38.Rows))) 4 hF rfl (ex_len Try.underlying23 rfl h39.len) rfl rfl (by kernel_rfl) (by kernel_rfl) (by kernel_rfl) fun a hF => ?_
                              refine e_p (v := (.int .i64 (w64 ((goLen t_38.Rows) - 1)))) 5 hF rfl (ex_ibin rfl rfl rfl) rfl rfl (by kernel_rfl) (by kernel_rfl) (by kernel_rfl) fun a hF => ?_
                              obtain ⟨s45, hV45⟩ := h39.view he_44
                              refine e_p (v := (elP s8 ((w64 ((goLen t_38.Rows) - 1)).toNat * 1))) 6 hF rfl (ex_indexAddr Try.underlying23 sz33 rfl rfl (h39.idx he_44)) rfl rfl (by kernel_rfl) (by kernel_rfl) (by kernel_rfl) fun a hF => ?_
                              refine e_all [7, 9] (by kernel_rfl) rfl ⟨?_, ?_, trivial⟩
                              · refine e_lx (v := s45.v) hF hS rfl (ex_loadE1 0 Try.underlying33 rfl rfl ((hV45.atH he_44).at 1 rfl) rfl rfl) rfl rfl fun a hF => ?_
                                refine e_one 9 (by kernel_rfl) ?_
                                refine e_op rfl rfl fun _ hK => wp_buildSlice' (l := ([6, -6, 5] : List Int)) (cells := [(.int .i64 6), (.int .i64 (-6)), (.int .i64 5)]) hF hS Try.underlying33 inf3 rfl rfl (by kernel_rfl) rfl rfl rfl ⟨rfl, rfl, rfl, rfl⟩ rfl rfl fun a w q46 s46 hF hS h46 hb => hK _ _ hb ?_
                                refine e_one 10 (by kernel_rfl) ?_
                                have hS : St _ _ _ _ [[⟨b_p_c, [s1.v, (.int .i64 t_41.2.at_), (.int .u64 t_41.2.seed.v)], 69⟩], q46, q39, [⟨b9, [s8.v], 25⟩], [⟨b2, [nilS.v], 25⟩]] := hS.sel [1, 0, 2, 3, 4] (by decide)
                                have hS47 : St _ _ _ _ ([[⟨b_p_c, [s1.v, (.int .i64 t_41.2.at_), (.int .u64 t_41.2.seed.v)], 69⟩]] ++ [q46, q39, [⟨b9, [s8.v], 25⟩], [⟨b2, [nilS.v], 25⟩]]) := hS
                                obtain ⟨m47, hl47, hE47, hz47⟩ := hS47.lendX
                                refine e_opl rfl rfl rfl fun _ hK => wp_callX (vs := [(.pointer (some ⟨b_p_c, 0, none⟩)), s46.v]) hF Try.func40 (by kernel_rfl) rfl rfl rfl (c_spec_l1Cur_among t_41.2 ([6, -6, 5] : List Int) t_48 ht_48 _ m47 b_p_c s1 (h42.mono hl47) s46 (h46.froz hl47 (hz47 0 _ rfl)) _ hE47) fun a w _ hR hF => hK _ _ ?_
                                obtain ⟨rfl, hR47, hk49⟩ := hR
                                have hS : St _ _ _ _ [[⟨b_p_c, [s1.v, (.int .i64 t_48.2.at_), (.int .u64 t_48.2.seed.v)], 69⟩], q46, q39, [⟨b9, [s8.v], 25⟩], [⟨b2, [nilS.v], 25⟩]] := hS47.leaveF hR47
                                have h49 : Rd m s1 t_48.2.code := by rw [hk49]; exact h42
                                obtain ⟨vs51, at51, d51⟩ := hV45.at he_44 he_50 1 rfl
                                obtain rfl : vs51 = [(.int .i64 e_50)] := d51
                                refine e_p (v := (elP s45 ((0 : Int).toNat * 1))) 11 hF rfl (ex_indexAddr Try.underlying33 sz3 rfl rfl (hV45.idx he_44 he_50)) rfl rfl (by kernel_rfl) (by kernel_rfl) (by kernel_rfl) fun a hF => ?_
                                refine e_one 12 (by kernel_rfl) ?_
                                have hS : St _ _ _ _ [q39, [⟨b_p_c, [s1.v, (.int .i64 t_48.2.at_), (.int .u64 t_48.2.seed.v)], 69⟩], q46, [⟨b9, [s8.v], 25⟩], [⟨b2, [nilS.v], 25⟩]] := hS.sel [2, 0, 1, 3, 4] (by decide)
                                refine e_opl rfl rfl rfl fun _ hK => wp_storeV (e' := t_48.1) (us := [(.int .i64 t_48.1)]) (vs := [(.int .i64 e_50)]) 0 hF hS hV45 he_44 sz3 rfl rfl rfl rfl rfl rfl rfl he_50 at51 rfl rfl rfl fun w q52 hS h52 => hK _ _ ?_
                                refine e_end (by kernel_rfl) (n_jn ?_) _
                                obtain rfl := someI hj14
                                exact ⟨q52, _, _, rfl, hF.sub ⟨rfl, rfl, trivial⟩, hS.mask [true, true, false, true, true], h49, (hk49.trans (hk42.trans h37k)), h52.own⟩
                              · refine e_op rfl rfl fun _ hK => wp_buildSlice' (l := ([6, -6, 5] : List Int)) (cells := [(.int .i64 6), (.int .i64 (-6)), (.int .i64 5)]) hF hS Try.underlying33 inf3 rfl rfl (by kernel_rfl) rfl rfl rfl ⟨rfl, rfl, rfl, rfl⟩ rfl rfl fun a w q46 s46 hF hS h46 hb => hK _ _ hb ?_
                                refine e_all [7, 10] (by kernel_rfl) rfl ⟨?_, ?_, trivial⟩
                                · refine e_lx (v := s45.v) hF hS rfl (ex_loadE1 0 Try.underlying33 rfl rfl ((hV45.atH he_44).at 2 rfl) rfl rfl) rfl rfl fun a hF => ?_
                                  refine e_one 10 (by kernel_rfl) ?_
                                  have hS : St _ _ _ _ [[⟨b_p_c, [s1.v, (.int .i64 t_41.2.at_), (.int .u64 t_41.2.seed.v)], 69⟩], q46, q39, [⟨b9, [s8.v], 25⟩], [⟨b2, [nilS.v], 25⟩]] := hS.sel [1, 0, 2, 3, 4] (by decide)
                                  have hS47 : St _ _ _ _ ([[⟨b_p_c, [s1.v, (.int .i64 t_41.2.at_), (.int .u64 t_41.2.seed.v)], 69⟩]] ++ [q46, q39, [⟨b9, [s8.v], 25⟩], [⟨b2, [nilS.v], 25⟩]]) := hS
                                  obtain ⟨m47, hl47, hE47, hz47⟩ := hS47.lendX
                                  refine e_opl rfl rfl rfl fun _ hK => wp_callX (vs := [(.pointer (some ⟨b_p_c, 0, none⟩)), s46.v]) hF Try.func40 (by kernel_rfl) rfl rfl rfl (c_spec_l1Cur_among t_41.2 ([6, -6, 5] : List Int) t_48 ht_48 _ m47 b_p_c s1 (h42.mono hl47) s46 (h46.froz hl47 (hz47 0 _ rfl)) _ hE47) fun a w _ hR hF => hK _ _ ?_
                                  obtain ⟨rfl, hR47, hk49⟩ := hR
                                  have hS : St _ _ _ _ [[⟨b_p_c, [s1.v, (.int .i64 t_48.2.at_), (.int .u64 t_48.2.seed.v)], 69⟩], q46, q39, [⟨b9, [s8.v], 25⟩], [⟨b2, [nilS.v], 25⟩]] := hS47.leaveF hR47
                                  have h49 : Rd m s1 t_48.2.code := by rw [hk49]; exact h42
                                  obtain ⟨vs51, at51, d51⟩ := hV45.at he_44 he_50 1 rfl
                                  obtain rfl : vs51 = [(.int .i64 e_50)] := d51
                                  refine e_p (v := (elP s45 ((0 : Int).toNat * 1))) 11 hF rfl (ex_indexAddr Try.underlying33 sz3 rfl rfl (hV45.idx he_44 he_50)) rfl rfl (by kernel_rfl) (by kernel_rfl) (by kernel_rfl) fun a hF => ?_
                                  refine e_one 12 (by kernel_rfl) ?_
                                  have hS : St _ _ _ _ [q39, [⟨b_p_c, [s1.v, (.int .i64 t_48.2.at_), (.int .u64 t_48.2.seed.v)], 69⟩], q46, [⟨b9, [s8.v], 25⟩], [⟨b2, [nilS.v], 25⟩]] := hS.sel [2, 0, 1, 3, 4] (by decide)
                                  refine e_opl rfl rfl rfl fun _ hK => wp_storeV (e' := t_48.1) (us := [(.int .i64 t_48.1)]) (vs := [(.int .i64 e_50)]) 0 hF hS hV45 he_44 sz3 rfl rfl rfl rfl rfl rfl rfl he_50 at51 rfl rfl rfl fun w q52 hS h52 => hK _ _ ?_
                                  refine e_end (by kernel_rfl) (n_jn ?_) _
                                  obtain rfl := someI hj14
                                  exact ⟨q52, _, _, rfl, hF.sub ⟨rfl, rfl, trivial⟩, hS.mask [true, true, false, true, true], h49, (hk49.trans (hk42.trans h37k)), h52.own⟩
                                · have hS : St _ _ _ _ [[⟨b_p_c, [s1.v, (.int .i64 t_41.2.at_), (.int .u64 t_41.2.seed.v)], 69⟩], q46, q39, [⟨b9, [s8.v], 25⟩], [⟨b2, [nilS.v], 25⟩]] := hS.sel [1, 0, 2, 3, 4] (by decide)
                                  have hS47 : St _ _ _ _ ([[⟨b_p_c, [s1.v, (.int .i64 t_41.2.at_), (.int .u64 t_41.2.seed.v)], 69⟩]] ++ [q46, q39, [⟨b9, [s8.v], 25⟩], [⟨b2, [nilS.v], 25⟩]]) := hS
                                  obtain ⟨m47, hl47, hE47, hz47⟩ := hS47.lendX
                                  refine e_opl rfl rfl rfl fun _ hK => wp_callX (vs := [(.pointer (some ⟨b_p_c, 0, none⟩)), s46.v]) hF Try.func40 (by kernel_rfl) rfl rfl rfl (c_spec_l1Cur_among t_41.2 ([6, -6, 5] : List Int) t_48 ht_48 _ m47 b_p_c s1 (h42.mono hl47) s46 (h46.froz hl47 (hz47 0 _ rfl)) _ hE47) fun a w _ hR hF => hK _ _ ?_
                                  obtain ⟨rfl, hR47, hk49⟩ := hR
                                  have hS : St _ _ _ _ [[⟨b_p_c, [s1.v, (.int .i64 t_48.2.at_), (.int .u64 t_48.2.seed.v)], 69⟩], q46, q39, [⟨b9, [s8.v], 25⟩], [⟨b2, [nilS.v], 25⟩]] := hS47.leaveF hR47
                                  have h49 : Rd m s1 t_48.2.code := by rw [hk49]; exact h42
                                  refine e_x (v := s45.v) 7 hF hS rfl (ex_loadE1 0 Try.underlying33 rfl rfl ((hV45.atH he_44).at 2 rfl) rfl rfl) rfl rfl (by kernel_rfl) (by kernel_rfl) (by kernel_rfl) (by kernel_rfl) fun a hF => ?_
                                  obtain ⟨vs51, at51, d51⟩ := hV45.at he_44 he_50 1 rfl
                                  obtain rfl : vs51 = [(.int .i64 e_50)] := d51
                                  refine e_p (v := (elP s45 ((0 : Int).toNat * 1))) 11 hF rfl (ex_indexAddr Try.underlying33 sz3 rfl rfl (hV45.idx he_44 he_50)) rfl rfl (by kernel_rfl) (by kernel_rfl) (by kernel_rfl) fun a hF => ?_
                                  refine e_one 12 (by kernel_rfl) ?_
                                  have hS : St _ _ _ _ [q39, [⟨b_p_c, [s1.v, (.int .i64 t_48.2.at_), (.int .u64 t_48.2.seed.v)], 69⟩], q46, [⟨b9, [s8.v], 25⟩], [⟨b2, [nilS.v], 25⟩]] := hS.sel [2, 0, 1, 3, 4] (by decide)
                                  refine e_opl rfl rfl rfl fun _ hK => wp_storeV (e' := t_48.1) (us := [(.int .i64 t_48.1)]) (vs := [(.int .i64 e_50)]) 0 hF hS hV45 he_44 sz3 rfl rfl rfl rfl rfl rfl rfl he_50 at51 rfl rfl rfl fun w q52 hS h52 => hK _ _ ?_
                                  refine e_end (by kernel_rfl) (n_jn ?_) _
                                  obtain rfl := someI hj14
                                  exact ⟨q52, _, _, rfl, hF.sub ⟨rfl, rfl, trivial⟩, hS.mask [true, true, false, true, true], h49, (hk49.trans (hk42.trans h37k)), h52.own⟩
                            · refine e_op rfl rfl fun _ hK => wp_buildSlice' (l := ([6, -6, 5] : List Int)) (cells := [(.int .i64 6), (.int .i64 (-6)), (.int .i64 5)]) hF hS Try.underlying33 inf3 rfl rfl (by kernel_rfl) rfl rfl rfl ⟨rfl, rfl, rfl, rfl⟩ rfl rfl fun a w q46 s46 hF hS h46 hb => hK _ _ hb ?_
                              refine e_all [3, 10] (by kernel_rfl) rfl ⟨?_, ?_, trivial⟩
                              · refine e_lx (v := s8.v) hF hS rfl (ex_load1 3 0 Try.underlying23 rfl rfl rfl rfl) rfl rfl fun a hF => ?_
                                refine e_p (v := (.int .i64 (goLen t_38.Rows))) 4 hF rfl (ex_len Try.underlying23 rfl h39.len) rfl rfl (by kernel_rfl) (by kernel_rfl) (by kernel_rfl) fun a hF => ?_
                                refine e_p (v := (.int .i64 (w64 ((goLen t_38.Rows) - 1)))) 5 hF rfl (ex_ibin rfl rfl rfl) rfl rfl (by kernel_rfl) (by kernel_rfl) (by kernel_rfl) fun a hF => ?_
                                obtain ⟨s45, hV45⟩ := h39.view he_44
                                refine e_p (v := (elP s8 ((w64 ((goLen t_38.Rows) - 1)).toNat * 1))) 6 hF rfl (ex_indexAddr Try.underlying23 sz33 rfl rfl (h39.idx he_44)) rfl rfl (by kernel_rfl) (by kernel_rfl) (by kernel_rfl) fun a hF => ?_
                                refine e_all [7, 10] (by kernel_rfl) rfl ⟨?_, ?_, trivial⟩
                                · refine e_lx (v := s45.v) hF hS rfl (ex_loadE1 0 Try.underlying33 rfl rfl ((hV45.atH he_44).at 2 rfl) rfl rfl) rfl rfl fun a hF => ?_
                                  refine e_one 10 (by kernel_rfl) ?_
                                  have hS : St _ _ _ _ [[⟨b_p_c, [s1.v, (.int .i64 t_41.2.at_), (.int .u64 t_41.2.seed.v)], 69⟩], q46, q39, [⟨b9, [s8.v], 25⟩], [⟨b2, [nilS.v], 25⟩]] := hS.sel [1, 0, 2, 3, 4] (by decide)
                                  have hS47 : St _ _ _ _ ([[⟨b_p_c, [s1.v, (.int .i64 t_41.2.at_), (.int .u64 t_41.2.seed.v)], 69⟩]] ++ [q46, q39, [⟨b9, [s8.v], 25⟩], [⟨b2, [nilS.v], 25⟩]]) := hS
                                  obtain ⟨m47, hl47, hE47, hz47⟩ := hS47.lendX
                                  refine e_opl rfl rfl rfl fun _ hK => wp_callX (vs := [(.pointer (some ⟨b_p_c, 0, none⟩)), s46.v]) hF Try.func40 (by kernel_rfl) rfl rfl rfl (c_spec_l1Cur_among t_41.2 ([6, -6, 5] : List Int) t_48 ht_48 _ m47 b_p_c s1 (h42.mono hl47) s46 (h46.froz hl47 (hz47 0 _ rfl)) _ hE47) fun a w _ hR hF => hK _ _ ?_
                                  obtain ⟨rfl, hR47, hk49⟩ := hR
                                  have hS : St _ _ _ _ [[⟨b_p_c, [s1.v, (.int .i64 t_48.2.at_), (.int .u64 t_48.2.seed.v)], 69⟩], q46, q39, [⟨b9, [s8.v], 25⟩], [⟨b2, [nilS.v], 25⟩]] := hS47.leaveF hR47
                                  have h49 : Rd m s1 t_48.2.code := by rw [hk49]; exact h42
                                  obtain ⟨vs51, at51, d51⟩ := hV45.at he_44 he_50 1 rfl
                                  obtain rfl : vs51 = [(.int .i64 e_50)] := d51
                                  refine e_p (v := (elP s45 ((0 : Int).toNat * 1))) 11 hF rfl (ex_indexAddr Try.underlying33 sz3 rfl rfl (hV45.idx he_44 he_50)) rfl rfl (by kernel_rfl) (by kernel_rfl) (by kernel_rfl) fun a hF => ?_
                                  refine e_one 12 (by kernel_rfl) ?_
                                  have hS : St _ _ _ _ [q39, [⟨b_p_c, [s1.v, (.int .i64 t_48.2.at_), (.int .u64 t_48.2.seed.v)], 69⟩], q46, [⟨b9, [s8.v], 25⟩], [⟨b2, [nilS.v], 25⟩]] := hS.sel [2, 0, 1, 3, 4] (by decide)
                                  refine e_opl rfl rfl rfl fun _ hK => wp_storeV (e' := t_48.1) (us := [(.int .i64 t_48.1)]) (vs := [(.int .i64 e_50)]) 0 hF hS hV45 he_44 sz3 rfl rfl rfl rfl rfl rfl rfl he_50 at51 rfl rfl rfl fun w q52 hS h52 => hK _ _ ?_
                                  refine e_end (by kernel_rfl) (n_jn ?_) _
                                  obtain rfl := someI hj14
                                  exact ⟨q52, _, _, rfl, hF.sub ⟨rfl, rfl, trivial⟩, hS.mask [true, true, false, true, true], h49, (hk49.trans (hk42.trans h37k)), h52.own⟩
                                · have hS : St _ _ _ _ [[⟨b_p_c, [s1.v, (.int .i64 t_41.2.at_), (.int .u64 t_41.2.seed.v)], 69⟩], q46, q39, [⟨b9, [s8.v], 25⟩], [⟨b2, [nilS.v], 25⟩]] := hS.sel [1, 0, 2, 3, 4] (by decide)
                                  have hS47 : St _ _ _ _ ([[⟨b_p_c, [s1.v, (.int .i64 t_41.2.at_), (.int .u64 t_41.2.seed.v)], 69⟩]] ++ [q46, q39, [⟨b9, [s8.v], 25⟩], [⟨b2, [nilS.v], 25⟩]]) := hS
                                  obtain ⟨m47, hl47, hE47, hz47⟩ := hS47.lendX
                                  refine e_opl rfl rfl rfl fun _ hK => wp_callX (vs := [(.pointer (some ⟨b_p_c, 0, none⟩)), s46.v]) hF Try.func40 (by kernel_rfl) rfl rfl rfl (c_spec_l1Cur_among t_41.2 ([6, -6, 5] : List Int) t_48 ht_48 _ m47 b_p_c s1 (h42.mono hl47) s46 (h46.froz hl47 (hz47 0 _ rfl)) _ hE47) fun a w _ hR hF => hK _ _ ?_
                                  obtain ⟨rfl, hR47, hk49⟩ := hR
                                  have hS : St _ _ _ _ [[⟨b_p_c, [s1.v, (.int .i64 t_48.2.at_), (.int .u64 t_48.2.seed.v)], 69⟩], q46, q39, [⟨b9, [s8.v], 25⟩], [⟨b2, [nilS.v], 25⟩]] := hS47.leaveF hR47
                                  have h49 : Rd m s1 t_48.2.code := by rw [hk49]; exact h42
                                  refine e_x (v := s45.v) 7 hF hS rfl (ex_loadE1 0 Try.underlying33 rfl rfl ((hV45.atH he_44).at 2 rfl) rfl rfl) rfl rfl (by kernel_rfl) (by kernel_rfl) (by kernel_rfl) (by kernel_rfl) fun a hF => ?_
                                  obtain ⟨vs51, at51, d51⟩ := hV45.at he_44 he_50 1 rfl
                                  obtain rfl : vs51 = [(.int .i64 e_50)] := d51
                                  refine e_p (v := (elP s45 ((0 : Int).toNat * 1))) 11 hF rfl (ex_indexAddr Try.underlying33 sz3 rfl rfl (hV45.idx he_44 he_50)) rfl rfl (by kernel_rfl) (by kernel_rfl) (by kernel_rfl) fun a hF => ?_
                                  refine e_one 12 (by kernel_rfl) ?_
                                  have hS : St _ _ _ _ [q39, [⟨b_p_c, [s1.v, (.int .i64 t_48.2.at_), (.int .u64 t_48.2.seed.v)], 69⟩], q46, [⟨b9, [s8.v], 25⟩], [⟨b2, [nilS.v], 25⟩]] := hS.sel [2, 0, 1, 3, 4] (by decide)
                                  refine e_opl rfl rfl rfl fun _ hK => wp_storeV (e' := t_48.1) (us := [(.int .i64 t_48.1)]) (vs := [(.int .i64 e_50)]) 0 hF hS hV45 he_44 sz3 rfl rfl rfl rfl rfl rfl rfl he_50 at51 rfl rfl rfl fun w q52 hS h52 => hK _ _ ?_
                                  refine e_end (by kernel_rfl) (n_jn ?_) _
                                  obtain rfl := someI hj14
                                  exact ⟨q52, _, _, rfl, hF.sub ⟨rfl, rfl, trivial⟩, hS.mask [true, true, false, true, true], h49, (hk49.trans (hk42.trans h37k)), h52.own⟩
                              · have hS : St _ _ _ _ [[⟨b_p_c, [s1.v, (.int .i64 t_41.2.at_), (.int .u64 t_41.2.seed.v)], 69⟩], q46, q39, [⟨b9, [s8.v], 25⟩], [⟨b2, [nilS.v], 25⟩]] := hS.sel [1, 0, 2, 3, 4] (by decide)
                                have hS47 : St _ _ _ _ ([[⟨b_p_c, [s1.v, (.int .i64 t_41.2.at_), (.int .u64 t_41.2.seed.v)], 69⟩]] ++ [q46, q39, [⟨b9, [s8.v], 25⟩], [⟨b2, [nilS.v], 25⟩]]) := hS
                                obtain ⟨m47, hl47, hE47, hz47⟩ := hS47.lendX
                                refine e_opl rfl rfl rfl fun _ hK => wp_callX (vs := [(.pointer (some ⟨b_p_c, 0, none⟩)), s46.v]) hF Try.func40 (by kernel_rfl) rfl rfl rfl (c_spec_l1Cur_among t_41.2 ([6, -6, 5] : List Int) t_48 ht_48 _ m47 b_p_c s1 (h42.mono hl47) s46 (h46.froz hl47 (hz47 0 _ rfl)) _ hE47) fun a w _ hR hF => hK _ _ ?_
                                obtain ⟨rfl, hR47, hk49⟩ := hR
                                have hS : St _ _ _ _ [[⟨b_p_c, [s1.v, (.int .i64 t_48.2.at_), (.int .u64 t_48.2.seed.v)], 69⟩], q46, q39, [⟨b9, [s8.v], 25⟩], [⟨b2, [nilS.v], 25⟩]] := hS47.leaveF hR47
                                have h49 : Rd m s1 t_48.2.code := by rw [hk49]; exact h42
                                refine e_x (v := s8.v) 3 hF hS rfl (ex_load1 3 0 Try.underlying23 rfl rfl rfl rfl) rfl rfl (by kernel_rfl) (by kernel_rfl) (by kernel_rfl) (by kernel_rfl) fun a hF => ?_
                                refine e_p (v := (.int .i64 (goLen t_38.Rows))) 4 hF rfl (ex_len Try.underlying23 rfl h39.len) rfl rfl (by kernel_rfl) (by kernel_rfl) (by kernel_rfl) fun a hF => ?_
                                refine e_p (v := (.int .i64 (w64 ((goLen t_38.Rows) - 1)))) 5 hF rfl (ex_ibin rfl rfl rfl) rfl rfl (by kernel_rfl) (by kernel_rfl) (by kernel_rfl) fun a hF => ?_
                                obtain ⟨s45, hV45⟩ := h39.view he_44
                                refine e_p (v := (elP s8 ((w64 ((goLen t_38.Rows) - 1)).toNat * 1))) 6 hF rfl (ex_indexAddr Try.underlying23 sz33 rfl rfl (h39.idx he_44)) rfl rfl (by kernel_rfl) (by kernel_rfl) (by kernel_rfl) fun a hF => ?_
                                refine e_x (v := s45.v) 7 hF hS rfl (ex_loadE1 0 Try.underlying33 rfl rfl ((hV45.atH he_44).at 2 rfl) rfl rfl) rfl rfl (by kernel_rfl) (by kernel_rfl) (by kernel_rfl) (by kernel_rfl) fun a hF => ?_
                                obtain ⟨vs51, at51, d51⟩ := hV45.at he_44 he_50 1 rfl
                                obtain rfl : vs51 = [(.int .i64 e_50)] := d51
                                refine e_p (v := (elP s45 ((0 : Int).toNat * 1))) 11 hF rfl (ex_indexAddr Try.underlying33 sz3 rfl rfl (hV45.idx he_44 he_50)) rfl rfl (by kernel_rfl) (by kernel_rfl) (by kernel_rfl) fun a hF => ?_
                                refine e_one 12 (by kernel_rfl) ?_
                                have hS : St _ _ _ _ [q39, [⟨b_p_c, [s1.v, (.int .i64 t_48.2.at_), (.int .u64 t_48.2.seed.v)], 69⟩], q46, [⟨b9, [s8.v], 25⟩], [⟨b2, [nilS.v], 25⟩]] := hS.sel [2, 0, 1, 3, 4] (by decide)
                                refine e_opl rfl rfl rfl fun _ hK => wp_storeV (e' := t_48.1) (us := [(.int .i64 t_48.1)]) (vs := [(.int .i64 e_50)]) 0 hF hS hV45 he_44 sz3 rfl rfl rfl rfl rfl rfl rfl he_50 at51 rfl rfl rfl fun w q52 hS h52 => hK _ _ ?_
                                refine e_end (by kernel_rfl) (n_jn ?_) _
                                obtain rfl := someI hj14
                                exact ⟨q52, _, _, rfl, hF.sub ⟨rfl, rfl, trivial⟩, hS.mask [true, true, false, true, true], h49, (hk49.trans (hk42.trans h37k)), h52.own⟩
                          · refine e_lx (v := s8.v) hF hS rfl (ex_load1 2 0 Try.underlying23 rfl rfl rfl rfl) rfl rfl fun a hF => ?_
                            refine e_p (v := (.int .i64 (goLen t_38.Rows))) 4 hF rfl (ex_len Try.underlying23 rfl h39.len) rfl rfl (by kernel_rfl) (by kernel_rfl) (by kernel_rfl) fun a hF => ?_
                            refine e_p (v := (.int .i64 (w64 ((goLen t_38.Rows) - 1)))) 5 hF rfl (ex_ibin rfl rfl rfl) rfl rfl (by kernel_rfl) (by kernel_rfl) (by kernel_rfl) fun a hF => ?_
                            refine e_all [1, 9] (by kernel_rfl) rfl ⟨?_, ?_, trivial⟩
                            · refine e_lx (v := s8.v) hF hS rfl (ex_load1 2 0 Try.underlying23 rfl rfl rfl rfl) rfl rfl fun a hF => ?_
                              obtain ⟨s45, hV45⟩ := h39.view he_44
                              refine e_p (v := (elP s8 ((w64 ((goLen t_38.Rows) - 1)).toNat * 1))) 6 hF rfl (ex_indexAddr Try.underlying23 sz33 rfl rfl (h39.idx he_44)) rfl rfl (by kernel_rfl) (by kernel_rfl) (by kernel_rfl) fun a hF => ?_
                              refine e_all [7, 9] (by kernel_rfl) rfl ⟨?_, ?_, trivial⟩
                              · refine e_lx (v := s45.v) hF hS rfl (ex_loadE1 0 Try.underlying33 rfl rfl ((hV45.atH he_44).at 1 rfl) rfl rfl) rfl rfl fun a hF => ?_
                                refine e_one 9 (by kernel_rfl) ?_
                                refine e_op rfl rfl fun _ hK => wp_buildSlice' (l := ([6, -6, 5] : List Int)) (cells := [(.int .i64 6), (.int .i64 (-6)), (.int .i64 5)]) hF hS Try.underlying33 inf3 rfl rfl (by kernel_rfl) rfl rfl rfl ⟨rfl, rfl, rfl, rfl⟩ rfl rfl fun a w q46 s46 hF hS h46 hb => hK _ _ hb ?_
                                refine e_one 10 (by kernel_rfl) ?_
                                have hS : St _ _ _ _ [[⟨b_p_c, [s1.v, (.int .i64 t_41.2.at_), (.int .u64 t_41.2.seed.v)], 69⟩], q46, q39, [⟨b9, [s8.v], 25⟩], [⟨b2, [nilS.v], 25⟩]] := hS.sel [1, 0, 2, 3, 4] (by decide)
                                have hS47 : St _ _ _ _ ([[⟨b_p_c, [s1.v, (.int .i64 t_41.2.at_), (.int .u64 t_41.2.seed.v)], 69⟩]] ++ [q46, q39, [⟨b9, [s8.v], 25⟩], [⟨b2, [nilS.v], 25⟩]]) := hS
                                obtain ⟨m47, hl47, hE47, hz47⟩ := hS47.lendX
                                refine e_opl rfl rfl rfl fun _ hK => wp_callX (vs := [(.pointer (some ⟨b_p_c, 0, none⟩)), s46.v]) hF Try.func40 (by kernel_rfl) rfl rfl rfl (c_spec_l1Cur_among t_41.2 ([6, -6, 5] : List Int) t_48 ht_48 _ m47 b_p_c s1 (h42.mono hl47) s46 (h46.froz hl47 (hz47 0 _ rfl)) _ hE47) fun a w _ hR hF => hK _ _ ?_
                                obtain ⟨rfl, hR47, hk49⟩ := hR
                                have hS : St _ _ _ _ [[⟨b_p_c, [s1.v, (.int .i64 t_48.2.at_), (.int .u64 t_48.2.seed.v)], 69⟩], q46, q39, [⟨b9, [s8.v], 25⟩], [⟨b2, [nilS.v], 25⟩]] := hS47.leaveF hR47
                                have h49 : Rd m s1 t_48.2.code := by rw [hk49]; exact h42
                                obtain ⟨vs51, at51, d51⟩ := hV45.at he_44 he_50 1 rfl
                                obtain rfl : vs51 = [(.int .i64 e_50)] := d51
                                refine e_p (v := (elP s45 ((0 : Int).toNat * 1))) 11 hF rfl (ex_indexAddr Try.underlying33 sz3 rfl rfl (hV45.idx he_44 he_50)) rfl rfl (by kernel_rfl) (by kernel_rfl) (by kernel_rfl) fun a hF => ?_
                                refine e_one 12 (by kernel_rfl) ?_
                                have hS : St _ _ _ _ [q39, [⟨b_p_c, [s1.v, (.int .i64 t_48.2.at_), (.int .u64 t_48.2.seed.v)], 69⟩], q46, [⟨b9, [s8.v], 25⟩], [⟨b2, [nilS.v], 25⟩]] := hS.sel [2, 0, 1, 3, 4] (by decide)
                                refine e_opl rfl rfl rfl fun _ hK => wp_storeV (e' := t_48.1) (us := [(.int .i64 t_48.1)]) (vs := [(.int .i64 e_50)]) 0 hF hS hV45 he_44 sz3 rfl rfl rfl rfl rfl rfl rfl he_50 at51 rfl rfl rfl fun w q52 hS h52 => hK _ _ ?_
                                refine e_end (by kernel_rfl) (n_jn ?_) _
                                obtain rfl := someI hj14
                                exact ⟨q52, _, _, rfl, hF.sub ⟨rfl, rfl, trivial⟩, hS.mask [true, true, false, true, true], h49, (hk49.trans (hk42.trans h37k)), h52.own⟩
                              · refine e_op rfl rfl fun _ hK => wp_buildSlice' (l := ([6, -6, 5] : List Int)) (cells := [(.int .i64 6), (.int .i64 (-6)), (.int .i64 5)]) hF hS Try.underlying33 inf3 rfl rfl (by kernel_rfl) rfl rfl rfl ⟨rfl, rfl, rfl, rfl⟩ rfl rfl fun a w q46 s46 hF hS h46 hb => hK _ _ hb ?_
                                refine e_all [7, 10] (by kernel_rfl) rfl ⟨?_, ?_, trivial⟩
                                · refine e_lx (v := s45.v) hF hS rfl (ex_loadE1 0 Try.underlying33 rfl rfl ((hV45.atH he_44).at 2 rfl) rfl rfl) rfl rfl fun a hF => ?_
                                  refine e_one 10 (by kernel_rfl) ?_
                                  have hS : St _ _ _ _ [[⟨b_p_c, [s1.v, (.int .i64 t_41.2.at_), (.int .u64 t_41.2.seed.v)], 69⟩], q46, q39, [⟨b9, [s8.v], 25⟩], [⟨b2, [nilS.v], 25⟩]] := hS.sel [1, 0, 2, 3, 4] (by decide)
                                  have hS47 : St _ _ _ _ ([[⟨b_p_c, [s1.v, (.int .i64 t_41.2.at_), (.int .u64 t_41.2.seed.v)], 69⟩]] ++ [q46, q39, [⟨b9, [s8.v], 25⟩], [⟨b2, [nilS.v], 25⟩]]) := hS
                                  obtain ⟨m47, hl47, hE47, hz47⟩ := hS47.lendX
                                  refine e_opl rfl rfl rfl fun _ hK => wp_callX (vs := [(.pointer (some ⟨b_p_c, 0, none⟩)), s46.v]) hF Try.func40 (by kernel_rfl) rfl rfl rfl (c_spec_l1Cur_among t_41.2 ([6, -6, 5] : List Int) t_48 ht_48 _ m47 b_p_c s1 (h42.mono hl47) s46 (h46.froz hl47 (hz47 0 _ rfl)) _ hE47) fun a w _ hR hF => hK _ _ ?_
                                  obtain ⟨rfl, hR47, hk49⟩ := hR
                                  have hS : St _ _ _ _ [[⟨b_p_c, [s1.v, (.int .i64 t_48.2.at_), (.int .u64 t_48.2.seed.v)], 69⟩], q46, q39, [⟨b9, [s8.v], 25⟩], [⟨b2, [nilS.v], 25⟩]] := hS47.leaveF hR47
                                  have h49 : Rd m s1 t_48.2.code := by rw [hk49]; exact h42
                                  obtain ⟨vs51, at51, d51⟩ := hV45.at he_44 he_50 1 rfl
                                  obtain rfl : vs51 = [(.int .i64 e_50)] := d51
                                  refine e_p (v := (elP s45 ((0 : Int).toNat * 1))) 11 hF rfl (ex_indexAddr Try.underlying33 sz3 rfl rfl (hV45.idx he_44 he_50)) rfl rfl (by kernel_rfl) (by kernel_rfl) (by kernel_rfl) fun a hF => ?_
                                  refine e_one 12 (by kernel_rfl) ?_
                                  have hS : St _ _ _ _ [q39, [⟨b_p_c, [s1.v, (.int .i64 t_48.2.at_), (.int .u64 t_48.2.seed.v)], 69⟩], q46, [⟨b9, [s8.v], 25⟩], [⟨b2, [nilS.v], 25⟩]] := hS.sel [2, 0, 1, 3, 4] (by decide)
                                  refine e_opl rfl rfl rfl fun _ hK => wp_storeV (e' := t_48.1) (us := [(.int .i64 t_48.1)]) (vs := [(.int .i64 e_50)]) 0 hF hS hV45 he_44 sz3 rfl rfl rfl rfl rfl rfl rfl he_50 at51 rfl rfl rfl fun w q52 hS h52 => hK _ _ ?_
                                  refine e_end (by kernel_rfl) (n_jn ?_) _
                                  obtain rfl := someI hj14
                                  exact ⟨q52, _, _, rfl, hF.sub ⟨rfl, rfl, trivial⟩, hS.mask [true, true, false, true, true], h49, (hk49.trans (hk42.trans h37k)), h52.own⟩
                                · have hS : St _ _ _ _ [[⟨b_p_c, [s1.v, (.int .i64 t_41.2.at_), (.int .u64 t_41.2.seed.v)], 69⟩], q46, q39, [⟨b9, [s8.v], 25⟩], [⟨b2, [nilS.v], 25⟩]] := hS.sel [1, 0, 2, 3, 4] (by decide)
                                  have hS47 : St _ _ _ _ ([[⟨b_p_c, [s1.v, (.int .i64 t_41.2.at_), (.int .u64 t_41.2.seed.v)], 69⟩]] ++ [q46, q39, [⟨b9, [s8.v], 25⟩], [⟨b2, [nilS.v], 25⟩]]) := hS
                                  obtain ⟨m47, hl47, hE47, hz47⟩ := hS47.lendX
                                  refine e_opl rfl rfl rfl fun _ hK => wp_callX (vs := [(.pointer (some ⟨b_p_c, 0, none⟩)), s46.v]) hF Try.func40 (by kernel_rfl) rfl rfl rfl (c_spec_l1Cur_among t_41.2 ([6, -6, 5] : List Int) t_48 ht_48 _ m47 b_p_c s1 (h42.mono hl47) s46 (h46.froz hl47 (hz47 0 _ rfl)) _ hE47) fun a w _ hR hF => hK _ _ ?_
                                  obtain ⟨rfl, hR47, hk49⟩ := hR
                                  have hS : St _ _ _ _ [[⟨b_p_c, [s1.v, (.int .i64 t_48.2.at_), (.int .u64 t_48.2.seed.v)], 69⟩], q46, q39, [⟨b9, [s8.v], 25⟩], [⟨b2, [nilS.v], 25⟩]] := hS47.leaveF hR47
                                  have h49 : Rd m s1 t_48.2.code := by rw [hk49]; exact h42
                                  refine e_x (v := s45.v) 7 hF hS rfl (ex_loadE1 0 Try.underlying33 rfl rfl ((hV45.atH he_44).at 2 rfl) rfl rfl) rfl rfl (by kernel_rfl) (by kernel_rfl) (by kernel_rfl) (by kernel_rfl) fun a hF => ?_
                                  obtain ⟨vs51, at51, d51⟩ := hV45.at he_44 he_50 1 rfl
                                  obtain rfl : vs51 = [(.int .i64 e_50)] := d51
                                  refine e_p (v := (elP s45 ((0 : Int).toNat * 1))) 11 hF rfl (ex_indexAddr Try.underlying33 sz3 rfl rfl (hV45.idx he_44 he_50)) rfl rfl (by kernel_rfl) (by kernel_rfl) (by kernel_rfl) fun a hF => ?_
                                  refine e_one 12 (by kernel_rfl) ?_
                                  have hS : St _ _ _ _ [q39, [⟨b_p_c, [s1.v, (.int .i64 t_48.2.at_), (.int .u64 t_48.2.seed.v)], 69⟩], q46, [⟨b9, [s8.v], 25⟩], [⟨b2, [nilS.v], 25⟩]] := hS.sel [2, 0, 1, 3, 4] (by decide)
                                  refine e_opl rfl rfl rfl fun _ hK => wp_storeV (e' := t_48.1) (us := [(.int .i64 t_48.1)]) (vs := [(.int .i64 e_50)]) 0 hF hS hV45 he_44 sz3 rfl rfl rfl rfl rfl rfl rfl he_50 at51 rfl rfl rfl fun w q52 hS h52 => hK _ _ ?_
                                  refine e_end (by kernel_rfl) (n_jn ?_) _
                                  obtain rfl := someI hj14
                                  exact ⟨q52, _, _, rfl, hF.sub ⟨rfl, rfl, trivial⟩, hS.mask [true, true, false, true, true], h49, (hk49.trans (hk42.trans h37k)), h52.own⟩
                            · refine e_op rfl rfl fun _ hK => wp_buildSlice' (l := ([6, -6, 5] : List Int)) (cells := [(.int .i64 6), (.int .i64 (-6)), (.int .i64 5)]) hF hS Try.underlying33 inf3 rfl rfl (by kernel_rfl) rfl rfl rfl ⟨rfl, rfl, rfl, rfl⟩ rfl rfl fun a w q46 s46 hF hS h46 hb => hK _ _ hb ?_
                              refine e_all [1, 10] (by kernel_rfl) rfl ⟨?_, ?_, trivial⟩
                              · refine e_lx (v := s8.v) hF hS rfl (ex_load1 3 0 Try.underlying23 rfl rfl rfl rfl) rfl rfl fun a hF => ?_
                                obtain ⟨s45, hV45⟩ := h39.view he_44
                                refine e_p (v := (elP s8 ((w64 ((goLen t_38.Rows) - 1)).toNat * 1))) 6 hF rfl (ex_indexAddr Try.underlying23 sz33 rfl rfl (h39.idx he_44)) rfl rfl (by kernel_rfl) (by kernel_rfl) (by kernel_rfl) fun a hF => ?_
                                refine e_all [7, 10] (by kernel_rfl) rfl ⟨?_, ?_, trivial⟩
                                · refine e_lx (v := s45.v) hF hS rfl (ex_loadE1 0 Try.underlying33 rfl rfl ((hV45.atH he_44).at 2 rfl) rfl rfl) rfl rfl fun a hF => ?_
                                  refine e_one 10 (by kernel_rfl) ?_
                                  have hS : St _ _ _ _ [[⟨b_p_c, [s1.v, (.int .i64 t_41.2.at_), (.int .u64 t_41.2.seed.v)], 69⟩], q46, q39, [⟨b9, [s8.v], 25⟩], [⟨b2, [nilS.v], 25⟩]] := hS.sel [1, 0, 2, 3, 4] (by decide)
                                  have hS47 : St _ _ _ _ ([[⟨b_p_c, [s1.v, (.int .i64 t_41.2.at_), (.int .u64 t_41.2.seed.v)], 69⟩]] ++ [q46, q39, [⟨b9, [s8.v], 25⟩], [⟨b2, [nilS.v], 25⟩]]) := hS
                                  obtain ⟨m47, hl47, hE47, hz47⟩ := hS47.lendX
                                  refine e_opl rfl rfl rfl fun _ hK => wp_callX (vs := [(.pointer (some ⟨b_p_c, 0, none⟩)), s46.v]) hF Try.func40 (by kernel_rfl) rfl rfl rfl (c_spec_l1Cur_among t_41.2 ([6, -6, 5] : List Int) t_48 ht_48 _ m47 b_p_c s1 (h42.mono hl47) s46 (h46.froz hl47 (hz47 0 _ rfl)) _ hE47) fun a w _ hR hF => hK _ _ ?_
                                  obtain ⟨rfl, hR47, hk49⟩ := hR
                                  have hS : St _ _ _ _ [[⟨b_p_c, [s1.v, (.int .i64 t_48.2.at_), (.int .u64 t_48.2.seed.v)], 69⟩], q46, q39, [⟨b9, [s8.v], 25⟩], [⟨b2, [nilS.v], 25⟩]] := hS47.leaveF hR47
                                  have h49 : Rd m s1 t_48.2.code := by rw [hk49]; exact h42
                                  obtain ⟨vs51, at51, d51⟩ := hV45.at he_44 he_50 1 rfl
                                  obtain rfl : vs51 = [(.int .i64 e_50)] := d51
                                  refine e_p (v := (elP s45 ((0 : Int).toNat * 1))) 11 hF rfl (ex_indexAddr Try.underlying33 sz3 rfl rfl (hV45.idx he_44 he_50)) rfl rfl (by kernel_rfl) (by kernel_rfl) (by kernel_rfl) fun a hF => ?_
                                  refine e_one 12 (by kernel_rfl) ?_
                                  have hS : St _ _ _ _ [q39, [⟨b_p_c, [s1.v, (.int .i64 t_48.2.at_), (.int .u64 t_48.2.seed.v)], 69⟩], q46, [⟨b9, [s8.v], 25⟩], [⟨b2, [nilS.v], 25⟩]] := hS.sel [2, 0, 1, 3, 4] (by decide)
                                  refine e_opl rfl rfl rfl fun _ hK => wp_storeV (e' := t_48.1) (us := [(.int .i64 t_48.1)]) (vs := [(.int .i64 e_50)]) 0 hF hS hV45 he_44 sz3 rfl rfl rfl rfl rfl rfl rfl he_50 at51 rfl rfl rfl fun w q52 hS h52 => hK _ _ ?_
                                  refine e_end (by kernel_rfl) (n_jn ?_) _
                                  obtain rfl := someI hj14
                                  exact ⟨q52, _, _, rfl, hF.sub ⟨rfl, rfl, trivial⟩, hS.mask [true, true, false, true, true], h49, (hk49.trans (hk42.trans h37k)), h52.own⟩
                                · have hS : St _ _ _ _ [[⟨b_p_c, [s1.v, (.int .i64 t_41.2.at_), (.int .u64 t_41.2.seed.v)], 69⟩], q46, q39, [⟨b9, [s8.v], 25⟩], [⟨b2, [nilS.v], 25⟩]] := hS.sel [1, 0, 2, 3, 4] (by decide)
                                  have hS47 : St _ _ _ _ ([[⟨b_p_c, [s1.v, (.int .i64 t_41.2.at_), (.int .u64 t_41.2.seed.v)], 69⟩]] ++ [q46, q39, [⟨b9, [s8.v], 25⟩], [⟨b2, [nilS.v], 25⟩]]) := hS
                                  obtain ⟨m47, hl47, hE47, hz47⟩ := hS47.lendX
                                  refine e_opl rfl rfl rfl fun _ hK => wp_callX (vs := [(.pointer (some ⟨b_p_c, 0, none⟩)), s46.v]) hF Try.func40 (by kernel_rfl) rfl rfl rfl (c_spec_l1Cur_among t_41.2 ([6, -6, 5] : List Int) t_48 ht_48 _ m47 b_p_c s1 (h42.mono hl47) s46 (h46.froz hl47 (hz47 0 _ rfl)) _ hE47) fun a w _ hR hF => hK _ _ ?_
                                  obtain ⟨rfl, hR47, hk49⟩ := hR
                                  have hS : St _ _ _ _ [[⟨b_p_c, [s1.v, (.int .i64 t_48.2.at_), (.int .u64 t_48.2.seed.v)], 69⟩], q46, q39, [⟨b9, [s8.v], 25⟩], [⟨b2, [nilS.v], 25⟩]] := hS47.leaveF hR47
                                  have h49 : Rd m s1 t_48.2.code := by rw [hk49]; exact h42
                                  refine e_x (v := s45.v) 7 hF hS rfl (ex_loadE1 0 Try.underlying33 rfl rfl ((hV45.atH he_44).at 2 rfl) rfl rfl) rfl rfl (by kernel_rfl) (by kernel_rfl) (by kernel_rfl) (by kernel_rfl) fun a hF => ?_
                                  obtain ⟨vs51, at51, d51⟩ := hV45.at he_44 he_50 1 rfl
                                  obtain rfl : vs51 = [(.int .i64 e_50)] := d51
                                  refine e_p (v := (elP s45 ((0 : Int).toNat * 1))) 11 hF rfl (ex_indexAddr Try.underlying33 sz3 rfl rfl (hV45.idx he_44 he_50)) rfl rfl (by kernel_rfl) (by kernel_rfl) (by kernel_rfl) fun a hF => ?_
                                  refine e_one 12 (by kernel_rfl) ?_
                                  have hS : St _ _ _ _ [q39, [⟨b_p_c, [s1.v, (.int .i64 t_48.2.at_), (.int .u64 t_48.2.seed.v)], 69⟩], q46, [⟨b9, [s8.v], 25⟩], [⟨b2, [nilS.v], 25⟩]] := hS.sel [2, 0, 1, 3, 4] (by decide)
                                  refine e_opl rfl rfl rfl fun _ hK => wp_storeV (e' := t_48.1) (us := [(.int .i64 t_48.1)]) (vs := [(.int .i64 e_50)]) 0 hF hS hV45 he_44 sz3 rfl rfl rfl rfl rfl rfl rfl he_50 at51 rfl rfl rfl fun w q52 hS h52 => hK _ _ ?_
                                  refine e_end (by kernel_rfl) (n_jn ?_) _
                                  obtain rfl := someI hj14
                                  exact ⟨q52, _, _, rfl, hF.sub ⟨rfl, rfl, trivial⟩, hS.mask [true, true, false, true, true], h49, (hk49.trans (hk42.trans h37k)), h52.own⟩
                              · have hS : St _ _ _ _ [[⟨b_p_c, [s1.v, (.int .i64 t_41.2.at_), (.int .u64 t_41.2.seed.v)], 69⟩], q46, q39, [⟨b9, [s8.v], 25⟩], [⟨b2, [nilS.v], 25⟩]] := hS.sel [1, 0, 2, 3, 4] (by decide)
                                have hS47 : St _ _ _ _ ([[⟨b_p_c, [s1.v, (.int .i64 t_41.2.at_), (.int .u64 t_41.2.seed.v)], 69⟩]] ++ [q46, q39, [⟨b9, [s8.v], 25⟩], [⟨b2, [nilS.v], 25⟩]]) := hS
                                obtain ⟨m47, hl47, hE47, hz47⟩ := hS47.lendX
                                refine e_opl rfl rfl rfl fun _ hK => wp_callX (vs := [(.pointer (some ⟨b_p_c, 0, none⟩)), s46.v]) hF Try.func40 (by kernel_rfl) rfl rfl rfl (c_spec_l1Cur_among t_41.2 ([6, -6, 5] : List Int) t_48 ht_48 _ m47 b_p_c s1 (h42.mono hl47) s46 (h46.froz hl47 (hz47 0 _ rfl)) _ hE47) fun a w _ hR hF => hK _ _ ?_
                                obtain ⟨rfl, hR47, hk49⟩ := hR
                                have hS : St _ _ _ _ [[⟨b_p_c, [s1.v, (.int .i64 t_48.2.at_), (.int .u64 t_48.2.seed.v)], 69⟩], q46, q39, [⟨b9, [s8.v], 25⟩], [⟨b2, [nilS.v], 25⟩]] := hS47.leaveF hR47
                                have h49 : Rd m s1 t_48.2.code := by rw [hk49]; exact h42
                                refine e_x (v := s8.v) 1 hF hS rfl (ex_load1 3 0 Try.underlying23 rfl rfl rfl rfl) rfl rfl (by kernel_rfl) (by kernel_rfl) (by kernel_rfl) (by kernel_rfl) fun a hF => ?_
                                obtain ⟨s45, hV45⟩ := h39.view he_44
                                refine e_p (v := (elP s8 ((w64 ((goLen t_38.Rows) - 1)).toNat * 1))) 6 hF rfl (ex_indexAddr Try.underlying23 sz33 rfl rfl (h39.idx he_44)) rfl rfl (by kernel_rfl) (by kernel_rfl) (by kernel_rfl) fun a hF => ?_
                                refine e_x (v := s45.v) 7 hF hS rfl (ex_loadE1 0 Try.underlying33 rfl rfl ((hV45.atH he_44).at 2 rfl) rfl rfl) rfl rfl (by kernel_rfl) (by kernel_rfl) (by kernel_rfl) (by kernel_rfl) fun a hF => ?_
                                obtain ⟨vs51, at51, d51⟩ := hV45.at he_44 he_50 1 rfl
                                obtain rfl : vs51 = [(.int .i64 e_50)] := d51
                                refine e_p (v := (elP s45 ((0 : Int).toNat * 1))) 11 hF rfl (ex_indexAddr Try.underlying33 sz3 rfl rfl (hV45.idx he_44 he_50)) rfl rfl (by kernel_rfl) (by kernel_rfl) (by kernel_rfl) fun a hF => ?_
                                refine e_one 12 (by kernel_rfl) ?_
                                have hS : St _ _ _ _ [q39, [⟨b_p_c, [s1.v, (.int .i64 t_48.2.at_), (.int .u64 t_48.2.seed.v)], 69⟩], q46, [⟨b9, [s8.v], 25⟩], [⟨b2, [nilS.v], 25⟩]] := hS.sel [2, 0, 1, 3, 4] (by decide)
                                refine e_opl rfl rfl rfl fun _ hK => wp_storeV (e' := t_48.1) (us := [(.int .i64 t_48.1)]) (vs := [(.int .i64 e_50)]) 0 hF hS hV45 he_44 sz3 rfl rfl rfl rfl rfl rfl rfl he_50 at51 rfl rfl rfl fun w q52 hS h52 => hK _ _ ?_
                                refine e_end (by kernel_rfl) (n_jn ?_) _
                                obtain rfl := someI hj14
                                exact ⟨q52, _, _, rfl, hF.sub ⟨rfl, rfl, trivial⟩, hS.mask [true, true, false, true, true], h49, (hk49.trans (hk42.trans h37k)), h52.own⟩
                          · refine e_op rfl rfl fun _ hK => wp_buildSlice' (l := ([6, -6, 5] : List Int)) (cells := [(.int .i64 6), (.int .i64 (-6)), (.int .i64 5)]) hF hS Try.underlying33 inf3 rfl rfl (by kernel_rfl) rfl rfl rfl ⟨rfl, rfl, rfl, rfl⟩ rfl rfl fun a w q46 s46 hF hS h46 hb => hK _ _ hb ?_
                            refine e_all [1, 3, 10] (by kernel_rfl) rfl ⟨?_, ?_, ?_, trivial⟩
                            · refine e_lx (v := s8.v) hF hS rfl (ex_load1 3 0 Try.underlying23 rfl rfl rfl rfl) rfl rfl fun a hF => ?_
                              refine e_all [3, 10] (by kernel_rfl) rfl ⟨?_, ?_, trivial⟩
                              · refine e_lx (v := s8.v) hF hS rfl (ex_load1 3 0 Try.underlying23 rfl rfl rfl rfl) rfl rfl fun a hF => ?_
                                refine e_p (v := (.int .i64 (goLen t_38.Rows))) 4 hF rfl (ex_len Try.underlying23 rfl h39.len) rfl rfl (by kernel_rfl) (by kernel_rfl) (by kernel_rfl) fun a hF => ?_
                                refine e_p (v := (.int .i64 (w64 ((goLen t_38.Rows) - 1)))) 5 hF rfl (ex_ibin rfl rfl rfl) rfl rfl (by kernel_rfl) (by kernel_rfl) (by kernel_rfl) fun a hF => ?_
                                obtain ⟨s45, hV45⟩ := h39.view he_44
                                refine e_p (v := (elP s8 ((w64 ((goLen t_38.Rows) - 1)).toNat * 1))) 6 hF rfl (ex_indexAddr Try.underlying23 sz33 rfl rfl (h39.idx he_44)) rfl rfl (by kernel_rfl) (by kernel_rfl) (by kernel_rfl) fun a hF => ?_
                                refine e_all [7, 10] (by kernel_rfl) rfl ⟨?_, ?_, trivial⟩
                                · refine e_lx (v := s45.v) hF hS rfl (ex_loadE1 0 Try.underlying33 rfl rfl ((hV45.atH he_44).at 2 rfl) rfl rfl) rfl rfl fun a hF => ?_
                                  refine e_one 10 (by kernel_rfl) ?_
                                  have hS : St _ _ _ _ [[⟨b_p_c, [s1.v, (.int .i64 t_41.2.at_), (.int .u64 t_41.2.seed.v)], 69⟩], q46, q39, [⟨b9, [s8.v], 25⟩], [⟨b2, [nilS.v], 25⟩]] := hS.sel [1, 0, 2, 3, 4] (by decide)
                                  have hS47 : St _ _ _ _ ([[⟨b_p_c, [s1.v, (.int .i64 t_41.2.at_), (.int .u64 t_41.2.seed.v)], 69⟩]] ++ [q46, q39, [⟨b9, [s8.v], 25⟩], [⟨b2, [nilS.v], 25⟩]]) := hS
                                  obtain ⟨m47, hl47, hE47, hz47⟩ := hS47.lendX
                                  refine e_opl rfl rfl rfl fun _ hK => wp_callX (vs := [(.pointer (some ⟨b_p_c, 0, none⟩)), s46.v]) hF Try.func40 (by kernel_rfl) rfl rfl rfl (c_spec_l1Cur_among t_41.2 ([6, -6, 5] : List Int) t_48 ht_48 _ m47 b_p_c s1 (h42.mono hl47) s46 (h46.froz hl47 (hz47 0 _ rfl)) _ hE47) fun a w _ hR hF => hK _ _ ?_
                                  obtain ⟨rfl, hR47, hk49⟩ := hR
                                  have hS : St _ _ _ _ [[⟨b_p_c, [s1.v, (.int .i64 t_48.2.at_), (.int .u64 t_48.2.seed.v)], 69⟩], q46, q39, [⟨b9, [s8.v], 25⟩], [⟨b2, [nilS.v], 25⟩]] := hS47.leaveF hR47
                                  have h49 : Rd m s1 t_48.2.code := by rw [hk49]; exact h42
                                  obtain ⟨vs51, at51, d51⟩ := hV45.at he_44 he_50 1 rfl
                                  obtain rfl : vs51 = [(.int .i64 e_50)] := d51
                                  refine e_p (v := (elP s45 ((0 : Int).toNat * 1))) 11 hF rfl (ex_indexAddr Try.underlying33 sz3 rfl rfl (hV45.idx he_44 he_50)) rfl rfl (by kernel_rfl) (by kernel_rfl) (by kernel_rfl) fun a hF => ?_
                                  refine e_one 12 (by kernel_rfl) ?_
                                  have hS : St _ _ _ _ [q39, [⟨b_p_c, [s1.v, (.int .i64 t_48.2.at_), (.int .u64 t_48.2.seed.v)], 69⟩], q46, [⟨b9, [s8.v], 25⟩], [⟨b2, [nilS.v], 25⟩]] := hS.sel [2, 0, 1, 3, 4] (by decide)
                                  refine e_opl rfl rfl rfl fun _ hK => wp_storeV (e' := t_48.1) (us := [(.int .i64 t_48.1)]) (vs := [(.int .i64 e_50)]) 0 hF hS hV45 he_44 sz3 rfl rfl rfl rfl rfl rfl rfl he_50 at51 rfl rfl rfl fun w q52 hS h52 => hK _ _ ?_
                                  refine e_end (by kernel_rfl) (n_jn ?_) _
                                  obtain rfl := someI hj14
                                  exact ⟨q52, _, _, rfl, hF.sub ⟨rfl, rfl, trivial⟩, hS.mask [true, true, false, true, true], h49, (hk49.trans (hk42.trans h37k)), h52.own⟩
                                · have hS : St _ _ _ _ [[⟨b_p_c, [s1.v, (.int .i64 t_41.2.at_), (.int .u64 t_41.2.seed.v)], 69⟩], q46, q39, [⟨b9, [s8.v], 25⟩], [⟨b2, [nilS.v], 25⟩]] := hS.sel [1, 0, 2, 3, 4] (by decide)
                                  have hS47 : St _ _ _ _ ([[⟨b_p_c, [s1.v, (.int .i64 t_41.2.at_), (.int .u64 t_41.2.seed.v)], 69⟩]] ++ [q46, q39, [⟨b9, [s8.v], 25⟩], [⟨b2, [nilS.v], 25⟩]]) := hS
                                  obtain ⟨m47, hl47, hE47, hz47⟩ := hS47.lendX
                                  refine e_opl rfl rfl rfl fun _ hK => wp_callX (vs := [(.pointer (some ⟨b_p_c, 0, none⟩)), s46.v]) hF Try.func40 (by kernel_rfl) rfl rfl rfl (c_spec_l1Cur_among t_41.2 ([6, -6, 5] : List Int) t_48 ht_48 _ m47 b_p_c s1 (h42.mono hl47) s46 (h46.froz hl47 (hz47 0 _ rfl)) _ hE47) fun a w _ hR hF => hK _ _ ?_
                                  obtain ⟨rfl, hR47, hk49⟩ := hR
                                  have hS : St _ _ _ _ [[⟨b_p_c, [s1.v, (.int .i64 t_48.2.at_), (.int .u64 t_48.2.seed.v)], 69⟩], q46, q39, [⟨b9, [s8.v], 25⟩], [⟨b2, [nilS.v], 25⟩]] := hS47.leaveF hR47
                                  have h49 : Rd m s1 t_48.2.code := by rw [hk49]; exact h42
                                  refine e_x (v := s45.v) 7 hF hS rfl (ex_loadE1 0 Try.underlying33 rfl rfl ((hV45.atH he_44).at 2 rfl) rfl rfl) rfl rfl (by kernel_rfl) (by kernel_rfl) (by kernel_rfl) (by kernel_rfl) fun a hF => ?_
                                  obtain ⟨vs51, at51, d51⟩ := hV45.at he_44 he_50 1 rfl
                                  obtain rfl : vs51 = [(.int .i64 e_50)] := d51
                                  refine e_p (v := (elP s45 ((0 : Int).toNat * 1))) 11 hF rfl (ex_indexAddr Try.underlying33 sz3 rfl rfl (hV45.idx he_44 he_50)) rfl rfl (by kernel_rfl) (by kernel_rfl) (by kernel_rfl) fun a hF => ?_
                                  refine e_one 12 (by kernel_rfl) ?_
                                  have hS : St _ _ _ _ [q39, [⟨b_p_c, [s1.v, (.int .i64 t_48.2.at_), (.int .u64 t_48.2.seed.v)], 69⟩], q46, [⟨b9, [s8.v], 25⟩], [⟨b2, [nilS.v], 25⟩]] := hS.sel [2, 0, 1, 3, 4] (by decide)
                                  refine e_opl rfl rfl rfl fun _ hK => wp_storeV (e' := t_48.1) (us := [(.int .i64 t_48.1)]) (vs := [(.int .i64 e_50)]) 0 hF hS hV45 he_44 sz3 rfl rfl rfl rfl rfl rfl rfl he_50 at51 rfl rfl rfl fun w q52 hS h52 => hK _ _ ?_
                                  refine e_end (by kernel_rfl) (n_jn ?_) _
                                  obtain rfl := someI hj14
                                  exact ⟨q52, _, _, rfl, hF.sub ⟨rfl, rfl, trivial⟩, hS.mask [true, true, false, true, true], h49, (hk49.trans (hk42.trans h37k)), h52.own⟩
                              · have hS : St _ _ _ _ [[⟨b_p_c, [s1.v, (.int .i64 t_41.2.at_), (.int .u64 t_41.2.seed.v)], 69⟩], q46, q39, [⟨b9, [s8.v], 25⟩], [⟨b2, [nilS.v], 25⟩]] := hS.sel [1, 0, 2, 3, 4] (by decide)
                                have hS47 : St _ _ _ _ ([[⟨b_p_c, [s1.v, (.int .i64 t_41.2.at_), (.int .u64 t_41.2.seed.v)], 69⟩]] ++ [q46, q39, [⟨b9, [s8.v], 25⟩], [⟨b2, [nilS.v], 25⟩]]) := hS
                                obtain ⟨m47, hl47, hE47, hz47⟩ := hS47.lendX
                                refine e_opl rfl rfl rfl fun _ hK => wp_callX (vs := [(.pointer (some ⟨b_p_c, 0, none⟩)), s46.v]) hF Try.func40 (by kernel_rfl) rfl rfl rfl (c_spec_l1Cur_among t_41.2 ([6, -6, 5] : List Int) t_48 ht_48 _ m47 b_p_c s1 (h42.mono hl47) s46 (h46.froz hl47 (hz47 0 _ rfl)) _ hE47) fun a w _ hR hF => hK _ _ ?_
                                obtain ⟨rfl, hR47, hk49⟩ := hR
                                have hS : St _ _ _ _ [[⟨b_p_c, [s1.v, (.int .i64 t_48.2.at_), (.int .u64 t_48.2.seed.v)], 69⟩], q46, q39, [⟨b9, [s8.v], 25⟩], [⟨b2, [nilS.v], 25⟩]] := hS47.leaveF hR47
                                have h49 : Rd m s1 t_48.2.code := by rw [hk49]; exact h42
                                refine e_x (v := s8.v) 3 hF hS rfl (ex_load1 3 0 Try.underlying23 rfl rfl rfl rfl) rfl rfl (by kernel_rfl) (by kernel_rfl) (by kernel_rfl) (by kernel_rfl) fun a hF => ?_
                                refine e_p (v := (.int .i64 (goLen t_38.Rows))) 4 hF rfl (ex_len Try.underlying23 rfl h39.len) rfl rfl (by kernel_rfl) (by kernel_rfl) (by kernel_rfl) fun a hF => ?_
                                refine e_p (v := (.int .i64 (w64 ((goLen t_38.Rows) - 1)))) 5 hF rfl (ex_ibin rfl rfl rfl) rfl rfl (by kernel_rfl) (by kernel_rfl) (by kernel_rfl) fun a hF => ?_
                                obtain ⟨s45, hV45⟩ := h39.view he_44
                                refine e_p (v := (elP s8 ((w64 ((goLen t_38.Rows) - 1)).toNat * 1))) 6 hF rfl (ex_indexAddr Try.underlying23 sz33 rfl rfl (h39.idx he_44)) rfl rfl (by kernel_rfl) (by kernel_rfl) (by kernel_rfl) fun a hF => ?_
                                refine e_x (v := s45.v) 7 hF hS rfl (ex_loadE1 0 Try.underlying33 rfl rfl ((hV45.atH he_44).at 2 rfl) rfl rfl) rfl rfl (by kernel_rfl) (by kernel_rfl) (by kernel_rfl) (by kernel_rfl) fun a hF => ?_
                                obtain ⟨vs51, at51, d51⟩ := hV45.at he_44 he_50 1 rfl
                                obtain rfl : vs51 = [(.int .i64 e_50)] := d51
                                refine e_p (v := (elP s45 ((0 : Int).toNat * 1))) 11 hF rfl (ex_indexAddr Try.underlying33 sz3 rfl rfl (hV45.idx he_44 he_50)) rfl rfl (by kernel_rfl) (by kernel_rfl) (by kernel_rfl) fun a hF => ?_
                                refine e_one 12 (by kernel_rfl) ?_
                                have hS : St _ _ _ _ [q39, [⟨b_p_c, [s1.v, (.int .i64 t_48.2.at_), (.int .u64 t_48.2.seed.v)], 69⟩], q46, [⟨b9, [s8.v], 25⟩], [⟨b2, [nilS.v], 25⟩]] := hS.sel [2, 0, 1, 3, 4] (by decide)
                                refine e_opl rfl rfl rfl fun _ hK => wp_storeV (e' := t_48.1) (us := [(.int .i64 t_48.1)]) (vs := [(.int .i64 e_50)]) 0 hF hS hV45 he_44 sz3 rfl rfl rfl rfl rfl rfl rfl he_50 at51 rfl rfl rfl fun w q52 hS h52 => hK _ _ ?_
                                refine e_end (by kernel_rfl) (n_jn ?_) _
                                obtain rfl := someI hj14
                                exact ⟨q52, _, _, rfl, hF.sub ⟨rfl, rfl, trivial⟩, hS.mask [true, true, false, true, true], h49, (hk49.trans (hk42.trans h37k)), h52.own⟩
                            · refine e_lx (v := s8.v) hF hS rfl (ex_load1 3 0 Try.underlying23 rfl rfl rfl rfl) rfl rfl fun a hF => ?_
                              refine e_p (v := (.int .i64 (goLen t_38.Rows))) 4 hF rfl (ex_len Try.underlying23 rfl h39.len) rfl rfl (by kernel_rfl) (by kernel_rfl) (by kernel_rfl) fun a hF => ?_
                              refine e_p (v := (.int .i64 (w64 ((goLen t_38.Rows) - 1)))) 5 hF rfl (ex_ibin rfl rfl rfl) rfl rfl (by kernel_rfl) (by kernel_rfl) (by kernel_rfl) fun a hF => ?_
                              refine e_all [1, 10] (by kernel_rfl) rfl ⟨?_, ?_, trivial⟩
                              · refine e_lx (v := s8.v) hF hS rfl (ex_load1 3 0 Try.underlying23 rfl rfl rfl rfl) rfl rfl fun a hF => ?_
                                obtain ⟨s45, hV45⟩ := h39.view he_44
                                refine e_p (v := (elP s8 ((w64 ((goLen t_38.Rows) - 1)).toNat * 1))) 6 hF rfl (ex_indexAddr Try.underlying23 sz33 rfl rfl (h39.idx he_44)) rfl rfl (by kernel_rfl) (by kernel_rfl) (by kernel_rfl) fun a hF => ?_
                                refine e_all [7, 10] (by kernel_rfl) rfl ⟨?_, ?_, trivial⟩
                                · refine e_lx (v := s45.v) hF hS rfl (ex_loadE1 0 Try.underlying33 rfl rfl ((hV45.atH he_44).at 2 rfl) rfl rfl) rfl rfl fun a hF => ?_
                                  refine e_one 10 (by kernel_rfl) ?_
                                  have hS : St _ _ _ _ [[⟨b_p_c, [s1.v, (.int .i64 t_41.2.at_), (.int .u64 t_41.2.seed.v)], 69⟩], q46, q39, [⟨b9, [s8.v], 25⟩], [⟨b2, [nilS.v], 25⟩]] := hS.sel [1, 0, 2, 3, 4] (by decide)
                                  have hS47 : St _ _ _ _ ([[⟨b_p_c, [s1.v, (.int .i64 t_41.2.at_), (.int .u64 t_41.2.seed.v)], 69⟩]] ++ [q46, q39, [⟨b9, [s8.v], 25⟩], [⟨b2, [nilS.v], 25⟩]]) := hS
                                  obtain ⟨m47, hl47, hE47, hz47⟩ := hS47.lendX
                                  refine e_opl rfl rfl rfl fun _ hK => wp_callX (vs := [(.pointer (some ⟨b_p_c, 0, none⟩)), s46.v]) hF Try.func40 (by kernel_rfl) rfl rfl rfl (c_spec_l1Cur_among t_41.2 ([6, -6, 5] : List Int) t_48 ht_48 _ m47 b_p_c s1 (h42.mono hl47) s46 (h46.froz hl47 (hz47 0 _ rfl)) _ hE47) fun a w _ hR hF => hK _ _ ?_
                                  obtain ⟨rfl, hR47, hk49⟩ := hR
                                  have hS : St _ _ _ _ [[⟨b_p_c, [s1.v, (.int .i64 t_48.2.at_), (.int .u64 t_48.2.seed.v)], 69⟩], q46, q39, [⟨b9, [s8.v], 25⟩], [⟨b2, [nilS.v], 25⟩]] := hS47.leaveF hR47
                                  have h49 : Rd m s1 t_48.2.code := by rw [hk49]; exact h42
                                  obtain ⟨vs51, at51, d51⟩ := hV45.at he_44 he_50 1 rfl
                                  obtain rfl : vs51 = [(.int .i64 e_50)] := d51
                                  refine e_p (v := (elP s45 ((0 : Int).toNat * 1))) 11 hF rfl (ex_indexAddr Try.underlying33 sz3 rfl rfl (hV45.idx he_44 he_50)) rfl rfl (by kernel_rfl) (by kernel_rfl) (by kernel_rfl) fun a hF => ?_
                                  refine e_one 12 (by kernel_rfl) ?_
                                  have hS : St _ _ _ _ [q39, [⟨b_p_c, [s1.v, (.int .i64 t_48.2.at_), (.int .u64 t_48.2.seed.v)], 69⟩], q46, [⟨b9, [s8.v], 25⟩], [⟨b2, [nilS.v], 25⟩]] := hS.sel [2, 0, 1, 3, 4] (by decide)
                                  refine e_opl rfl rfl rfl fun _ hK => wp_storeV (e' := t_48.1) (us := [(.int .i64 t_48.1)]) (vs := [(.int .i64 e_50)]) 0 hF hS hV45 he_44 sz3 rfl rfl rfl rfl rfl rfl rfl he_50 at51 rfl rfl rfl fun w q52 hS h52 => hK _ _ ?_
                                  refine e_end (by kernel_rfl) (n_jn ?_) _
                                  obtain rfl := someI hj14
                                  exact ⟨q52, _, _, rfl, hF.sub ⟨rfl, rfl, trivial⟩, hS.mask [true, true, false, true, true], h49, (hk49.trans (hk42.trans h37k)), h52.own⟩
                                · have hS : St _ _ _ _ [[⟨b_p_c, [s1.v, (.int .i64 t_41.2.at_), (.int .u64 t_41.2.seed.v)], 69⟩], q46, q39, [⟨b9, [s8.v], 25⟩], [⟨b2, [nilS.v], 25⟩]] := hS.sel [1, 0, 2, 3, 4] (by decide)
                                  have hS47 : St _ _ _ _ ([[⟨b_p_c, [s1.v, (.int .i64 t_41.2.at_), (.int .u64 t_41.2.seed.v)], 69⟩]] ++ [q46, q39, [⟨b9, [s8.v], 25⟩], [⟨b2, [nilS.v], 25⟩]]) := hS
                                  obtain ⟨m47, hl47, hE47, hz47⟩ := hS47.lendX
                                  refine e_opl rfl rfl rfl fun _ hK => wp_callX (vs := [(.pointer (some ⟨b_p_c, 0, none⟩)), s46.v]) hF Try.func40 (by kernel_rfl) rfl rfl rfl (c_spec_l1Cur_among t_41.2 ([6, -6, 5] : List Int) t_48 ht_48 _ m47 b_p_c s1 (h42.mono hl47) s46 (h46.froz hl47 (hz47 0 _ rfl)) _ hE47) fun a w _ hR hF => hK _ _ ?_
                                  obtain ⟨rfl, hR47, hk49⟩ := hR
                                  have hS : St _ _ _ _ [[⟨b_p_c, [s1.v, (.int .i64 t_48.2.at_), (.int .u64 t_48.2.seed.v)], 69⟩], q46, q39, [⟨b9, [s8.v], 25⟩], [⟨b2, [nilS.v], 25⟩]] := hS47.leaveF hR47
                                  have h49 : Rd m s1 t_48.2.code := by rw [hk49]; exact h42
                                  refine e_x (v := s45.v) 7 hF hS rfl (ex_loadE1 0 Try.underlying33 rfl rfl ((hV45.atH he_44).at 2 rfl) rfl rfl) rfl rfl (by kernel_rfl) (by kernel_rfl) (by kernel_rfl) (by kernel_rfl) fun a hF => ?_
                                  obtain ⟨vs51, at51, d51⟩ := hV45.at he_44 he_50 1 rfl
                                  obtain rfl : vs51 = [(.int .i64 e_50)] := d51
                                  refine e_p (v := (elP s45 ((0 : Int).toNat * 1))) 11 hF rfl (ex_indexAddr Try.underlying33 sz3 rfl rfl (hV45.idx he_44 he_50)) rfl rfl (by kernel_rfl) (by kernel_rfl) (by kernel_rfl) fun a hF => ?_
                                  refine e_one 12 (by kernel_rfl) ?_
                                  have hS : St _ _ _ _ [q39, [⟨b_p_c, [s1.v, (.int .i64 t_48.2.at_), (.int .u64 t_48.2.seed.v)], 69⟩], q46, [⟨b9, [s8.v], 25⟩], [⟨b2, [nilS.v], 25⟩]] := hS.sel [2, 0, 1, 3, 4] (by decide)
                                  refine e_opl rfl rfl rfl fun _ hK => wp_storeV (e' := t_48.1) (us := [(.int .i64 t_48.1)]) (vs := [(.int .i64 e_50)]) 0 hF hS hV45 he_44 sz3 rfl rfl rfl rfl rfl rfl rfl he_50 at51 rfl rfl rfl fun w q52 hS h52 => hK _ _ ?_
                                  refine e_end (by kernel_rfl) (n_jn ?_) _
                                  obtain rfl := someI hj14
                                  exact ⟨q52, _, _, rfl, hF.sub ⟨rfl, rfl, trivial⟩, hS.mask [true, true, false, true, true], h49, (hk49.trans (hk42.trans h37k)), h52.own⟩
                              · have hS : St _ _ _ _ [[⟨b_p_c, [s1.v, (.int .i64 t_41.2.at_), (.int .u64 t_41.2.seed.v)], 69⟩], q46, q39, [⟨b9, [s8.v], 25⟩], [⟨b2, [nilS.v], 25⟩]] := hS.sel [1, 0, 2, 3, 4] (by decide)
                                have hS47 : St _ _ _ _ ([[⟨b_p_c, [s1.v, (.int .i64 t_41.2.at_), (.int .u64 t_41.2.seed.v)], 69⟩]] ++ [q46, q39, [⟨b9, [s8.v], 25⟩], [⟨b2, [nilS.v], 25⟩]]) := hS
                                obtain ⟨m47, hl47, hE47, hz47⟩ := hS47.lendX
                                refine e_opl rfl rfl rfl fun _ hK => wp_callX (vs := [(.pointer (some ⟨b_p_c, 0, none⟩)), s46.v]) hF Try.func40 (by kernel_rfl) rfl rfl rfl (c_spec_l1Cur_among t_41.2 ([6, -6, 5] : List Int) t_48 ht_48 _ m47 b_p_c s1 (h42.mono hl47) s46 (h46.froz hl47 (hz47 0 _ rfl)) _ hE47) fun a w _ hR hF => hK _ _ ?_
                                obtain ⟨rfl, hR47, hk49⟩ := hR
                                have hS : St _ _ _ _ [[⟨b_p_c, [s1.v, (.int .i64 t_48.2.at_), (.int .u64 t_48.2.seed.v)], 69⟩], q46, q39, [⟨b9, [s8.v], 25⟩], [⟨b2, [nilS.v], 25⟩]] := hS47.leaveF hR47
                                have h49 : Rd m s1 t_48.2.code := by rw [hk49]; exact h42
                                refine e_x (v := s8.v) 1 hF hS rfl (ex_load1 3 0 Try.underlying23 rfl rfl rfl rfl) rfl rfl (by kernel_rfl) (by kernel_rfl) (by kernel_rfl) (by kernel_rfl) fun a hF => ?_
                                obtain ⟨s45, hV45⟩ := h39.view he_44
                                refine e_p (v := (elP s8 ((w64 ((goLen t_38.Rows) - 1)).toNat * 1))) 6 hF rfl (ex_indexAddr Try.underlying23 sz33 rfl rfl (h39.idx he_44)) rfl rfl (by kernel_rfl) (by kernel_rfl) (by kernel_rfl) fun a hF => ?_
                                refine e_x (v := s45.v) 7 hF hS rfl (ex_loadE1 0 Try.underlying33 rfl rfl ((hV45.atH he_44).at 2 rfl) rfl rfl) rfl rfl (by kernel_rfl) (by kernel_rfl) (by kernel_rfl) (by kernel_rfl) fun a hF => ?_
                                obtain ⟨vs51, at51, d51⟩ := hV45.at he_44 he_50 1 rfl
                                obtain rfl : vs51 = [(.int .i64 e_50)] := d51
                                refine e_p (v := (elP s45 ((0 : Int).toNat * 1))) 11 hF rfl (ex_indexAddr Try.underlying33 sz3 rfl rfl (hV45.idx he_44 he_50)) rfl rfl (by kernel_rfl) (by kernel_rfl) (by kernel_rfl) fun a hF => ?_
                                refine e_one 12 (by kernel_rfl) ?_
                                have hS : St _ _ _ _ [q39, [⟨b_p_c, [s1.v, (.int .i64 t_48.2.at_), (.int .u64 t_48.2.seed.v)], 69⟩], q46, [⟨b9, [s8.v], 25⟩], [⟨b2, [nilS.v], 25⟩]] := hS.sel [2, 0, 1, 3, 4] (by decide)
                                refine e_opl rfl rfl rfl fun _ hK => wp_storeV (e' := t_48.1) (us := [(.int .i64 t_48.1)]) (vs := [(.int .i64 e_50)]) 0 hF hS hV45 he_44 sz3 rfl rfl rfl rfl rfl rfl rfl he_50 at51 rfl rfl rfl fun w q52 hS h52 => hK _ _ ?_
                                refine e_end (by kernel_rfl) (n_jn ?_) _
                                obtain rfl := someI hj14
                                exact ⟨q52, _, _, rfl, hF.sub ⟨rfl, rfl, trivial⟩, hS.mask [true, true, false, true, true], h49, (hk49.trans (hk42.trans h37k)), h52.own⟩
                            · have hS : St _ _ _ _ [[⟨b_p_c, [s1.v, (.int .i64 t_41.2.at_), (.int .u64 t_41.2.seed.v)], 69⟩], q46, q39, [⟨b9, [s8.v], 25⟩], [⟨b2, [nilS.v], 25⟩]] := hS.sel [1, 0, 2, 3, 4] (by decide)
                              have hS47 : St _ _ _ _ ([[⟨b_p_c, [s1.v, (.int .i64 t_41.2.at_), (.int .u64 t_41.2.seed.v)], 69⟩]] ++ [q46, q39, [⟨b9, [s8.v], 25⟩], [⟨b2, [nilS.v], 25⟩]]) := hS
                              obtain ⟨m47, hl47, hE47, hz47⟩ := hS47.lendX
                              refine e_opl rfl rfl rfl fun _ hK => wp_callX (vs := [(.pointer (some ⟨b_p_c, 0, none⟩)), s46.v]) hF Try.func40 (by kernel_rfl) rfl rfl rfl (c_spec_l1Cur_among t_41.2 ([6, -6, 5] : List Int) t_48 ht_48 _ m47 b_p_c s1 (h42.mono hl47) s46 (h46.froz hl47 (hz47 0 _ rfl)) _ hE47) fun a w _ hR hF => hK _ _ ?_
                              obtain ⟨rfl, hR47, hk49⟩ := hR
                              have hS : St _ _ _ _ [[⟨b_p_c, [s1.v, (.int .i64 t_48.2.at_), (.int .u64 t_48.2.seed.v)], 69⟩], q46, q39, [⟨b9, [s8.v], 25⟩], [⟨b2, [nilS.v], 25⟩]] := hS47.leaveF hR47
                              have h49 : Rd m s1 t_48.2.code := by rw [hk49]; exact h42
                              refine e_x (v := s8.v) 1 hF hS rfl (ex_load1 3 0 Try.underlying23 rfl rfl rfl rfl) rfl rfl (by kernel_rfl) (by kernel_rfl) (by kernel_rfl) (by kernel_rfl) fun a hF => ?_
                              refine e_x (v := s8.v) 3 hF hS rfl (ex_load1 3 0 Try.underlying23 rfl rfl rfl rfl) rfl rfl (by kernel_rfl) (by kernel_rfl) (by kernel_rfl) (by kernel_rfl) fun a hF => ?_
                              refine e_p (v := (.int .i64 (goLen t_38.Rows))) 4 hF rfl (ex_len Try.underlying23 rfl h39.len) rfl rfl (by kernel_rfl) (by kernel_rfl) (by kernel_rfl) fun a hF => ?_
                              refine e_p (v := (.int .i64 (w64 ((goLen t_38.Rows) - 1)))) 5 hF rfl (ex_ibin rfl rfl rfl) rfl rfl (by kernel_rfl) (by kernel_rfl) (by kernel_rfl) fun a hF => ?_
                              obtain ⟨s45, hV45⟩ := h39.view he_44
                              refine e_p (v := (elP s8 ((w64 ((goLen t_38.Rows) - 1)).toNat * 1))) 6 hF rfl (ex_indexAddr Try.underlying23 sz33 rfl rfl (h39.idx he_44)) rfl rfl (by kernel_rfl) (by kernel_rfl) (by kernel_rfl) fun a hF => ?_
                              refine e_x (v := s45.v) 7 hF hS rfl (ex_loadE1 0 Try.underlying33 rfl rfl ((hV45.atH he_44).at 2 rfl) rfl rfl) rfl rfl (by kernel_rfl) (by kernel_rfl) (by kernel_rfl) (by kernel_rfl) fun a hF => ?_
                              obtain ⟨vs51, at51, d51⟩ := hV45.at he_44 he_50 1 rfl
                              obtain rfl : vs51 = [(.int .i64 e_50)] := d51
                              refine e_p (v := (elP s45 ((0 : Int).toNat * 1))) 11 hF rfl (ex_indexAddr Try.underlying33 sz3 rfl rfl (hV45.idx he_44 he_50)) rfl rfl (by kernel_rfl) (by kernel_rfl) (by kernel_rfl) fun a hF => ?_
                              refine e_one 12 (by kernel_rfl) ?_
                              have hS : St _ _ _ _ [q39, [⟨b_p_c, [s1.v, (.int .i64 t_48.2.at_), (.int .u64 t_48.2.seed.v)], 69⟩], q46, [⟨b9, [s8.v], 25⟩], [⟨b2, [nilS.v], 25⟩]] := hS.sel [2, 0, 1, 3, 4] (by decide)
                              refine e_opl rfl rfl rfl fun _ hK => wp_storeV (e' := t_48.1) (us := [(.int .i64 t_48.1)]) (vs := [(.int .i64 e_50)]) 0 hF hS hV45 he_44 sz3 rfl rfl rfl rfl rfl rfl rfl he_50 at51 rfl rfl rfl fun w q52 hS h52 => hK _ _ ?_
                              refine e_end (by kernel_rfl) (n_jn ?_) _
                              obtain rfl := someI hj14
                              exact ⟨q52, _, _, rfl, hF.sub ⟨rfl, rfl, trivial⟩, hS.mask [true, true, false, true, true], h49, (hk49.trans (hk42.trans h37k)), h52.own⟩
                        · rintro a w ⟨q56, p_c_53, t_55, rfl, hF, hS, h54, h54k, h56⟩
                          refine n_jn ?_
                          obtain rfl := someI hj12
                          exact ⟨q56, _, _, rfl, hF.sub ⟨rfl, rfl, trivial⟩, hS, h54, h54k, h56⟩
                    · rintro a w ⟨q60, p_c_57, t_59, rfl, hF, hS, h58, h58k, h60⟩
                      refine n_jn ?_
                      obtain rfl := someI hj10
                      exact ⟨q60, s8, _, _, rfl, hF.sub ⟨rfl, rfl, trivial⟩, hS, h58, h58k, h60⟩
                  · have hj10 := cond_t hc11 hj10
                    refine q_cond_t hF rfl hc11 ?_
                    refine q_block ?_
                    obtain ⟨o15, hl15, hj10⟩ := bindS hj10
                    refine q_loop (fun (s : spec_l1Cur × impl_NoiseTable) a w => ∃ (q64 : Piece), ∃ (s64 : Sl), ∃ p_c_61, ∃ t_63, s = (p_c_61, t_63) ∧ Fr a 87 [(0, (.pointer (some ⟨b_p_c, 0, none⟩))), (2, (.pointer (some ⟨b2, 0, none⟩))), (3, (.pointer (some ⟨b9, 0, none⟩)))] ∧ St X w0 w m [q64, [⟨b_p_c, [s1.v, (.int .i64 p_c_61.at_), (.int .u64 p_c_61.seed.v)], 69⟩], [⟨b9, [s64.v], 25⟩], [⟨b2, [nilS.v], 25⟩]] ∧ Rd m s1 p_c_61.code ∧ p_c_61.code = p_c.code ∧ OwnD m 33 3 q64 s64 t_63.Rows) (fun (o : spec_l1Cur × impl_NoiseTable) e a w => ∃ (q84 : Piece), ∃ (s84 : Sl), ∃ p_c_81, ∃ t_83, o = (p_c_81, t_83) ∧ e = .exit 1 ∧ Fr a 87 [(2, (.pointer (some ⟨b2, 0, none⟩))), (3, (.pointer (some ⟨b9, 0, none⟩)))] ∧ St X w0 w m [q84, [⟨b_p_c, [s1.v, (.int .i64 p_c_81.at_), (.int .u64 p_c_81.seed.v)], 69⟩], [⟨b9, [s84.v], 25⟩], [⟨b2, [nilS.v], 25⟩]] ∧ Rd m s1 p_c_81.code ∧ p_c_81.code = p_c.code ∧ OwnD m 33 3 q84 s84 t_83.Rows) hl15 ⟨q39, s8, _, _, rfl, hF.sub ⟨rfl, rfl, rfl, trivial⟩, hS.sel [1, 0, 2, 3] (by decide), h42, (hk42.trans h37k), h39⟩ ?_ ?_
                    · clear hF hS
                      rintro s a w st ⟨q64, s64, p_c_61, t_63, rfl, hF, hS, h62, h62k, h64⟩ hb15
                      unfold spec_l1Cur_noiseTable_l1 at hb15
                      refine q_seq ?_
                      refine q_seq ?_
                      refine e_region [4] mixed fun w' hw' => ?_
                      have hS := hS.below hw'
                      refine e_p (v := (.pointer (some ⟨b9, 0, none⟩))) 0 hF rfl (ex_fieldAddr Try.underlying25 rfl sz23 rfl rfl) rfl rfl (by kernel_rfl) (by kernel_rfl) (by kernel_rfl) fun a hF => ?_
                      refine e_p (v := (.pointer (some ⟨b_p_c, 0, none⟩))) 3 hF rfl (ex_move rfl) rfl rfl (by kernel_rfl) (by kernel_rfl) (by kernel_rfl) fun a hF => ?_
                      obtain ⟨t_69, ht_69, hb15⟩ := bindS hb15
                      refine e_all [1, 4] (by kernel_rfl) rfl ⟨?_, ?_, trivial⟩
                      · refine e_lx (v := s64.v) hF hS rfl (ex_load1 2 0 Try.underlying23 rfl rfl rfl rfl) rfl rfl fun a hF => ?_
                        refine e_p (v := (.int .i64 (goLen t_63.Rows))) 2 hF rfl (ex_len Try.underlying23 rfl h64.len) rfl rfl (by kernel_rfl) (by kernel_rfl) (by kernel_rfl) fun a hF => ?_
                        refine e_one 4 (by kernel_rfl) ?_
                        have hS : St _ _ _ _ [[⟨b_p_c, [s1.v, (.int .i64 p_c_61.at_), (.int .u64 p_c_61.seed.v)], 69⟩], q64, [⟨b9, [s64.v], 25⟩], [⟨b2, [nilS.v], 25⟩]] := hS.sel [1, 0, 2, 3] (by decide)
                        have hS68 : St _ _ _ _ ([[⟨b_p_c, [s1.v, (.int .i64 p_c_61.at_), (.int .u64 p_c_61.seed.v)], 69⟩]] ++ [q64, [⟨b9, [s64.v], 25⟩], [⟨b2, [nilS.v], 25⟩]]) := hS
                        have hE68 := hS68.enter
                        refine e_opl rfl rfl rfl fun _ hK => wp_callX (vs := [(.pointer (some ⟨b_p_c, 0, none⟩)), (.int .i64 2)]) hF Try.func41 (by kernel_rfl) rfl rfl rfl (c_spec_l1Cur_pick p_c_61 2 t_69 ht_69 _ m b_p_c s1 h62 _ hE68) fun a w _ hR hF => hK _ _ ?_
                        obtain ⟨rfl, hR68, hk70⟩ := hR
                        have hS : St _ _ _ _ [[⟨b_p_c, [s1.v, (.int .i64 t_69.2.at_), (.int .u64 t_69.2.seed.v)], 69⟩], q64, [⟨b9, [s64.v], 25⟩], [⟨b2, [nilS.v], 25⟩]] := hS68.leaveF hR68
                        have h70 : Rd m s1 t_69.2.code := by rw [hk70]; exact h62
                        refine e_p (v := (.int .i64 (w64 (20 + t_69.1)))) 5 hF rfl (ex_ibin rfl rfl rfl) rfl rfl (by kernel_rfl) (by kernel_rfl) (by kernel_rfl) fun a hF => ?_
                        refine e_p (v := (.bool (decide ((goLen t_63.Rows) < (w64 (20 + t_69.1)))))) 6 hF rfl (ex_ibin rfl rfl rfl) rfl rfl (by kernel_rfl) (by kernel_rfl) (by kernel_rfl) fun a hF => ?_
                        refine e_end (by kernel_rfl) (n_sq ?_) _
                        rcases bcase (decide ((goLen t_63.Rows) < (w64 (20 + t_69.1)))) with hc16 | hc16
                        · have hb15 := cond_f hc16 hb15
                          refine q_cond_f hF rfl hc16 ?_
                          refine q_exit (x_sq ?_)
                          obtain rfl := someI hb15
                          exact ⟨nofun, .inl ⟨q64, s64, _, _, rfl, rfl, hF.sub ⟨rfl, rfl, trivial⟩, hS.sel [1, 0, 2, 3] (by decide), h70, (hk70.trans h62k), h64⟩⟩
                        · have hb15 := cond_t hc16 hb15
                          refine q_cond_t hF rfl hc16 ?_
                          refine q_skipc (n_sq ?_)
                          refine q_block ?_
                          refine e_region [4, 6] mixed fun w' hw' => ?_
                          have hS := hS.below hw'
                          refine e_p (v := (.pointer (some ⟨b9, 0, none⟩))) 0 hF rfl (ex_fieldAddr Try.underlying25 rfl sz23 rfl rfl) rfl rfl (by kernel_rfl) (by kernel_rfl) (by kernel_rfl) fun a hF => ?_
                          refine e_x (v := s64.v) 1 hF hS rfl (ex_load1 2 0 Try.underlying23 rfl rfl rfl rfl) rfl rfl (by kernel_rfl) (by kernel_rfl) (by kernel_rfl) (by kernel_rfl) fun a hF => ?_
                          refine e_one 2 (by kernel_rfl) ?_
                          obtain ⟨l_71, hl_71, hb15⟩ := bindS hb15
                          refine e_op rfl rfl fun _ hK => wp_make (z := (0 : Int)) hF hS Try.underlying33 inf3 rfl rfl rfl rfl rfl (by decide) hl_71 rfl fun a w q72 s72 hF hS h72 hb => hK _ _ hb ?_
                          refine e_one 3 (by kernel_rfl) ?_
                          refine e_op rfl rfl fun _ hK => wp_build1D hF hS h72 Try.underlying23 inf33 rfl rfl rfl fun a w q73 s73 hF hS h73 hb => hK _ _ hb ?_
                          refine e_one 4 (by kernel_rfl) ?_
                          have hS : St _ _ _ _ [q64, q73, [⟨b_p_c, [s1.v, (.int .i64 t_69.2.at_), (.int .u64 t_69.2.seed.v)], 69⟩], [⟨b9, [s64.v], 25⟩], [⟨b2, [nilS.v], 25⟩]] := hS.sel [2, 0, 1, 3, 4] (by decide)
                          obtain ⟨l_74, hl_74, hb15⟩ := bindS hb15
                          refine e_opl rfl rfl rfl fun _ hK => wp_appendD hF hS h64 h73 Try.underlying23 inf33 rfl rfl rfl (by decide) hl_74 rfl fun a w q75 s75 hF hS h75 => hK _ _ ?_
                          refine e_p (v := (.pointer (some ⟨b9, 0, none⟩))) 5 hF rfl (ex_fieldAddr Try.underlying25 rfl sz23 rfl rfl) rfl rfl (by kernel_rfl) (by kernel_rfl) (by kernel_rfl) fun a hF => ?_
                          refine e_one 6 (by kernel_rfl) ?_
                          refine e_store (vs := [s75.v]) (cs' := [s75.v]) 2 0 hF hS rfl rfl sz23 rfl rfl rfl rfl rfl rfl rfl rfl fun a w hF hS => ?_
                          refine e_end (by kernel_rfl) (n_ib ?_) _
                          obtain rfl := someI hb15
                          exact ⟨rfl, q75, s75, _, _, rfl, hF.sub ⟨rfl, rfl, rfl, trivial⟩, hS, h70, (hk70.trans h62k), h75⟩
                      · have hS : St _ _ _ _ [[⟨b_p_c, [s1.v, (.int .i64 p_c_61.at_), (.int .u64 p_c_61.seed.v)], 69⟩], q64, [⟨b9, [s64.v], 25⟩], [⟨b2, [nilS.v], 25⟩]] := hS.sel [1, 0, 2, 3] (by decide)
                        have hS68 : St _ _ _ _ ([[⟨b_p_c, [s1.v, (.int .i64 p_c_61.at_), (.int .u64 p_c_61.seed.v)], 69⟩]] ++ [q64, [⟨b9, [s64.v], 25⟩], [⟨b2, [nilS.v], 25⟩]]) := hS
                        have hE68 := hS68.enter
                        refine e_opl rfl rfl rfl fun _ hK => wp_callX (vs := [(.pointer (some ⟨b_p_c, 0, none⟩)), (.int .i64 2)]) hF Try.func41 (by kernel_rfl) rfl rfl rfl (c_spec_l1Cur_pick p_c_61 2 t_69 ht_69 _ m b_p_c s1 h62 _ hE68) fun a w _ hR hF => hK _ _ ?_
                        obtain ⟨rfl, hR68, hk70⟩ := hR
                        have hS : St _ _ _ _ [[⟨b_p_c, [s1.v, (.int .i64 t_69.2.at_), (.int .u64 t_69.2.seed.v)], 69⟩], q64, [⟨b9, [s64.v], 25⟩], [⟨b2, [nilS.v], 25⟩]] := hS68.leaveF hR68
                        have h70 : Rd m s1 t_69.2.code := by rw [hk70]; exact h62
                        refine e_x (v := s64.v) 1 hF hS rfl (ex_load1 2 0 Try.underlying23 rfl rfl rfl rfl) rfl rfl (by kernel_rfl) (by kernel_rfl) (by kernel_rfl) (by kernel_rfl) fun a hF => ?_
                        refine e_p (v := (.int .i64 (goLen t_63.Rows))) 2 hF rfl (ex_len Try.underlying23 rfl h64.len) rfl rfl (by kernel_rfl) (by kernel_rfl) (by kernel_rfl) fun a hF => ?_
                        refine e_p (v := (.int .i64 (w64 (20 + t_69.1)))) 5 hF rfl (ex_ibin rfl rfl rfl) rfl rfl (by kernel_rfl) (by kernel_rfl) (by kernel_rfl) fun a hF => ?_
                        refine e_p (v := (.bool (decide ((goLen t_63.Rows) < (w64 (20 + t_69.1)))))) 6 hF rfl (ex_ibin rfl rfl rfl) rfl rfl (by kernel_rfl) (by kernel_rfl) (by kernel_rfl) fun a hF => ?_
                        refine e_end (by kernel_rfl) (n_sq ?_) _
                        rcases bcase (decide ((goLen t_63.Rows) < (w64 (20 + t_69.1)))) with hc17 | hc17
                        · have hb15 := cond_f hc17 hb15
                          refine q_cond_f hF rfl hc17 ?_
                          refine q_exit (x_sq ?_)
                          obtain rfl := someI hb15
                          exact ⟨nofun, .inl ⟨q64, s64, _, _, rfl, rfl, hF.sub ⟨rfl, rfl, trivial⟩, hS.sel [1, 0, 2, 3] (by decide), h70, (hk70.trans h62k), h64⟩⟩
                        · have hb15 := cond_t hc17 hb15
                          refine q_cond_t hF rfl hc17 ?_
                          refine q_skipc (n_sq ?_)
                          refine q_block ?_
                          refine e_region [4, 6] mixed fun w' hw' => ?_
                          have hS := hS.below hw'
                          refine e_p (v := (.pointer (some ⟨b9, 0, none⟩))) 0 hF rfl (ex_fieldAddr Try.underlying25 rfl sz23 rfl rfl) rfl rfl (by kernel_rfl) (by kernel_rfl) (by kernel_rfl) fun a hF => ?_
                          refine e_x (v := s64.v) 1 hF hS rfl (ex_load1 2 0 Try.underlying23 rfl rfl rfl rfl) rfl rfl (by kernel_rfl) (by kernel_rfl) (by kernel_rfl) (by kernel_rfl) fun a hF => ?_
                          refine e_one 2 (by kernel_rfl) ?_
                          obtain ⟨l_76, hl_76, hb15⟩ := bindS hb15
                          refine e_op rfl rfl fun _ hK => wp_make (z := (0 : Int)) hF hS Try.underlying33 inf3 rfl rfl rfl rfl rfl (by decide) hl_76 rfl fun a w q77 s77 hF hS h77 hb => hK _ _ hb ?_
                          refine e_one 3 (by kernel_rfl) ?_
                          refine e_op rfl rfl fun _ hK => wp_build1D hF hS h77 Try.underlying23 inf33 rfl rfl rfl fun a w q78 s78 hF hS h78 hb => hK _ _ hb ?_
                          refine e_one 4 (by kernel_rfl) ?_
                          have hS : St _ _ _ _ [q64, q78, [⟨b_p_c, [s1.v, (.int .i64 t_69.2.at_), (.int .u64 t_69.2.seed.v)], 69⟩], [⟨b9, [s64.v], 25⟩], [⟨b2, [nilS.v], 25⟩]] := hS.sel [2, 0, 1, 3, 4] (by decide)
                          obtain ⟨l_79, hl_79, hb15⟩ := bindS hb15
                          refine e_opl rfl rfl rfl fun _ hK => wp_appendD hF hS h64 h78 Try.underlying23 inf33 rfl rfl rfl (by decide) hl_79 rfl fun a w q80 s80 hF hS h80 => hK _ _ ?_
                          refine e_p (v := (.pointer (some ⟨b9, 0, none⟩))) 5 hF rfl (ex_fieldAddr Try.underlying25 rfl sz23 rfl rfl) rfl rfl (by kernel_rfl) (by kernel_rfl) (by kernel_rfl) fun a hF => ?_
                          refine e_one 6 (by kernel_rfl) ?_
                          refine e_store (vs := [s80.v]) (cs' := [s80.v]) 2 0 hF hS rfl rfl sz23 rfl rfl rfl rfl rfl rfl rfl rfl fun a w hF hS => ?_
                          refine e_end (by kernel_rfl) (n_ib ?_) _
                          obtain rfl := someI hb15
                          exact ⟨rfl, q80, s80, _, _, rfl, hF.sub ⟨rfl, rfl, rfl, trivial⟩, hS, h70, (hk70.trans h62k), h80⟩
                    · rintro e a w ⟨q84, s84, p_c_81, t_83, rfl, rfl, hF, hS, h82, h82k, h84⟩
                      refine x_ib (n_jn ?_)
                      obtain rfl := someI hj10
                      exact ⟨q84, s84, _, _, rfl, hF.sub ⟨rfl, rfl, trivial⟩, hS, h82, h82k, h84⟩
                · rintro a w ⟨q88, s88, p_c_85, t_87, rfl, hF, hS, h86, h86k, h88⟩
                  refine n_jn ?_
                  obtain rfl := someI hj7
                  exact ⟨q88, s88, _, _, rfl, hF.sub ⟨rfl, rfl, trivial⟩, hS, h86, h86k, h88⟩
              · have hj7 := cond_t hc9 hj7
                refine q_cond_t hF rfl hc9 ?_
                refine q_seq ?_
                refine q_region ?_
                refine q_x (v := (.agg #[nilS.v])) hF hS (ex_build (cells := [nilS.v]) rfl (by kernel_rfl)) rfl rfl fun a hF => ?_
                refine q_store (vs := [nilS.v]) (cs' := [nilS.v]) 3 0 hF hS sz25 rfl rfl rfl rfl rfl rfl rfl rfl fun a w hF hS => ?_
                refine q_end (n_sq (q_ret (r_jn ?_)))
                obtain rfl := someI hj7
                refine r_jn ?_
                obtain rfl := someI hj5
                refine r_ib (r_sq ?_)
                obtain rfl := someI hr
                exact ret_ofX hF hS rfl (.cellA (us := [nilS.v]) 3 0 Try.underlying25 rfl sz25 rfl rfl rfl rfl .nil) ⟨[], nilS, rfl, hS.sel [0, 4] (by decide), (OwnD.nil (β := Int) m 33 3), (hk42.trans h37k)⟩
            · have hj7 := cond_t hc8 hj7
              refine q_cond_t hF rfl hc8 ?_
              refine q_region ?_
              refine q_x (v := (.pointer (some ⟨b9, 0, none⟩))) hF hS (ex_fieldAddr Try.underlying25 rfl sz23 rfl rfl) rfl rfl fun a hF => ?_
              refine q_x (v := s8.v) hF hS (ex_load1 2 0 Try.underlying23 rfl rfl rfl rfl) rfl rfl fun a hF => ?_
              refine q_do rfl fun _ hK => wp_buildSlice' (l := ([0, 1] : List Int)) (cells := [(.int .i64 0), (.int .i64 1)]) hF hS Try.underlying33 inf3 rfl rfl (by kernel_rfl) rfl rfl rfl ⟨rfl, rfl, rfl⟩ rfl rfl fun a w q89 s89 hF hS h89 _ => hK _ _ ?_
              refine q_do rfl fun _ hK => wp_build1D hF hS h89 Try.underlying23 inf33 rfl rfl rfl fun a w q90 s90 hF hS h90 _ => hK _ _ ?_
              have hS : St _ _ _ _ [q39, q90, [⟨b_p_c, [s1.v, (.int .i64 t_41.2.at_), (.int .u64 t_41.2.seed.v)], 69⟩], [⟨b9, [s8.v], 25⟩], [⟨b2, [nilS.v], 25⟩]] := hS.sel [2, 0, 1, 3, 4] (by decide)
              obtain ⟨l_91, hl_91, hj7⟩ := bindS hj7
              refine q_do rfl fun _ hK => wp_appendD hF hS h39 h90 Try.underlying23 inf33 rfl rfl rfl (by decide) hl_91 rfl fun a w q92 s92 hF hS h92 => hK _ _ ?_
              refine q_x (v := (.pointer (some ⟨b9, 0, none⟩))) hF hS (ex_fieldAddr Try.underlying25 rfl sz23 rfl rfl) rfl rfl fun a hF => ?_
              refine q_store (vs := [s92.v]) (cs' := [s92.v]) 2 0 hF hS sz23 rfl rfl rfl rfl rfl rfl rfl rfl fun a w hF hS => ?_
              refine q_end (n_jn ?_)
              obtain rfl := someI hj7
              exact ⟨q92, s92, _, _, rfl, hF.sub ⟨rfl, rfl, trivial⟩, hS, h42, (hk42.trans h37k), h92⟩
          · rintro a w ⟨q96, s96, p_c_93, t_95, rfl, hF, hS, h94, h94k, h96⟩
            refine n_jn ?_
            obtain rfl := someI hj5
            exact ⟨q96, s96, _, _, rfl, hF.sub ⟨rfl, rfl, trivial⟩, hS, h94, h94k, h96⟩
        · have hj5 := cond_t hc6 hj5
          refine q_cond_t hF rfl hc6 ?_
          obtain ⟨j18, hj18, hj5⟩ := bindS hj5
          refine q_join (fun a w => ∃ (q110 : Piece), ∃ p_c_107, ∃ t_109, j18 = (p_c_107, t_109) ∧ Fr a 87 [(2, (.pointer (some ⟨b2, 0, none⟩))), (3, (.pointer (some ⟨b9, 0, none⟩)))] ∧ St X w0 w m [q110, [⟨b_p_c, [s1.v, (.int .i64 p_c_107.at_), (.int .u64 p_c_107.seed.v)], 69⟩], [⟨b9, [s8.v], 25⟩], [⟨b2, [nilS.v], 25⟩]] ∧ Rd m s1 p_c_107.code ∧ p_c_107.code = p_c.code ∧ OwnD m 33 3 q110 s8 t_109.Rows) ?_ ?_
          · refine e_region [6, 8] mixed fun w' hw' => ?_
            have hS := hS.below hw'
            refine e_p (v := (.pointer (some ⟨b9, 0, none⟩))) 0 hF rfl (ex_fieldAddr Try.underlying25 rfl sz23 rfl rfl) rfl rfl (by kernel_rfl) (by kernel_rfl) (by kernel_rfl) fun a hF => ?_
            refine e_p (v := (.pointer (some ⟨b_p_c, 0, none⟩))) 4 hF rfl (ex_move rfl) rfl rfl (by kernel_rfl) (by kernel_rfl) (by kernel_rfl) fun a hF => ?_
            obtain ⟨e_98, he_98, hj18⟩ := bindS hj18
            obtain ⟨t_102, ht_102, hj18⟩ := bindS hj18
            obtain ⟨e_104, he_104, hj18⟩ := bindS hj18
            refine e_all [1, 5] (by kernel_rfl) rfl ⟨?_, ?_, trivial⟩
            · refine e_lx (v := s8.v) hF hS rfl (ex_load1 2 0 Try.underlying23 rfl rfl rfl rfl) rfl rfl fun a hF => ?_
              obtain ⟨s99, hV99⟩ := h39.view he_98
              refine e_p (v := (elP s8 ((0 : Int).toNat * 1))) 2 hF rfl (ex_indexAddr Try.underlying23 sz33 rfl rfl (h39.idx he_98)) rfl rfl (by kernel_rfl) (by kernel_rfl) (by kernel_rfl) fun a hF => ?_
              refine e_all [3, 5] (by kernel_rfl) rfl ⟨?_, ?_, trivial⟩
              · refine e_lx (v := s99.v) hF hS rfl (ex_loadE1 0 Try.underlying33 rfl rfl ((hV99.atH he_98).at 1 rfl) rfl rfl) rfl rfl fun a hF => ?_
                refine e_one 5 (by kernel_rfl) ?_
                refine e_op rfl rfl fun _ hK => wp_buildSlice' (l := ([0, 1, -1] : List Int)) (cells := [(.int .i64 0), (.int .i64 1), (.int .i64 (-1))]) hF hS Try.underlying33 inf3 rfl rfl (by kernel_rfl) rfl rfl rfl ⟨rfl, rfl, rfl, rfl⟩ rfl rfl fun a w q100 s100 hF hS h100 hb => hK _ _ hb ?_
                refine e_one 6 (by kernel_rfl) ?_
                have hS : St _ _ _ _ [[⟨b_p_c, [s1.v, (.int .i64 t_41.2.at_), (.int .u64 t_41.2.seed.v)], 69⟩], q100, q39, [⟨b9, [s8.v], 25⟩], [⟨b2, [nilS.v], 25⟩]] := hS.sel [1, 0, 2, 3, 4] (by decide)
                have hS101 : St _ _ _ _ ([[⟨b_p_c, [s1.v, (.int .i64 t_41.2.at_), (.int .u64 t_41.2.seed.v)], 69⟩]] ++ [q100, q39, [⟨b9, [s8.v], 25⟩], [⟨b2, [nilS.v], 25⟩]]) := hS
                obtain ⟨m101, hl101, hE101, hz101⟩ := hS101.lendX
                refine e_opl rfl rfl rfl fun _ hK => wp_callX (vs := [(.pointer (some ⟨b_p_c, 0, none⟩)), s100.v]) hF Try.func40 (by kernel_rfl) rfl rfl rfl (c_spec_l1Cur_among t_41.2 ([0, 1, -1] : List Int) t_102 ht_102 _ m101 b_p_c s1 (h42.mono hl101) s100 (h100.froz hl101 (hz101 0 _ rfl)) _ hE101) fun a w _ hR hF => hK _ _ ?_
                obtain ⟨rfl, hR101, hk103⟩ := hR
                have hS : St _ _ _ _ [[⟨b_p_c, [s1.v, (.int .i64 t_102.2.at_), (.int .u64 t_102.2.seed.v)], 69⟩], q100, q39, [⟨b9, [s8.v], 25⟩], [⟨b2, [nilS.v], 25⟩]] := hS101.leaveF hR101
                have h103 : Rd m s1 t_102.2.code := by rw [hk103]; exact h42
                obtain ⟨vs105, at105, d105⟩ := hV99.at he_98 he_104 1 rfl
                obtain rfl : vs105 = [(.int .i64 e_104)] := d105
                refine e_p (v := (elP s99 ((3 : Int).toNat * 1))) 7 hF rfl (ex_indexAddr Try.underlying33 sz3 rfl rfl (hV99.idx he_98 he_104)) rfl rfl (by kernel_rfl) (by kernel_rfl) (by kernel_rfl) fun a hF => ?_
                refine e_one 8 (by kernel_rfl) ?_
                have hS : St _ _ _ _ [q39, [⟨b_p_c, [s1.v, (.int .i64 t_102.2.at_), (.int .u64 t_102.2.seed.v)], 69⟩], q100, [⟨b9, [s8.v], 25⟩], [⟨b2, [nilS.v], 25⟩]] := hS.sel [2, 0, 1, 3, 4] (by decide)
                refine e_opl rfl rfl rfl fun _ hK => wp_storeV (e' := t_102.1) (us := [(.int .i64 t_102.1)]) (vs := [(.int .i64 e_104)]) 0 hF hS hV99 he_98 sz3 rfl rfl rfl rfl rfl rfl rfl he_104 at105 rfl rfl rfl fun w q106 hS h106 => hK _ _ ?_
                refine e_end (by kernel_rfl) (n_jn ?_) _
                obtain rfl := someI hj18
                exact ⟨q106, _, _, rfl, hF.sub ⟨rfl, rfl, trivial⟩, hS.mask [true, true, false, true, true], h103, (hk103.trans (hk42.trans h37k)), h106.own⟩
              · refine e_op rfl rfl fun _ hK => wp_buildSlice' (l := ([0, 1, -1] : List Int)) (cells := [(.int .i64 0), (.int .i64 1), (.int .i64 (-1))]) hF hS Try.underlying33 inf3 rfl rfl (by kernel_rfl) rfl rfl rfl ⟨rfl, rfl, rfl, rfl⟩ rfl rfl fun a w q100 s100 hF hS h100 hb => hK _ _ hb ?_
                refine e_all [3, 6] (by kernel_rfl) rfl ⟨?_, ?_, trivial⟩
                · refine e_lx (v := s99.v) hF hS rfl (ex_loadE1 0 Try.underlying33 rfl rfl ((hV99.atH he_98).at 2 rfl) rfl rfl) rfl rfl fun a hF => ?_
                  refine e_one 6 (by kernel_rfl) ?_
                  have hS : St _ _ _ _ [[⟨b_p_c, [s1.v, (.int .i64 t_41.2.at_), (.int .u64 t_41.2.seed.v)], 69⟩], q100, q39, [⟨b9, [s8.v], 25⟩], [⟨b2, [nilS.v], 25⟩]] := hS.sel [1, 0, 2, 3, 4] (by decide)
                  have hS101 : St _ _ _ _ ([[⟨b_p_c, [s1.v, (.int .i64 t_41.2.at_), (.int .u64 t_41.2.seed.v)], 69⟩]] ++ [q100, q39, [⟨b9, [s8.v], 25⟩], [⟨b2, [nilS.v], 25⟩]]) := hS
                  obtain ⟨m101, hl101, hE101, hz101⟩ := hS101.lendX
                  refine e_opl rfl rfl rfl fun _ hK => wp_callX (vs := [(.pointer (some ⟨b_p_c, 0, none⟩)), s100.v]) hF Try.func40 (by kernel_rfl) rfl rfl rfl (c_spec_l1Cur_among t_41.2 ([0, 1, -1] : List Int) t_102 ht_102 _ m101 b_p_c s1 (h42.mono hl101) s100 (h100.froz hl101 (hz101 0 _ rfl)) _ hE101) fun a w _ hR hF => hK _ _ ?_
                  obtain ⟨rfl, hR101, hk103⟩ := hR
                  have hS : St _ _ _ _ [[⟨b_p_c, [s1.v, (.int .i64 t_102.2.at_), (.int .u64 t_102.2.seed.v)], 69⟩], q100, q39, [⟨b9, [s8.v], 25⟩], [⟨b2, [nilS.v], 25⟩]] := hS101.leaveF hR101
                  have h103 : Rd m s1 t_102.2.code := by rw [hk103]; exact h42
                  obtain ⟨vs105, at105, d105⟩ := hV99.at he_98 he_104 1 rfl
                  obtain rfl : vs105 = [(.int .i64 e_104)] := d105
                  refine e_p (v := (elP s99 ((3 : Int).toNat * 1))) 7 hF rfl (ex_indexAddr Try.underlying33 sz3 rfl rfl (hV99.idx he_98 he_104)) rfl rfl (by kernel_rfl) (by kernel_rfl) (by kernel_rfl) fun a hF => ?_
                  refine e_one 8 (by kernel_rfl) ?_
                  have hS : St _ _ _ _ [q39, [⟨b_p_c, [s1.v, (.int .i64 t_102.2.at_), (.int .u64 t_102.2.seed.v)], 69⟩], q100, [⟨b9, [s8.v], 25⟩], [⟨b2, [nilS.v], 25⟩]] := hS.sel [2, 0, 1, 3, 4] (by decide)
                  refine e_opl rfl rfl rfl fun _ hK => wp_storeV (e' := t_102.1) (us := [(.int .i64 t_102.1)]) (vs := [(.int .i64 e_104)]) 0 hF hS hV99 he_98 sz3 rfl rfl rfl rfl rfl rfl rfl he_104 at105 rfl rfl rfl fun w q106 hS h106 => hK _ _ ?_
                  refine e_end (by kernel_rfl) (n_jn ?_) _
                  obtain rfl := someI hj18
                  exact ⟨q106, _, _, rfl, hF.sub ⟨rfl, rfl, trivial⟩, hS.mask [true, true, false, true, true], h103, (hk103.trans (hk42.trans h37k)), h106.own⟩
                · have hS : St _ _ _ _ [[⟨b_p_c, [s1.v, (.int .i64 t_41.2.at_), (.int .u64 t_41.2.seed.v)], 69⟩], q100, q39, [⟨b9, [s8.v], 25⟩], [⟨b2, [nilS.v], 25⟩]] := hS.sel [1, 0, 2, 3, 4] (by decide)
                  have hS101 : St _ _ _ _ ([[⟨b_p_c, [s1.v, (.int .i64 t_41.2.at_), (.int .u64 t_41.2.seed.v)], 69⟩]] ++ [q100, q39, [⟨b9, [s8.v], 25⟩], [⟨b2, [nilS.v], 25⟩]]) := hS
                  obtain ⟨m101, hl101, hE101, hz101⟩ := hS101.lendX
                  refine e_opl rfl rfl rfl fun _ hK => wp_callX (vs := [(.pointer (some ⟨b_p_c, 0, none⟩)), s100.v]) hF Try.func40 (by kernel_rfl) rfl rfl rfl (c_spec_l1Cur_among t_41.2 ([0, 1, -1] : List Int) t_102 ht_102 _ m101 b_p_c s1 (h42.mono hl101) s100 (h100.froz hl101 (hz101 0 _ rfl)) _ hE101) fun a w _ hR hF => hK _ _ ?_
                  obtain ⟨rfl, hR101, hk103⟩ := hR
                  have hS : St _ _ _ _ [[⟨b_p_c, [s1.v, (.int .i64 t_102.2.at_), (.int .u64 t_102.2.seed.v)], 69⟩], q100, q39, [⟨b9, [s8.v], 25⟩], [⟨b2, [nilS.v], 25⟩]] := hS101.leaveF hR101
                  have h103 : Rd m s1 t_102.2.code := by rw [hk103]; exact h42
                  refine e_x (v := s99.v) 3 hF hS rfl (ex_loadE1 0 Try.underlying33 rfl rfl ((hV99.atH he_98).at 2 rfl) rfl rfl) rfl rfl (by kernel_rfl) (by kernel_rfl) (by kernel_rfl) (by kernel_rfl) fun a hF => ?_
                  obtain ⟨vs105, at105, d105⟩ := hV99.at he_98 he_104 1 rfl
                  obtain rfl : vs105 = [(.int .i64 e_104)] := d105
                  refine e_p (v := (elP s99 ((3 : Int).toNat * 1))) 7 hF rfl (ex_indexAddr Try.underlying33 sz3 rfl rfl (hV99.idx he_98 he_104)) rfl rfl (by kernel_rfl) (by kernel_rfl) (by kernel_rfl) fun a hF => ?_
                  refine e_one 8 (by kernel_rfl) ?_
                  have hS : St _ _ _ _ [q39, [⟨b_p_c, [s1.v, (.int .i64 t_102.2.at_), (.int .u64 t_102.2.seed.v)], 69⟩], q100, [⟨b9, [s8.v], 25⟩], [⟨b2, [nilS.v], 25⟩]] := hS.sel [2, 0, 1, 3, 4] (by decide)
                  refine e_opl rfl rfl rfl fun _ hK => wp_storeV (e' := t_102.1) (us := [(.int .i64 t_102.1)]) (vs := [(.int .i64 e_104)]) 0 hF hS hV99 he_98 sz3 rfl rfl rfl rfl rfl rfl rfl he_104 at105 rfl rfl rfl fun w q106 hS h106 => hK _ _ ?_
                  refine e_end (by kernel_rfl) (n_jn ?_) _
                  obtain rfl := someI hj18
                  exact ⟨q106, _, _, rfl, hF.sub ⟨rfl, rfl, trivial⟩, hS.mask [true, true, false, true, true], h103, (hk103.trans (hk42.trans h37k)), h106.own⟩
            · refine e_op rfl rfl fun _ hK => wp_buildSlice' (l := ([0, 1, -1] : List Int)) (cells := [(.int .i64 0), (.int .i64 1), (.int .i64 (-1))]) hF hS Try.underlying33 inf3 rfl rfl (by kernel_rfl) rfl rfl rfl ⟨rfl, rfl, rfl, rfl⟩ rfl rfl fun a w q100 s100 hF hS h100 hb => hK _ _ hb ?_
              refine e_all [1, 6] (by kernel_rfl) rfl ⟨?_, ?_, trivial⟩
              · refine e_lx (v := s8.v) hF hS rfl (ex_load1 3 0 Try.underlying23 rfl rfl rfl rfl) rfl rfl fun a hF => ?_
                obtain ⟨s99, hV99⟩ := h39.view he_98
                refine e_p (v := (elP s8 ((0 : Int).toNat * 1))) 2 hF rfl (ex_indexAddr Try.underlying23 sz33 rfl rfl (h39.idx he_98)) rfl rfl (by kernel_rfl) (by kernel_rfl) (by kernel_rfl) fun a hF => ?_
                refine e_all [3, 6] (by kernel_rfl) rfl ⟨?_, ?_, trivial⟩
                · refine e_lx (v := s99.v) hF hS rfl (ex_loadE1 0 Try.underlying33 rfl rfl ((hV99.atH he_98).at 2 rfl) rfl rfl) rfl rfl fun a hF => ?_
                  refine e_one 6 (by kernel_rfl) ?_
                  have hS : St _ _ _ _ [[⟨b_p_c, [s1.v, (.int .i64 t_41.2.at_), (.int .u64 t_41.2.seed.v)], 69⟩], q100, q39, [⟨b9, [s8.v], 25⟩], [⟨b2, [nilS.v], 25⟩]] := hS.sel [1, 0, 2, 3, 4] (by decide)
                  have hS101 : St _ _ _ _ ([[⟨b_p_c, [s1.v, (.int .i64 t_41.2.at_), (.int .u64 t_41.2.seed.v)], 69⟩]] ++ [q100, q39, [⟨b9, [s8.v], 25⟩], [⟨b2, [nilS.v], 25⟩]]) := hS
                  obtain ⟨m101, hl101, hE101, hz101⟩ := hS101.lendX
                  refine e_opl rfl rfl rfl fun _ hK => wp_callX (vs := [(.pointer (some ⟨b_p_c, 0, none⟩)), s100.v]) hF Try.func40 (by kernel_rfl) rfl rfl rfl (c_spec_l1Cur_among t_41.2 ([0, 1, -1] : List Int) t_102 ht_102 _ m101 b_p_c s1 (h42.mono hl101) s100 (h100.froz hl101 (hz101 0 _ rfl)) _ hE101) fun a w _ hR hF => hK _ _ ?_
                  obtain ⟨rfl, hR101, hk103⟩ := hR
                  have hS : St _ _ _ _ [[⟨b_p_c, [s1.v, (.int .i64 t_102.2.at_), (.int .u64 t_102.2.seed.v)], 69⟩], q100, q39, [⟨b9, [s8.v], 25⟩], [⟨b2, [nilS.v], 25⟩]] := hS101.leaveF hR101
                  have h103 : Rd m s1 t_102.2.code := by rw [hk103]; exact h42
                  obtain ⟨vs105, at105, d105⟩ := hV99.at he_98 he_104 1 rfl
                  obtain rfl : vs105 = [(.int .i64 e_104)] := d105
                  refine e_p (v := (elP s99 ((3 : Int).toNat * 1))) 7 hF rfl (ex_indexAddr Try.underlying33 sz3 rfl rfl (hV99.idx he_98 he_104)) rfl rfl (by kernel_rfl) (by kernel_rfl) (by kernel_rfl) fun a hF => ?_
                  refine e_one 8 (by kernel_rfl) ?_
                  have hS : St _ _ _ _ [q39, [⟨b_p_c, [s1.v, (.int .i64 t_102.2.at_), (.int .u64 t_102.2.seed.v)], 69⟩], q100, [⟨b9, [s8.v], 25⟩], [⟨b2, [nilS.v], 25⟩]] := hS.sel [2, 0, 1, 3, 4] (by decide)
                  refine e_opl rfl rfl rfl fun _ hK => wp_storeV (e' := t_102.1) (us := [(.int .i64 t_102.1)]) (vs := [(.int .i64 e_104)]) 0 hF hS hV99 he_98 sz3 rfl rfl rfl rfl rfl rfl rfl he_104 at105 rfl rfl rfl fun w q106 hS h106 => hK _ _ ?_
                  refine e_end (by kernel_rfl) (n_jn ?_) _
                  obtain rfl := someI hj18
                  exact ⟨q106, _, _, rfl, hF.sub ⟨rfl, rfl, trivial⟩, hS.mask [true, true, false, true, true], h103, (hk103.trans (hk42.trans h37k)), h106.own⟩
                · have hS : St _ _ _ _ [[⟨b_p_c, [s1.v, (.int .i64 t_41.2.at_), (.int .u64 t_41.2.seed.v)], 69⟩], q100, q39, [⟨b9, [s8.v], 25⟩], [⟨b2, [nilS.v], 25⟩]] := hS.sel [1, 0, 2, 3, 4] (by decide)
                  have hS101 : St _ _ _ _ ([[⟨b_p_c, [s1.v, (.int .i64 t_41.2.at_), (.int .u64 t_41.2.seed.v)], 69⟩]] ++ [q100, q39, [⟨b9, [s8.v], 25⟩], [⟨b2, [nilS.v], 25⟩]]) := hS
                  obtain ⟨m101, hl101, hE101, hz101⟩ := hS101.lendX
                  refine e_opl rfl rfl rfl fun _ hK => wp_callX (vs := [(.pointer (some ⟨b_p_c, 0, none⟩)), s100.v]) hF Try.func40 (by kernel_rfl) rfl rfl rfl (c_spec_l1Cur_among t_41.2 ([0, 1, -1] : List Int) t_102 ht_102 _ m101 b_p_c s1 (h42.mono hl101) s100 (h100.froz hl101 (hz101 0 _ rfl)) _ hE101) fun a w _ hR hF => hK _ _ ?_
                  obtain ⟨rfl, hR101, hk103⟩ := hR
                  have hS : St _ _ _ _ [[⟨b_p_c, [s1.v, (.int .i64 t_102.2.at_), (.int .u64 t_102.2.seed.v)], 69⟩], q100, q39, [⟨b9, [s8.v], 25⟩], [⟨b2, [nilS.v], 25⟩]] := hS101.leaveF hR101
                  have h103 : Rd m s1 t_102.2.code := by rw [hk103]; exact h42
                  refine e_x (v := s99.v) 3 hF hS rfl (ex_loadE1 0 Try.underlying33 rfl rfl ((hV99.atH he_98).at 2 rfl) rfl rfl) rfl rfl (by kernel_rfl) (by kernel_rfl) (by kernel_rfl) (by kernel_rfl) fun a hF => ?_
                  obtain ⟨vs105, at105, d105⟩ := hV99.at he_98 he_104 1 rfl
                  obtain rfl : vs105 = [(.int .i64 e_104)] := d105
                  refine e_p (v := (elP s99 ((3 : Int).toNat * 1))) 7 hF rfl (ex_indexAddr Try.underlying33 sz3 rfl rfl (hV99.idx he_98 he_104)) rfl rfl (by kernel_rfl) (by kernel_rfl) (by kernel_rfl) fun a hF => ?_
                  refine e_one 8 (by kernel_rfl) ?_
                  have hS : St _ _ _ _ [q39, [⟨b_p_c, [s1.v, (.int .i64 t_102.2.at_), (.int .u64 t_102.2.seed.v)], 69⟩], q100, [⟨b9, [s8.v], 25⟩], [⟨b2, [nilS.v], 25⟩]] := hS.sel [2, 0, 1, 3, 4] (by decide)
                  refine e_opl rfl rfl rfl fun _ hK => wp_storeV (e' := t_102.1) (us := [(.int .i64 t_102.1)]) (vs := [(.int .i64 e_104)]) 0 hF hS hV99 he_98 sz3 rfl rfl rfl rfl rfl rfl rfl he_104 at105 rfl rfl rfl fun w q106 hS h106 => hK _ _ ?_
                  refine e_end (by kernel_rfl) (n_jn ?_) _
                  obtain rfl := someI hj18
                  exact ⟨q106, _, _, rfl, hF.sub ⟨rfl, rfl, trivial⟩, hS.mask [true, true, false, true, true], h103, (hk103.trans (hk42.trans h37k)), h106.own⟩
              · have hS : St _ _ _ _ [[⟨b_p_c, [s1.v, (.int .i64 t_41.2.at_), (.int .u64 t_41.2.seed.v)], 69⟩], q100, q39, [⟨b9, [s8.v], 25⟩], [⟨b2, [nilS.v], 25⟩]] := hS.sel [1, 0, 2, 3, 4] (by decide)
                have hS101 : St _ _ _ _ ([[⟨b_p_c, [s1.v, (.int .i64 t_41.2.at_), (.int .u64 t_41.2.seed.v)], 69⟩]] ++ [q100, q39, [⟨b9, [s8.v], 25⟩], [⟨b2, [nilS.v], 25⟩]]) := hS
                obtain ⟨m101, hl101, hE101, hz101⟩ := hS101.lendX
                refine e_opl rfl rfl rfl fun _ hK => wp_callX (vs := [(.pointer (some ⟨b_p_c, 0, none⟩)), s100.v]) hF Try.func40 (by kernel_rfl) rfl rfl rfl (c_spec_l1Cur_among t_41.2 ([0, 1, -1] : List Int) t_102 ht_102 _ m101 b_p_c s1 (h42.mono hl101) s100 (h100.froz hl101 (hz101 0 _ rfl)) _ hE101) fun a w _ hR hF => hK _ _ ?_
                obtain ⟨rfl, hR101, hk103⟩ := hR
                have hS : St _ _ _ _ [[⟨b_p_c, [s1.v, (.int .i64 t_102.2.at_), (.int .u64 t_102.2.seed.v)], 69⟩], q100, q39, [⟨b9, [s8.v], 25⟩], [⟨b2, [nilS.v], 25⟩]] := hS101.leaveF hR101
                have h103 : Rd m s1 t_102.2.code := by rw [hk103]; exact h42
                refine e_x (v := s8.v) 1 hF hS rfl (ex_load1 3 0 Try.underlying23 rfl rfl rfl rfl) rfl rfl (by kernel_rfl) (by kernel_rfl) (by kernel_rfl) (by kernel_rfl) fun a hF => ?_
                obtain ⟨s99, hV99⟩ := h39.view he_98
                refine e_p (v := (elP s8 ((0 : Int).toNat * 1))) 2 hF rfl (ex_indexAddr Try.underlying23 sz33 rfl rfl (h39.idx he_98)) rfl rfl (by kernel_rfl) (by kernel_rfl) (by kernel_rfl) fun a hF => ?_
                refine e_x (v := s99.v) 3 hF hS rfl (ex_loadE1 0 Try.underlying33 rfl rfl ((hV99.atH he_98).at 2 rfl) rfl rfl) rfl rfl (by kernel_rfl) (by kernel_rfl) (by kernel_rfl) (by kernel_rfl) fun a hF => ?_
                obtain ⟨vs105, at105, d105⟩ := hV99.at he_98 he_104 1 rfl
                obtain rfl : vs105 = [(.int .i64 e_104)] := d105
                refine e_p (v := (elP s99 ((3 : Int).toNat * 1))) 7 hF rfl (ex_indexAddr Try.underlying33 sz3 rfl rfl (hV99.idx he_98 he_104)) rfl rfl (by kernel_rfl) (by kernel_rfl) (by kernel_rfl) fun a hF => ?_
                refine e_one 8 (by kernel_rfl) ?_
                have hS : St _ _ _ _ [q39, [⟨b_p_c, [s1.v, (.int .i64 t_102.2.at_), (.int .u64 t_102.2.seed.v)], 69⟩], q100, [⟨b9, [s8.v], 25⟩], [⟨b2, [nilS.v], 25⟩]] := hS.sel [2, 0, 1, 3, 4] (by decide)
                refine e_opl rfl rfl rfl fun _ hK => wp_storeV (e' := t_102.1) (us := [(.int .i64 t_102.1)]) (vs := [(.int .i64 e_104)]) 0 hF hS hV99 he_98 sz3 rfl rfl rfl rfl rfl rfl rfl he_104 at105 rfl rfl rfl fun w q106 hS h106 => hK _ _ ?_
                refine e_end (by kernel_rfl) (n_jn ?_) _
                obtain rfl := someI hj18
                exact ⟨q106, _, _, rfl, hF.sub ⟨rfl, rfl, trivial⟩, hS.mask [true, true, false, true, true], h103, (hk103.trans (hk42.trans h37k)), h106.own⟩
          · rintro a w ⟨q110, p_c_107, t_109, rfl, hF, hS, h108, h108k, h110⟩
            refine n_jn ?_
            obtain rfl := someI hj5
            exact ⟨q110, s8, _, _, rfl, hF.sub ⟨rfl, rfl, trivial⟩, hS, h108, h108k, h110⟩
      · rintro a w ⟨q114, s114, p_c_111, t_113, rfl, hF, hS, h112, h112k, h114⟩
        refine n_ib (n_sq ?_)
        refine q_seq ?_
        refine q_region ?_
        refine q_x (v := (.agg #[s114.v])) hF hS (ex_loadA (vs := [s114.v]) 2 0 Try.underlying25 rfl sz25 rfl rfl rfl rfl) rfl rfl fun a hF => ?_
        refine q_store (vs := [s114.v]) (cs' := [s114.v]) 3 0 hF hS sz25 rfl rfl rfl rfl rfl rfl rfl rfl fun a w hF hS => ?_
        refine q_end (n_sq (q_ret ?_))
        obtain rfl := someI hr
        exact ret_ofX hF hS rfl (.cellA (us := [s114.v]) 3 0 Try.underlying25 rfl sz25 rfl rfl rfl rfl .nil) ⟨q114, s114, rfl, hS.sel [1, 0] (by decide), h114, h112k⟩

theorem c_spec_DrawNoiseOf (p_code : List (K .u8)) (r : impl_NoiseTable × Int × Int) (hr : spec_DrawNoiseOf p_code = some r) (w0 : World) (m : Mem) (hv : Vis m w0) (s1 : Sl) (h1 : Rd m s1 p_code) :
    Ret Try.prog 6 [s1.v] w0 (fun v w => ∃ (q0' : Piece) (s0' : Sl), v = (.tuple #[(.agg #[s0'.v]), (.int .i64 r.2.1), (.int .i64 r.2.2)]) ∧ St [] w0 w m [q0'] ∧ OwnD m 33 3 q0' s0' r.1.Rows) := by
  unfold spec_DrawNoiseOf at hr
  refine ret_start Try.func6 rfl 19 rfl rfl m hv fun a hF hS => ?_
  refine q_seq ?_
  refine q_region ?_
  refine q_alloc (cs := [nilS.v]) hF hS rfl rfl rfl fun a w b2 hF hS => ?_
  refine q_x (v := (.int .i64 0)) hF hS (ex_assign rfl) rfl rfl fun a hF => ?_
  refine q_x (v := (.int .i64 0)) hF hS (ex_assign rfl) rfl rfl fun a hF => ?_
  refine q_end (n_sq ?_)
  refine q_seq ?_
  refine q_region ?_
  refine q_x (v := s1.v) hF hS (ex_move rfl) rfl rfl fun a hF => ?_
  refine q_x (v := (.agg #[s1.v, (.int .i64 0), (.int .u64 0)])) hF hS (ex_build (cells := [s1.v, (.int .i64 0), (.int .u64 0)]) rfl (by kernel_rfl)) rfl rfl fun a hF => ?_
  refine q_box (cs := [s1.v, (.int .i64 0), (.int .u64 0)]) hF hS rfl rfl rfl fun a w b3 hF hS => ?_
  refine q_x (v := (.pointer (some ⟨b3, 0, none⟩))) hF hS (ex_assign rfl) rfl rfl fun a hF => ?_
  refine q_end (n_sq ?_)
  refine q_seq ?_
  refine q_region ?_
  refine q_x (v := (.pointer (some ⟨b3, 0, none⟩))) hF hS (ex_move rfl) rfl rfl fun a hF => ?_
  have hS4 : St _ _ _ _ ([[⟨b3, [s1.v, (.int .i64 0), (.int .u64 0)], 69⟩]] ++ [[⟨b2, [nilS.v], 25⟩]]) := hS
  have hE4 := hS4.enter
  obtain ⟨t_5, ht_5, hr⟩ := bindS hr
  refine q_do rfl fun _ hK => wp_callX (vs := [(.pointer (some ⟨b3, 0, none⟩))]) hF Try.func39 (by kernel_rfl) rfl rfl rfl (c_spec_l1Cur_noiseTable (spec_l1Cur.mk p_code 0 (⟨0⟩ : K .u64)) t_5 ht_5 _ m b3 s1 h1 _ hE4) fun a w _ hR hF => hK _ _ ?_
  obtain ⟨q6, s6, rfl, hR4, h6, hk7⟩ := hR
  have hS : St _ _ _ _ [[⟨b3, [s1.v, (.int .i64 t_5.2.at_), (.int .u64 t_5.2.seed.v)], 69⟩], q6, [⟨b2, [nilS.v], 25⟩]] := hS4.leaveF hR4
  have h7 : Rd m s1 t_5.2.code := by rw [hk7]; exact h1
  refine q_x (v := (.pointer (some ⟨b3, 0, none⟩))) hF hS (ex_move rfl) rfl rfl fun a hF => ?_
  refine q_do rfl fun _ hK => wp_buildSlice' (l := ([0, 1, 2, 3, 50, -1] : List Int)) (cells := [(.int .i64 0), (.int .i64 1), (.int .i64 2), (.int .i64 3), (.int .i64 50), (.int .i64 (-1))]) hF hS Try.underlying33 inf3 rfl rfl (by kernel_rfl) rfl rfl rfl ⟨rfl, rfl, rfl, rfl, rfl, rfl, rfl⟩ rfl rfl fun a w q8 s8 hF hS h8 _ => hK _ _ ?_
  have hS : St _ _ _ _ [[⟨b3, [s1.v, (.int .i64 t_5.2.at_), (.int .u64 t_5.2.seed.v)], 69⟩], q8, q6, [⟨b2, [nilS.v], 25⟩]] := hS.sel [1, 0, 2, 3] (by decide)
  have hS9 : St _ _ _ _ ([[⟨b3, [s1.v, (.int .i64 t_5.2.at_), (.int .u64 t_5.2.seed.v)], 69⟩]] ++ [q8, q6, [⟨b2, [nilS.v], 25⟩]]) := hS
  obtain ⟨m9, hl9, hE9, hz9⟩ := hS9.lendX
  obtain ⟨t_10, ht_10, hr⟩ := bindS hr
  refine q_do rfl fun _ hK => wp_callX (vs := [(.pointer (some ⟨b3, 0, none⟩)), s8.v]) hF Try.func40 (by kernel_rfl) rfl rfl rfl (c_spec_l1Cur_among t_5.2 ([0, 1, 2, 3, 50, -1] : List Int) t_10 ht_10 _ m9 b3 s1 (h7.mono hl9) s8 (h8.froz hl9 (hz9 0 _ rfl)) _ hE9) fun a w _ hR hF => hK _ _ ?_
  obtain ⟨rfl, hR9, hk11⟩ := hR
  have hS : St _ _ _ _ [[⟨b3, [s1.v, (.int .i64 t_10.2.at_), (.int .u64 t_10.2.seed.v)], 69⟩], q8, q6, [⟨b2, [nilS.v], 25⟩]] := hS9.leaveF hR9
  have h11 : Rd m s1 t_10.2.code := by rw [hk11]; exact h7
  refine q_x (v := (.pointer (some ⟨b3, 0, none⟩))) hF hS (ex_move rfl) rfl rfl fun a hF => ?_
  refine q_x (v := (.pointer (some ⟨b3, 0, none⟩))) hF hS (ex_move rfl) rfl rfl fun a hF => ?_
  have hS12 : St _ _ _ _ ([[⟨b3, [s1.v, (.int .i64 t_10.2.at_), (.int .u64 t_10.2.seed.v)], 69⟩]] ++ [q8, q6, [⟨b2, [nilS.v], 25⟩]]) := hS
  have hE12 := hS12.enter
  obtain ⟨t_13, ht_13, hr⟩ := bindS hr
  refine q_do rfl fun _ hK => wp_callX (vs := [(.pointer (some ⟨b3, 0, none⟩)), (.int .i64 65536)]) hF Try.func41 (by kernel_rfl) rfl rfl rfl (c_spec_l1Cur_pick t_10.2 65536 t_13 ht_13 _ m b3 s1 h11 _ hE12) fun a w _ hR hF => hK _ _ ?_
  obtain ⟨rfl, hR12, hk14⟩ := hR
  have hS : St _ _ _ _ [[⟨b3, [s1.v, (.int .i64 t_13.2.at_), (.int .u64 t_13.2.seed.v)], 69⟩], q8, q6, [⟨b2, [nilS.v], 25⟩]] := hS12.leaveF hR12
  have h14 : Rd m s1 t_13.2.code := by rw [hk14]; exact h11
  refine q_do rfl fun _ hK => wp_buildSlice' (l := ([0, 4095, 4096, 65535, 65536, -1, t_13.1] : List Int)) (cells := [(.int .i64 0), (.int .i64 4095), (.int .i64 4096), (.int .i64 65535), (.int .i64 65536), (.int .i64 (-1)), (.int .i64 t_13.1)]) hF hS Try.underlying33 inf3 rfl rfl (by kernel_rfl) rfl rfl rfl ⟨rfl, rfl, rfl, rfl, rfl, rfl, rfl, rfl⟩ rfl rfl fun a w q15 s15 hF hS h15 _ => hK _ _ ?_
  have hS : St _ _ _ _ [[⟨b3, [s1.v, (.int .i64 t_13.2.at_), (.int .u64 t_13.2.seed.v)], 69⟩], q15, q8, q6, [⟨b2, [nilS.v], 25⟩]] := hS.sel [1, 0, 2, 3, 4] (by decide)
  have hS16 : St _ _ _ _ ([[⟨b3, [s1.v, (.int .i64 t_13.2.at_), (.int .u64 t_13.2.seed.v)], 69⟩]] ++ [q15, q8, q6, [⟨b2, [nilS.v], 25⟩]]) := hS
  obtain ⟨m16, hl16, hE16, hz16⟩ := hS16.lendX
  obtain ⟨t_17, ht_17, hr⟩ := bindS hr
  refine q_do rfl fun _ hK => wp_callX (vs := [(.pointer (some ⟨b3, 0, none⟩)), s15.v]) hF Try.func40 (by kernel_rfl) rfl rfl rfl (c_spec_l1Cur_among t_13.2 ([0, 4095, 4096, 65535, 65536, -1, t_13.1] : List Int) t_17 ht_17 _ m16 b3 s1 (h14.mono hl16) s15 (h15.froz hl16 (hz16 0 _ rfl)) _ hE16) fun a w _ hR hF => hK _ _ ?_
  obtain ⟨rfl, hR16, hk18⟩ := hR
  have hS : St _ _ _ _ [[⟨b3, [s1.v, (.int .i64 t_17.2.at_), (.int .u64 t_17.2.seed.v)], 69⟩], q15, q8, q6, [⟨b2, [nilS.v], 25⟩]] := hS16.leaveF hR16
  have h18 : Rd m s1 t_17.2.code := by rw [hk18]; exact h14
  refine q_store (vs := [s6.v]) (cs' := [s6.v]) 4 0 hF hS sz25 rfl rfl rfl rfl rfl rfl rfl rfl fun a w hF hS => ?_
  refine q_x (v := (.int .i64 t_10.1)) hF hS (ex_assign rfl) rfl rfl fun a hF => ?_
  refine q_x (v := (.int .i64 t_17.1)) hF hS (ex_assign rfl) rfl rfl fun a hF => ?_
  refine q_end (n_sq (q_ret ?_))
  obtain rfl := someI hr
  exact ret_of hF hS rfl (.cellA (us := [s6.v]) 4 0 Try.underlying25 rfl sz25 rfl rfl rfl rfl (.tmp rfl (.tmp rfl .nil))) ⟨q6, s6, rfl, hS.sel [3] (by decide), h6⟩

theorem c_impl_IsNoiseTable (p_t : impl_NoiseTable) (r : Bool) (hr : impl_IsNoiseTable p_t = some r) (w0 : World) (m : Mem) (hv : Vis m w0) (s1 : Sl) (h1 : Rd m s1 p_t.Rows) :
    Ret Try.prog 18 [(.agg #[s1.v])] w0 (fun v _ => v = (.bool r)) := by
  unfold impl_IsNoiseTable at hr
  refine ret_start Try.func18 rfl 56 rfl rfl m hv fun a hF hS => ?_
  refine q_seq ?_
  refine q_region ?_
  refine q_box (cs := [s1.v]) hF hS rfl rfl rfl fun a w b2 hF hS => ?_
  refine q_x (v := (.bool false)) hF hS (ex_assign rfl) rfl rfl fun a hF => ?_
  refine q_end (n_sq ?_)
  refine q_seq ?_
  refine q_seq ?_
  obtain ⟨t_3, hj1, hr⟩ := bindS hr
  refine q_join (fun a w => Fr a 56 [(1, (.pointer (some ⟨b2, 0, none⟩))), (16, (.bool t_3))] ∧ St [] w0 w m [[⟨b2, [s1.v], 25⟩]]) ?_ ?_
  · refine q_region ?_
    refine q_x (v := (.pointer (some ⟨b2, 0, none⟩))) hF hS (ex_fieldAddr Try.underlying25 rfl sz23 rfl rfl) rfl rfl fun a hF => ?_
    refine q_x (v := s1.v) hF hS (ex_load1 0 0 Try.underlying23 rfl rfl rfl rfl) rfl rfl fun a hF => ?_
    refine q_x (v := (.int .i64 (goLen p_t.Rows))) hF hS (ex_len Try.underlying23 rfl h1.len) rfl rfl fun a hF => ?_
    refine q_x (v := (.bool (decide ((goLen p_t.Rows) < 1)))) hF hS (ex_ibin rfl rfl rfl) rfl rfl fun a hF => ?_
    refine q_x (v := (.bool (decide ((goLen p_t.Rows) < 1)))) hF hS (ex_move rfl) rfl rfl fun a hF => ?_
    rcases bcase (decide ((goLen p_t.Rows) < 1)) with hc2 | hc2
    · have hj1 := cond_f hc2 hj1
      refine q_xg (v := (.pointer (some ⟨b2, 0, none⟩))) hF hS (ex_fieldAddr Try.underlying25 rfl sz23 rfl rfl) (wanted_t hF rfl rfl rfl hc2) rfl fun a hF => ?_
      refine q_xg (v := s1.v) hF hS (ex_load1 0 0 Try.underlying23 rfl rfl rfl rfl) (wanted_t hF rfl rfl rfl hc2) rfl fun a hF => ?_
      refine q_xg (v := (.int .i64 (goLen p_t.Rows))) hF hS (ex_len Try.underlying23 rfl h1.len) (wanted_t hF rfl rfl rfl hc2) rfl fun a hF => ?_
      refine q_xg (v := (.bool (decide (20 < (goLen p_t.Rows))))) hF hS (ex_ibin rfl rfl rfl) (wanted_t hF rfl rfl rfl hc2) rfl fun a hF => ?_
      refine q_x (v := (.bool (decide (20 < (goLen p_t.Rows))))) hF hS (ex_pick_f rfl rfl hc2) rfl rfl fun a hF => ?_
      refine q_end (n_jn ?_)
      obtain rfl := someI hj1
      exact ⟨hF.sub ⟨rfl, rfl, trivial⟩, hS⟩
    · have hj1 := cond_t hc2 hj1
      refine q_skip hF (wanted_f hF rfl rfl rfl hc2 rfl) rfl fun a hF => ?_
      refine q_skip hF (wanted_f hF rfl rfl rfl hc2 rfl) rfl fun a hF => ?_
      refine q_skip hF (wanted_f hF rfl rfl rfl hc2 rfl) rfl fun a hF => ?_
      refine q_skip hF (wanted_f hF rfl rfl rfl hc2 rfl) rfl fun a hF => ?_
      refine q_x (v := (.bool true)) hF hS (ex_pick_t rfl rfl hc2) rfl rfl fun a hF => ?_
      refine q_end (n_jn ?_)
      obtain rfl := someI hj1
      exact ⟨hF.sub ⟨rfl, rfl, trivial⟩, hS⟩
  · rintro a w ⟨hF, hS⟩
    refine n_sq ?_
    rcases bcase (t_3) with hc3 | hc3
    · have hr := cond_f hc3 hr
      refine q_cond_f hF rfl hc3 ?_
      refine q_skipc (n_sq ?_)
      refine q_seq ?_
      refine q_seq ?_
      refine q_region ?_
      refine q_x (v := (.pointer (some ⟨b2, 0, none⟩))) hF hS (ex_fieldAddr Try.underlying25 rfl sz23 rfl rfl) rfl rfl fun a hF => ?_
      refine q_x (v := s1.v) hF hS (ex_load1 0 0 Try.underlying23 rfl rfl rfl rfl) rfl rfl fun a hF => ?_
      refine q_x (v := (.int .i64 (goLen p_t.Rows))) hF hS (ex_len Try.underlying23 rfl h1.len) rfl rfl fun a hF => ?_
      refine q_x (v := (.int .i64 0)) hF hS (ex_move rfl) rfl rfl fun a hF => ?_
      refine q_end (n_sq ?_)
      refine q_block ?_
      obtain ⟨o4, hl4, hr⟩ := bindS hr
      refine q_loop (fun (t_4 : Int) a w => Fr a 56 [(18, s1.v), (19, (.int .i64 (goLen p_t.Rows))), (20, (.int .i64 t_4))] ∧ St [] w0 w m []) (fun (o : (Unit) ⊕ (Bool)) e a w => o = .inl () ∧ e = .exit 0 ∧ Fr a 56 [] ∧ St [] w0 w m []) hl4 ⟨hF.sub ⟨rfl, rfl, rfl, trivial⟩, hS.mask [false]⟩ ?_ ?_
      · clear hF hS
        rintro t_4 a w st ⟨hF, hS⟩ hb4
        unfold impl_IsNoiseTable_l1 at hb4
        refine q_seq ?_
        refine q_region ?_
        refine q_x (v := (.bool (decide (t_4 < (goLen p_t.Rows))))) hF hS (ex_ibin rfl rfl rfl) rfl rfl fun a hF => ?_
        refine q_end (n_sq ?_)
        refine q_seq ?_
        rcases bcase (decide (t_4 < (goLen p_t.Rows))) with hc5 | hc5
        · have hb4 := cond_f hc5 hb4
          refine q_cond_f hF rfl hc5 ?_
          refine q_exit (x_sq ?_)
          obtain rfl := someI hb4
          exact ⟨nofun, .inl ⟨rfl, rfl, hF.sub trivial, hS⟩⟩
        · have hb4 := cond_t hc5 hb4
          refine q_cond_t hF rfl hc5 ?_
          refine q_skipc (n_sq ?_)
          refine q_seq ?_
          refine q_block ?_
          refine q_seq ?_
          refine q_region ?_
          refine q_x (v := (.int .i64 t_4)) hF hS (ex_move rfl) rfl rfl fun a hF => ?_
          obtain ⟨e_5, he_5, hb4⟩ := bindS hb4
          obtain ⟨vs6, at6, d6⟩ := h1.at he_5 1 rfl
          obtain ⟨s7, rfl, h7⟩ : ∃ s7 : Sl, vs6 = [s7.v] ∧ Rd m s7 e_5 := d6
          refine q_x (v := (elP s1 (t_4.toNat * 1))) hF hS (ex_indexAddr Try.underlying23 sz33 rfl rfl (h1.idx he_5)) rfl rfl fun a hF => ?_
          refine q_x (v := s7.v) hF hS (ex_loadE1 0 Try.underlying33 rfl rfl ((at6).at) rfl rfl) rfl rfl fun a hF => ?_
          refine q_x (v := (.int .i64 t_4)) hF hS (ex_assign rfl) rfl rfl fun a hF => ?_
          refine q_x (v := s7.v) hF hS (ex_assign rfl) rfl rfl fun a hF => ?_
          refine q_end (n_sq ?_)
          refine q_seq ?_
          refine q_seq ?_
          refine q_region ?_
          refine q_x (v := s7.v) hF hS (ex_move rfl) rfl rfl fun a hF => ?_
          refine q_x (v := (.int .i64 (goLen e_5))) hF hS (ex_len Try.underlying33 rfl h7.len) rfl rfl fun a hF => ?_
          refine q_x (v := (.bool ((goLen e_5) != 16))) hF hS (ex_ibin rfl rfl rfl) rfl rfl fun a hF => ?_
          refine q_end (n_sq ?_)
          rcases bcase ((goLen e_5) != 16) with hc6 | hc6
          · have hb4 := cond_f hc6 hb4
            refine q_cond_f hF rfl hc6 ?_
            refine q_skipc (n_sq ?_)
            refine q_seq ?_
            refine q_region ?_
            refine q_x (v := s7.v) hF hS (ex_move rfl) rfl rfl fun a hF => ?_
            refine q_x (v := (.int .i64 (goLen e_5))) hF hS (ex_len Try.underlying33 rfl h7.len) rfl rfl fun a hF => ?_
            refine q_x (v := (.int .i64 0)) hF hS (ex_move rfl) rfl rfl fun a hF => ?_
            refine q_end (n_sq ?_)
            refine q_block ?_
            obtain ⟨o7, hl7, hb4⟩ := bindS hb4
            refine q_loop (fun (t_8 : Int) a w => Fr a 56 [(3, (.int .i64 t_4)), (18, s1.v), (19, (.int .i64 (goLen p_t.Rows))), (20, (.int .i64 t_4)), (28, s7.v), (29, (.int .i64 (goLen e_5))), (30, (.int .i64 t_8))] ∧ St [] w0 w m []) (fun (o : (Unit) ⊕ (Stp (Int) ((Unit) ⊕ (Bool)))) e a w => o = .inl () ∧ e = .exit 2 ∧ Fr a 56 [(18, s1.v), (19, (.int .i64 (goLen p_t.Rows))), (20, (.int .i64 t_4))] ∧ St [] w0 w m []) hl7 ⟨hF.sub ⟨rfl, rfl, rfl, rfl, rfl, rfl, rfl, trivial⟩, hS⟩ ?_ ?_
            · clear hF hS
              rintro t_8 a w st ⟨hF, hS⟩ hb7
              unfold impl_IsNoiseTable_l2 at hb7
              refine q_seq ?_
              refine q_region ?_
              refine q_x (v := (.bool (decide (t_8 < (goLen e_5))))) hF hS (ex_ibin rfl rfl rfl) rfl rfl fun a hF => ?_
              refine q_end (n_sq ?_)
              refine q_seq ?_
              rcases bcase (decide (t_8 < (goLen e_5))) with hc8 | hc8
              · have hb7 := cond_f hc8 hb7
                refine q_cond_f hF rfl hc8 ?_
                refine q_exit (x_sq ?_)
                obtain rfl := someI hb7
                exact ⟨nofun, .inl ⟨rfl, rfl, hF.sub ⟨rfl, rfl, rfl, trivial⟩, hS⟩⟩
              · have hb7 := cond_t hc8 hb7
                refine q_cond_t hF rfl hc8 ?_
                refine q_skipc (n_sq ?_)
                refine q_seq ?_
                refine q_block ?_
                refine q_seq ?_
                refine q_region ?_
                obtain ⟨e_9, he_9, hb7⟩ := bindS hb7
                obtain ⟨vs10, at10, d10⟩ := h7.at he_9 1 rfl
                obtain rfl : vs10 = [(.int .i64 e_9)] := d10
                refine q_x (v := (elP s7 (t_8.toNat * 1))) hF hS (ex_indexAddr Try.underlying33 sz3 rfl rfl (h7.idx he_9)) rfl rfl fun a hF => ?_
                refine q_x (v := (.int .i64 e_9)) hF hS (ex_loadE1 0 Try.underlying3 rfl rfl ((at10).at) rfl rfl) rfl rfl fun a hF => ?_
                refine q_x (v := (.int .i64 e_9)) hF hS (ex_assign rfl) rfl rfl fun a hF => ?_
                refine q_end (n_sq ?_)
                refine q_seq ?_
                obtain ⟨t_11, hj9, hb7⟩ := bindS hb7
                refine q_join (fun a w => Fr a 56 [(3, (.int .i64 t_4)), (18, s1.v), (19, (.int .i64 (goLen p_t.Rows))), (20, (.int .i64 t_4)), (28, s7.v), (29, (.int .i64 (goLen e_5))), (30, (.int .i64 t_8)), (53, (.bool t_11))] ∧ St [] w0 w m []) ?_ ?_
                · refine q_region ?_
                  refine q_x (v := (.int .i64 e_9)) hF hS (ex_move rfl) rfl rfl fun a hF => ?_
                  refine q_x (v := (.bool (decide (e_9 < (-5))))) hF hS (ex_ibin rfl rfl rfl) rfl rfl fun a hF => ?_
                  refine q_x (v := (.bool (decide (e_9 < (-5))))) hF hS (ex_move rfl) rfl rfl fun a hF => ?_
                  rcases bcase (decide (e_9 < (-5))) with hc10 | hc10
                  · have hj9 := cond_f hc10 hj9
                    refine q_xg (v := (.int .i64 e_9)) hF hS (ex_move rfl) (wanted_t hF rfl rfl rfl hc10) rfl fun a hF => ?_
                    refine q_xg (v := (.bool (decide (5 < e_9)))) hF hS (ex_ibin rfl rfl rfl) (wanted_t hF rfl rfl rfl hc10) rfl fun a hF => ?_
                    refine q_x (v := (.bool (decide (5 < e_9)))) hF hS (ex_pick_f rfl rfl hc10) rfl rfl fun a hF => ?_
                    refine q_x (v := (.bool (decide (5 < e_9)))) hF hS (ex_move rfl) rfl rfl fun a hF => ?_
                    rcases bcase (decide (5 < e_9)) with hc11 | hc11
                    · have hj9 := cond_f hc11 hj9
                      refine q_xg (v := (.int .i64 e_9)) hF hS (ex_move rfl) (wanted_t hF rfl rfl rfl hc11) rfl fun a hF => ?_
                      refine q_xg (v := (.int .i64 t_4)) hF hS (ex_move rfl) (wanted_t hF rfl rfl rfl hc11) rfl fun a hF => ?_
                      refine q_xg (v := (.int .i64 (w64 (-t_4)))) hF hS (ex_neg rfl) (wanted_t hF rfl rfl rfl hc11) rfl fun a hF => ?_
                      refine q_xg (v := (.bool (decide (e_9 < (w64 (-t_4)))))) hF hS (ex_ibin rfl rfl rfl) (wanted_t hF rfl rfl rfl hc11) rfl fun a hF => ?_
                      refine q_x (v := (.bool (decide (e_9 < (w64 (-t_4)))))) hF hS (ex_pick_f rfl rfl hc11) rfl rfl fun a hF => ?_
                      refine q_x (v := (.bool (decide (e_9 < (w64 (-t_4)))))) hF hS (ex_move rfl) rfl rfl fun a hF => ?_
                      rcases bcase (decide (e_9 < (w64 (-t_4)))) with hc12 | hc12
                      · have hj9 := cond_f hc12 hj9
                        refine q_xg (v := (.int .i64 t_4)) hF hS (ex_move rfl) (wanted_t hF rfl rfl rfl hc12) rfl fun a hF => ?_
                        refine q_xg (v := (.bool (t_4 == 0))) hF hS (ex_ibin rfl rfl rfl) (wanted_t hF rfl rfl rfl hc12) rfl fun a hF => ?_
                        refine q_xg (v := (.bool (t_4 == 0))) hF hS (ex_move rfl) (wanted_t hF rfl rfl rfl hc12) rfl fun a hF => ?_
                        rcases bcase (t_4 == 0) with hc13 | hc13
                        · have hj9 := cond_f hc13 hj9
                          refine q_skip hF (wanted_f hF rfl rfl rfl hc13 rfl) rfl fun a hF => ?_
                          refine q_skip hF (wanted_f hF rfl rfl rfl hc13 rfl) rfl fun a hF => ?_
                          refine q_xg (v := (.bool false)) hF hS (ex_pick_f rfl rfl hc13) (wanted_t hF rfl rfl rfl hc12) rfl fun a hF => ?_
                          refine q_x (v := (.bool false)) hF hS (ex_pick_f rfl rfl hc12) rfl rfl fun a hF => ?_
                          refine q_end (n_jn ?_)
                          obtain rfl := someI hj9
                          exact ⟨hF.sub ⟨rfl, rfl, rfl, rfl, rfl, rfl, rfl, rfl, trivial⟩, hS⟩
                        · have hj9 := cond_t hc13 hj9
                          refine q_xg (v := (.int .i64 e_9)) hF hS (ex_move rfl) (wanted_t hF rfl rfl rfl hc13) rfl fun a hF => ?_
                          refine q_xg (v := (.bool (e_9 != 0))) hF hS (ex_ibin rfl rfl rfl) (wanted_t hF rfl rfl rfl hc13) rfl fun a hF => ?_
                          refine q_xg (v := (.bool (e_9 != 0))) hF hS (ex_pick_t rfl rfl hc13) (wanted_t hF rfl rfl rfl hc12) rfl fun a hF => ?_
                          refine q_x (v := (.bool (e_9 != 0))) hF hS (ex_pick_f rfl rfl hc12) rfl rfl fun a hF => ?_
                          refine q_end (n_jn ?_)
                          obtain rfl := someI hj9
                          exact ⟨hF.sub ⟨rfl, rfl, rfl, rfl, rfl, rfl, rfl, rfl, trivial⟩, hS⟩
                      · have hj9 := cond_t hc12 hj9
                        refine q_skip hF (wanted_f hF rfl rfl rfl hc12 rfl) rfl fun a hF => ?_
                        refine q_skip hF (wanted_f hF rfl rfl rfl hc12 rfl) rfl fun a hF => ?_
                        refine q_skip hF (wanted_f hF rfl rfl rfl hc12 rfl) rfl fun a hF => ?_
                        refine q_skip hF (wanted_u hF rfl rfl rfl) rfl fun a hF => ?_
                        refine q_skip hF (wanted_u hF rfl rfl rfl) rfl fun a hF => ?_
                        refine q_skip hF (wanted_f hF rfl rfl rfl hc12 rfl) rfl fun a hF => ?_
                        refine q_x (v := (.bool true)) hF hS (ex_pick_t rfl rfl hc12) rfl rfl fun a hF => ?_
                        refine q_end (n_jn ?_)
                        obtain rfl := someI hj9
                        exact ⟨hF.sub ⟨rfl, rfl, rfl, rfl, rfl, rfl, rfl, rfl, trivial⟩, hS⟩
                    · have hj9 := cond_t hc11 hj9
                      refine q_skip hF (wanted_f hF rfl rfl rfl hc11 rfl) rfl fun a hF => ?_
                      refine q_skip hF (wanted_f hF rfl rfl rfl hc11 rfl) rfl fun a hF => ?_
                      refine q_skip hF (wanted_f hF rfl rfl rfl hc11 rfl) rfl fun a hF => ?_
                      refine q_skip hF (wanted_f hF rfl rfl rfl hc11 rfl) rfl fun a hF => ?_
                      refine q_x (v := (.bool true)) hF hS (ex_pick_t rfl rfl hc11) rfl rfl fun a hF => ?_
                      refine q_x (v := (.bool true)) hF hS (ex_move rfl) rfl rfl fun a hF => ?_
                      refine q_skip hF (wanted_f hF rfl rfl rfl rfl rfl) rfl fun a hF => ?_
                      refine q_skip hF (wanted_f hF rfl rfl rfl rfl rfl) rfl fun a hF => ?_
                      refine q_skip hF (wanted_f hF rfl rfl rfl rfl rfl) rfl fun a hF => ?_
                      refine q_skip hF (wanted_u hF rfl rfl rfl) rfl fun a hF => ?_
                      refine q_skip hF (wanted_u hF rfl rfl rfl) rfl fun a hF => ?_
                      refine q_skip hF (wanted_f hF rfl rfl rfl rfl rfl) rfl fun a hF => ?_
                      refine q_x (v := (.bool true)) hF hS (ex_pick_t rfl rfl rfl) rfl rfl fun a hF => ?_
                      refine q_end (n_jn ?_)
                      obtain rfl := someI hj9
                      exact ⟨hF.sub ⟨rfl, rfl, rfl, rfl, rfl, rfl, rfl, rfl, trivial⟩, hS⟩
                  · have hj9 := cond_t hc10 hj9
                    refine q_skip hF (wanted_f hF rfl rfl rfl hc10 rfl) rfl fun a hF => ?_
                    refine q_skip hF (wanted_f hF rfl rfl rfl hc10 rfl) rfl fun a hF => ?_
                    refine q_x (v := (.bool true)) hF hS (ex_pick_t rfl rfl hc10) rfl rfl fun a hF => ?_
                    refine q_x (v := (.bool true)) hF hS (ex_move rfl) rfl rfl fun a hF => ?_
                    refine q_skip hF (wanted_f hF rfl rfl rfl rfl rfl) rfl fun a hF => ?_
                    refine q_skip hF (wanted_f hF rfl rfl rfl rfl rfl) rfl fun a hF => ?_
                    refine q_skip hF (wanted_f hF rfl rfl rfl rfl rfl) rfl fun a hF => ?_
                    refine q_skip hF (wanted_f hF rfl rfl rfl rfl rfl) rfl fun a hF => ?_
                    refine q_x (v := (.bool true)) hF hS (ex_pick_t rfl rfl rfl) rfl rfl fun a hF => ?_
                    refine q_x (v := (.bool true)) hF hS (ex_move rfl) rfl rfl fun a hF => ?_
                    refine q_skip hF (wanted_f hF rfl rfl rfl rfl rfl) rfl fun a hF => ?_
                    refine q_skip hF (wanted_f hF rfl rfl rfl rfl rfl) rfl fun a hF => ?_
                    refine q_skip hF (wanted_f hF rfl rfl rfl rfl rfl) rfl fun a hF => ?_
                    refine q_skip hF (wanted_u hF rfl rfl rfl) rfl fun a hF => ?_
                    refine q_skip hF (wanted_u hF rfl rfl rfl) rfl fun a hF => ?_
                    refine q_skip hF (wanted_f hF rfl rfl rfl rfl rfl) rfl fun a hF => ?_
                    refine q_x (v := (.bool true)) hF hS (ex_pick_t rfl rfl rfl) rfl rfl fun a hF => ?_
                    refine q_end (n_jn ?_)
                    obtain rfl := someI hj9
                    exact ⟨hF.sub ⟨rfl, rfl, rfl, rfl, rfl, rfl, rfl, rfl, trivial⟩, hS⟩
                · rintro a w ⟨hF, hS⟩
                  refine n_sq ?_
                  rcases bcase (t_11) with hc14 | hc14
                  · have hb7 := cond_f hc14 hb7
                    refine q_cond_f hF rfl hc14 ?_
                    refine q_skipc (n_ib (n_sq ?_))
                    refine q_region ?_
                    refine q_x (v := (.int .i64 (w64 (t_8 + 1)))) hF hS (ex_ibin rfl rfl rfl) rfl rfl fun a hF => ?_
                    refine q_x (v := (.int .i64 (w64 (t_8 + 1)))) hF hS (ex_move rfl) rfl rfl fun a hF => ?_
                    refine q_end ?_
                    obtain rfl := someI hb7
                    exact ⟨rfl, hF.sub ⟨rfl, rfl, rfl, rfl, rfl, rfl, rfl, trivial⟩, hS⟩
                  · have hb7 := cond_t hc14 hb7
                    refine q_cond_t hF rfl hc14 ?_
                    refine q_seq ?_
                    refine q_region ?_
                    refine q_x (v := (.bool false)) hF hS (ex_assign rfl) rfl rfl fun a hF => ?_
                    refine q_end (n_sq (q_ret (r_ib (r_sq ?_))))
                    obtain rfl := someI hb7
                    refine ⟨nofun, .inr fun ho => ?_⟩
                    subst ho
                    refine r_ib (r_ib (r_sq ?_))
                    obtain rfl := someI hb4
                    refine ⟨nofun, .inr fun ho => ?_⟩
                    subst ho
                    refine r_ib (r_sq ?_)
                    obtain rfl := someI hr
                    exact ret_of hF hS rfl (.tmp rfl .nil) rfl
            · rintro e a w ⟨rfl, rfl, hF, hS⟩
              refine x_ib (n_ib (n_sq ?_))
              refine q_region ?_
              refine q_x (v := (.int .i64 (w64 (t_4 + 1)))) hF hS (ex_ibin rfl rfl rfl) rfl rfl fun a hF => ?_
              refine q_x (v := (.int .i64 (w64 (t_4 + 1)))) hF hS (ex_move rfl) rfl rfl fun a hF => ?_
              refine q_end ?_
              obtain rfl := someI hb4
              exact ⟨rfl, hF.sub ⟨rfl, rfl, rfl, trivial⟩, hS⟩
          · have hb4 := cond_t hc6 hb4
            refine q_cond_t hF rfl hc6 ?_
            refine q_seq ?_
            refine q_region ?_
            refine q_x (v := (.bool false)) hF hS (ex_assign rfl) rfl rfl fun a hF => ?_
            refine q_end (n_sq (q_ret (r_sq (r_ib (r_sq ?_)))))
            obtain rfl := someI hb4
            refine ⟨nofun, .inr fun ho => ?_⟩
            subst ho
            refine r_ib (r_sq ?_)
            obtain rfl := someI hr
            exact ret_of hF hS rfl (.tmp rfl .nil) rfl
      · rintro e a w ⟨rfl, rfl, hF, hS⟩
        refine x_ib (n_sq ?_)
        refine q_seq ?_
        refine q_region ?_
        refine q_x (v := (.bool true)) hF hS (ex_assign rfl) rfl rfl fun a hF => ?_
        refine q_end (n_sq (q_ret ?_))
        obtain rfl := someI hr
        exact ret_of hF hS rfl (.tmp rfl .nil) rfl
    · have hr := cond_t hc3 hr
      refine q_cond_t hF rfl hc3 ?_
      refine q_seq ?_
      refine q_region ?_
      refine q_x (v := (.bool false)) hF hS (ex_assign rfl) rfl rfl fun a hF => ?_
      refine q_end (n_sq (q_ret (r_sq ?_)))
      obtain rfl := someI hr
      exact ret_of hF hS rfl (.tmp rfl .nil) rfl

theorem c_impl_rowFor (p_t : impl_NoiseTable) (p_count : Int) (r : (List Int)) (hr : impl_rowFor p_t p_count = some r) (w0 : World) (m : Mem) (hv : Vis m w0) (s1 : Sl) (h1 : Rd m s1 p_t.Rows) :
    Ret Try.prog 51 [(.agg #[s1.v]), (.int .i64 p_count)] w0 (fun v w => ∃ (m' : Mem) (s0' : Sl), v = s0'.v ∧ MLe [] w0.heap.size m m' ∧ St [] w0 w m' [] ∧ Rd m' s0' r) := by
  unfold impl_rowFor at hr
  refine ret_start Try.func51 rfl 15 rfl rfl m hv fun a hF hS => ?_
  refine q_seq ?_
  refine q_region ?_
  refine q_box (cs := [s1.v]) hF hS rfl rfl rfl fun a w b2 hF hS => ?_
  refine q_x (v := nilS.v) hF hS (ex_assign rfl) rfl rfl fun a hF => ?_
  refine q_end (n_sq ?_)
  refine q_seq ?_
  refine q_region ?_
  refine q_x (v := (.pointer (some ⟨b2, 0, none⟩))) hF hS (ex_fieldAddr Try.underlying25 rfl sz23 rfl rfl) rfl rfl fun a hF => ?_
  refine q_x (v := s1.v) hF hS (ex_load1 0 0 Try.underlying23 rfl rfl rfl rfl) rfl rfl fun a hF => ?_
  refine q_x (v := (.int .i64 p_count)) hF hS (ex_move rfl) rfl rfl fun a hF => ?_
  refine q_x (v := (.pointer (some ⟨b2, 0, none⟩))) hF hS (ex_fieldAddr Try.underlying25 rfl sz23 rfl rfl) rfl rfl fun a hF => ?_
  refine q_x (v := s1.v) hF hS (ex_load1 0 0 Try.underlying23 rfl rfl rfl rfl) rfl rfl fun a hF => ?_
  refine q_x (v := (.int .i64 (goLen p_t.Rows))) hF hS (ex_len Try.underlying23 rfl h1.len) rfl rfl fun a hF => ?_
  refine q_x (v := (.int .i64 (w64 ((goLen p_t.Rows) - 1)))) hF hS (ex_ibin rfl rfl rfl) rfl rfl fun a hF => ?_
  refine q_x (v := (.int .i64 (min p_count (w64 ((goLen p_t.Rows) - 1))))) hF hS (ex_min rfl rfl) rfl rfl fun a hF => ?_
  obtain ⟨e_3, he_3, hr⟩ := bindS hr
  obtain ⟨vs4, at4, d4⟩ := h1.at he_3 1 rfl
  obtain ⟨s5, rfl, h5⟩ : ∃ s5 : Sl, vs4 = [s5.v] ∧ Rd m s5 e_3 := d4
  refine q_x (v := (elP s1 ((min p_count (w64 ((goLen p_t.Rows) - 1))).toNat * 1))) hF hS (ex_indexAddr Try.underlying23 sz33 rfl rfl (h1.idx he_3)) rfl rfl fun a hF => ?_
  refine q_x (v := s5.v) hF hS (ex_loadE1 0 Try.underlying33 rfl rfl ((at4).at) rfl rfl) rfl rfl fun a hF => ?_
  refine q_x (v := s5.v) hF hS (ex_assign rfl) rfl rfl fun a hF => ?_
  refine q_end (n_sq (q_ret ?_))
  obtain rfl := someI hr
  exact ret_of hF hS rfl (.tmp rfl .nil) ⟨m, s5, rfl, (MLe.refl _ _), hS.sel [] (by decide), h5⟩

theorem c_impl_noiseOf (p_t : impl_NoiseTable) (p_count : Int) (p_key : Int) (r : Int) (hr : impl_noiseOf p_t p_count p_key = some r) (w0 : World) (m : Mem) (hv : Vis m w0) (s1 : Sl) (h1 : Rd m s1 p_t.Rows) :
    Ret Try.prog 42 [(.agg #[s1.v]), (.int .i64 p_count), (.int .i64 p_key)] w0 (fun v _ => v = (.int .i64 r)) := by
  unfold impl_noiseOf at hr
  refine ret_start Try.func42 rfl 14 rfl rfl m hv fun a hF hS => ?_
  refine q_seq ?_
  refine q_region ?_
  refine q_box (cs := [s1.v]) hF hS rfl rfl rfl fun a w b2 hF hS => ?_
  refine q_x (v := (.int .i64 0)) hF hS (ex_assign rfl) rfl rfl fun a hF => ?_
  refine q_end (n_sq ?_)
  refine q_seq ?_
  refine q_region ?_
  refine q_x (v := (.agg #[s1.v])) hF hS (ex_loadA (vs := [s1.v]) 0 0 Try.underlying25 rfl sz25 rfl rfl rfl rfl) rfl rfl fun a hF => ?_
  refine q_x (v := (.int .i64 p_count)) hF hS (ex_move rfl) rfl rfl fun a hF => ?_
  obtain ⟨t_3, ht_3, hr⟩ := bindS hr
  refine q_call (vs := [(.agg #[s1.v]), (.int .i64 p_count)]) hF hS Try.func51 (by kernel_rfl) rfl rfl rfl (c_impl_rowFor p_t p_count t_3 ht_3 _ m hS.vis s1 h1) ?_
  have hT := hS
  rintro a w _ ⟨m4, s5, rfl, hm4, hR4, h5⟩ hF hS2
  have hS : St _ _ _ _ [[⟨b2, [s1.v], 25⟩]] := hS.join hR4 hm4
  have hm4 := MLe.weakX (O0 := []) hT hm4
  refine q_x (v := (.int .i64 p_key)) hF hS (ex_move rfl) rfl rfl fun a hF => ?_
  obtain ⟨t_6, ht_6, hr⟩ := bindS hr
  refine q_x (v := (.int .i64 t_6)) hF hS (ex_quo rfl rfl ht_6) rfl rfl fun a hF => ?_
  obtain ⟨e_7, he_7, hr⟩ := bindS hr
  obtain ⟨vs8, at8, d8⟩ := h5.at he_7 1 rfl
  obtain rfl : vs8 = [(.int .i64 e_7)] := d8
  refine q_x (v := (elP s5 (t_6.toNat * 1))) hF hS (ex_indexAddr Try.underlying33 sz3 rfl rfl (h5.idx he_7)) rfl rfl fun a hF => ?_
  refine q_x (v := (.int .i64 e_7)) hF hS (ex_loadE1 0 Try.underlying3 rfl rfl ((at8).at) rfl rfl) rfl rfl fun a hF => ?_
  refine q_x (v := (.int .i64 e_7)) hF hS (ex_assign rfl) rfl rfl fun a hF => ?_
  refine q_end (n_sq (q_ret ?_))
  obtain rfl := someI hr
  exact ret_of hF hS rfl (.tmp rfl .nil) rfl

theorem c_impl_NoiseOf (p_t : impl_NoiseTable) (p_count : Int) (p_key : Int) (r : Int × Bool) (hr : impl_NoiseOf p_t p_count p_key = some r) (w0 : World) (m : Mem) (hv : Vis m w0) (s1 : Sl) (h1 : Rd m s1 p_t.Rows) :
    Ret Try.prog 7 [(.agg #[s1.v]), (.int .i64 p_count), (.int .i64 p_key)] w0 (fun v _ => v = (.tuple #[(.int .i64 r.1), (.bool r.2)])) := by
  unfold impl_NoiseOf at hr
  refine ret_start Try.func7 rfl 27 rfl rfl m hv fun a hF hS => ?_
  refine q_seq ?_
  refine q_region ?_
  refine q_box (cs := [s1.v]) hF hS rfl rfl rfl fun a w b2 hF hS => ?_
  refine q_x (v := (.int .i64 0)) hF hS (ex_assign rfl) rfl rfl fun a hF => ?_
  refine q_x (v := (.bool false)) hF hS (ex_assign rfl) rfl rfl fun a hF => ?_
  refine q_end (n_sq ?_)
  refine q_seq ?_
  refine q_seq ?_
  obtain ⟨t_4, hj1, hr⟩ := bindS hr
  refine q_join (fun a w => Fr a 27 [(1, (.int .i64 p_count)), (2, (.int .i64 p_key)), (3, (.pointer (some ⟨b2, 0, none⟩))), (22, (.bool t_4))] ∧ St [] w0 w m [[⟨b2, [s1.v], 25⟩]]) ?_ ?_
  · refine q_region ?_
    refine q_x (v := (.agg #[s1.v])) hF hS (ex_loadA (vs := [s1.v]) 0 0 Try.underlying25 rfl sz25 rfl rfl rfl rfl) rfl rfl fun a hF => ?_
    obtain ⟨t_3, ht_3, hj1⟩ := bindS hj1
    refine q_call (vs := [(.agg #[s1.v])]) hF hS Try.func18 (by kernel_rfl) rfl rfl rfl (c_impl_IsNoiseTable p_t t_3 ht_3 _ m hS.vis s1 h1) ?_
    rintro a w _ rfl hF hS
    refine q_x (v := (.bool (!t_3))) hF hS (ex_not rfl) rfl rfl fun a hF => ?_
    refine q_x (v := (.bool (!t_3))) hF hS (ex_move rfl) rfl rfl fun a hF => ?_
    rcases bcase (!t_3) with hc2 | hc2
    · have hj1 := cond_f hc2 hj1
      refine q_xg (v := (.int .i64 p_count)) hF hS (ex_move rfl) (wanted_t hF rfl rfl rfl hc2) rfl fun a hF => ?_
      refine q_xg (v := (.bool (decide (p_count < 0)))) hF hS (ex_ibin rfl rfl rfl) (wanted_t hF rfl rfl rfl hc2) rfl fun a hF => ?_
      refine q_x (v := (.bool (decide (p_count < 0)))) hF hS (ex_pick_f rfl rfl hc2) rfl rfl fun a hF => ?_
      refine q_x (v := (.bool (decide (p_count < 0)))) hF hS (ex_move rfl) rfl rfl fun a hF => ?_
      rcases bcase (decide (p_count < 0)) with hc3 | hc3
      · have hj1 := cond_f hc3 hj1
        refine q_xg (v := (.int .i64 p_key)) hF hS (ex_move rfl) (wanted_t hF rfl rfl rfl hc3) rfl fun a hF => ?_
        refine q_xg (v := (.bool (decide (p_key < 0)))) hF hS (ex_ibin rfl rfl rfl) (wanted_t hF rfl rfl rfl hc3) rfl fun a hF => ?_
        refine q_x (v := (.bool (decide (p_key < 0)))) hF hS (ex_pick_f rfl rfl hc3) rfl rfl fun a hF => ?_
        refine q_x (v := (.bool (decide (p_key < 0)))) hF hS (ex_move rfl) rfl rfl fun a hF => ?_
        rcases bcase (decide (p_key < 0)) with hc4 | hc4
        · have hj1 := cond_f hc4 hj1
          refine q_xg (v := (.int .i64 p_key)) hF hS (ex_move rfl) (wanted_t hF rfl rfl rfl hc4) rfl fun a hF => ?_
          refine q_xg (v := (.bool (decide (65536 ≤ p_key)))) hF hS (ex_ibin rfl rfl rfl) (wanted_t hF rfl rfl rfl hc4) rfl fun a hF => ?_
          refine q_x (v := (.bool (decide (65536 ≤ p_key)))) hF hS (ex_pick_f rfl rfl hc4) rfl rfl fun a hF => ?_
          refine q_end (n_jn ?_)
          obtain rfl := someI hj1
          exact ⟨hF.sub ⟨rfl, rfl, rfl, rfl, trivial⟩, hS⟩
        · have hj1 := cond_t hc4 hj1
          refine q_skip hF (wanted_f hF rfl rfl rfl hc4 rfl) rfl fun a hF => ?_
          refine q_skip hF (wanted_f hF rfl rfl rfl hc4 rfl) rfl fun a hF => ?_
          refine q_x (v := (.bool true)) hF hS (ex_pick_t rfl rfl hc4) rfl rfl fun a hF => ?_
          refine q_end (n_jn ?_)
          obtain rfl := someI hj1
          exact ⟨hF.sub ⟨rfl, rfl, rfl, rfl, trivial⟩, hS⟩
      · have hj1 := cond_t hc3 hj1
        refine q_skip hF (wanted_f hF rfl rfl rfl hc3 rfl) rfl fun a hF => ?_
        refine q_skip hF (wanted_f hF rfl rfl rfl hc3 rfl) rfl fun a hF => ?_
        refine q_x (v := (.bool true)) hF hS (ex_pick_t rfl rfl hc3) rfl rfl fun a hF => ?_
        refine q_x (v := (.bool true)) hF hS (ex_move rfl) rfl rfl fun a hF => ?_
        refine q_skip hF (wanted_f hF rfl rfl rfl rfl rfl) rfl fun a hF => ?_
        refine q_skip hF (wanted_f hF rfl rfl rfl rfl rfl) rfl fun a hF => ?_
        refine q_x (v := (.bool true)) hF hS (ex_pick_t rfl rfl rfl) rfl rfl fun a hF => ?_
        refine q_end (n_jn ?_)
        obtain rfl := someI hj1
        exact ⟨hF.sub ⟨rfl, rfl, rfl, rfl, trivial⟩, hS⟩
    · have hj1 := cond_t hc2 hj1
      refine q_skip hF (wanted_f hF rfl rfl rfl hc2 rfl) rfl fun a hF => ?_
      refine q_skip hF (wanted_f hF rfl rfl rfl hc2 rfl) rfl fun a hF => ?_
      refine q_x (v := (.bool true)) hF hS (ex_pick_t rfl rfl hc2) rfl rfl fun a hF => ?_
      refine q_x (v := (.bool true)) hF hS (ex_move rfl) rfl rfl fun a hF => ?_
      refine q_skip hF (wanted_f hF rfl rfl rfl rfl rfl) rfl fun a hF => ?_
      refine q_skip hF (wanted_f hF rfl rfl rfl rfl rfl) rfl fun a hF => ?_
      refine q_x (v := (.bool true)) hF hS (ex_pick_t rfl rfl rfl) rfl rfl fun a hF => ?_
      refine q_x (v := (.bool true)) hF hS (ex_move rfl) rfl rfl fun a hF => ?_
      refine q_skip hF (wanted_f hF rfl rfl rfl rfl rfl) rfl fun a hF => ?_
      refine q_skip hF (wanted_f hF rfl rfl rfl rfl rfl) rfl fun a hF => ?_
      refine q_x (v := (.bool true)) hF hS (ex_pick_t rfl rfl rfl) rfl rfl fun a hF => ?_
      refine q_end (n_jn ?_)
      obtain rfl := someI hj1
      exact ⟨hF.sub ⟨rfl, rfl, rfl, rfl, trivial⟩, hS⟩
  · rintro a w ⟨hF, hS⟩
    refine n_sq ?_
    rcases bcase (t_4) with hc5 | hc5
    · have hr := cond_f hc5 hr
      refine q_cond_f hF rfl hc5 ?_
      refine q_skipc (n_sq ?_)
      refine q_seq ?_
      refine q_region ?_
      refine q_x (v := (.agg #[s1.v])) hF hS (ex_loadA (vs := [s1.v]) 0 0 Try.underlying25 rfl sz25 rfl rfl rfl rfl) rfl rfl fun a hF => ?_
      refine q_x (v := (.int .i64 p_count)) hF hS (ex_move rfl) rfl rfl fun a hF => ?_
      refine q_x (v := (.int .i64 p_key)) hF hS (ex_move rfl) rfl rfl fun a hF => ?_
      obtain ⟨t_5, ht_5, hr⟩ := bindS hr
      refine q_call (vs := [(.agg #[s1.v]), (.int .i64 p_count), (.int .i64 p_key)]) hF hS Try.func42 (by kernel_rfl) rfl rfl rfl (c_impl_noiseOf p_t p_count p_key t_5 ht_5 _ m hS.vis s1 h1) ?_
      rintro a w _ rfl hF hS
      refine q_x (v := (.int .i64 t_5)) hF hS (ex_assign rfl) rfl rfl fun a hF => ?_
      refine q_x (v := (.bool true)) hF hS (ex_assign rfl) rfl rfl fun a hF => ?_
      refine q_end (n_sq (q_ret ?_))
      obtain rfl := someI hr
      exact ret_of hF hS rfl (.tmp rfl (.tmp rfl .nil)) rfl
    · have hr := cond_t hc5 hr
      refine q_cond_t hF rfl hc5 ?_
      refine q_seq ?_
      refine q_region ?_
      refine q_x (v := (.int .i64 0)) hF hS (ex_assign rfl) rfl rfl fun a hF => ?_
      refine q_x (v := (.bool false)) hF hS (ex_assign rfl) rfl rfl fun a hF => ?_
      refine q_end (n_sq (q_ret (r_sq ?_)))
      obtain rfl := someI hr
      exact ret_of hF hS rfl (.tmp rfl (.tmp rfl .nil)) rfl

theorem c_spec_l1In (p_n : Int) (p_lo : Int) (p_hi : Int) (r : Bool) (hr : spec_l1In p_n p_lo p_hi = some r) (w0 : World) (m : Mem) (hv : Vis m w0) :
    Ret Try.prog 44 [(.int .i64 p_n), (.int .i64 p_lo), (.int .i64 p_hi)] w0 (fun v _ => v = (.bool r)) := by
  unfold spec_l1In at hr
  refine ret_start Try.func44 rfl 15 rfl rfl m hv fun a hF hS => ?_
  refine q_seq ?_
  refine q_region ?_
  refine q_x (v := (.bool false)) hF hS (ex_assign rfl) rfl rfl fun a hF => ?_
  refine q_end (n_sq ?_)
  refine q_seq ?_
  obtain ⟨t_1, hj1, hr⟩ := bindS hr
  refine q_join (fun a w => Fr a 15 [(6, (.bool t_1))] ∧ St [] w0 w m []) ?_ ?_
  · refine q_region ?_
    refine q_x (v := (.int .i64 p_n)) hF hS (ex_move rfl) rfl rfl fun a hF => ?_
    refine q_x (v := (.int .i64 p_lo)) hF hS (ex_move rfl) rfl rfl fun a hF => ?_
    refine q_x (v := (.bool (decide (p_lo ≤ p_n)))) hF hS (ex_ibin rfl rfl rfl) rfl rfl fun a hF => ?_
    refine q_x (v := (.bool (decide (p_lo ≤ p_n)))) hF hS (ex_move rfl) rfl rfl fun a hF => ?_
    rcases bcase (decide (p_lo ≤ p_n)) with hc2 | hc2
    · have hj1 := cond_f hc2 hj1
      refine q_skip hF (wanted_f hF rfl rfl rfl hc2 rfl) rfl fun a hF => ?_
      refine q_skip hF (wanted_f hF rfl rfl rfl hc2 rfl) rfl fun a hF => ?_
      refine q_skip hF (wanted_f hF rfl rfl rfl hc2 rfl) rfl fun a hF => ?_
      refine q_x (v := (.bool false)) hF hS (ex_pick_f rfl rfl hc2) rfl rfl fun a hF => ?_
      refine q_x (v := (.bool false)) hF hS (ex_assign rfl) rfl rfl fun a hF => ?_
      refine q_end (n_jn ?_)
      obtain rfl := someI hj1
      exact ⟨hF.sub ⟨rfl, trivial⟩, hS⟩
    · have hj1 := cond_t hc2 hj1
      refine q_xg (v := (.int .i64 p_n)) hF hS (ex_move rfl) (wanted_t hF rfl rfl rfl hc2) rfl fun a hF => ?_
      refine q_xg (v := (.int .i64 p_hi)) hF hS (ex_move rfl) (wanted_t hF rfl rfl rfl hc2) rfl fun a hF => ?_
      refine q_xg (v := (.bool (decide (p_n ≤ p_hi)))) hF hS (ex_ibin rfl rfl rfl) (wanted_t hF rfl rfl rfl hc2) rfl fun a hF => ?_
      refine q_x (v := (.bool (decide (p_n ≤ p_hi)))) hF hS (ex_pick_t rfl rfl hc2) rfl rfl fun a hF => ?_
      refine q_x (v := (.bool (decide (p_n ≤ p_hi)))) hF hS (ex_assign rfl) rfl rfl fun a hF => ?_
      refine q_end (n_jn ?_)
      obtain rfl := someI hj1
      exact ⟨hF.sub ⟨rfl, trivial⟩, hS⟩
  · rintro a w ⟨hF, hS⟩
    refine n_sq (q_ret ?_)
    obtain rfl := someI hr
    exact ret_of hF hS rfl (.tmp rfl .nil) rfl

theorem c_spec_l1Most (p_a : Int) (p_b : Int) (r : Int) (hr : spec_l1Most p_a p_b = some r) (w0 : World) (m : Mem) (hv : Vis m w0) :
    Ret Try.prog 77 [(.int .i64 p_a), (.int .i64 p_b)] w0 (fun v _ => v = (.int .i64 r)) := by
  unfold spec_l1Most at hr
  refine ret_start Try.func77 rfl 10 rfl rfl m hv fun a hF hS => ?_
  refine q_seq ?_
  refine q_region ?_
  refine q_x (v := (.int .i64 0)) hF hS (ex_assign rfl) rfl rfl fun a hF => ?_
  refine q_end (n_sq ?_)
  refine q_seq ?_
  refine q_seq ?_
  refine q_region ?_
  refine q_x (v := (.int .i64 p_a)) hF hS (ex_move rfl) rfl rfl fun a hF => ?_
  refine q_x (v := (.int .i64 p_b)) hF hS (ex_move rfl) rfl rfl fun a hF => ?_
  refine q_x (v := (.bool (decide (p_b < p_a)))) hF hS (ex_ibin rfl rfl rfl) rfl rfl fun a hF => ?_
  refine q_end (n_sq ?_)
  rcases bcase (decide (p_b < p_a)) with hc1 | hc1
  · have hr := cond_f hc1 hr
    refine q_cond_f hF rfl hc1 ?_
    refine q_skipc (n_sq ?_)
    refine q_seq ?_
    refine q_region ?_
    refine q_x (v := (.int .i64 p_b)) hF hS (ex_move rfl) rfl rfl fun a hF => ?_
    refine q_x (v := (.int .i64 p_b)) hF hS (ex_assign rfl) rfl rfl fun a hF => ?_
    refine q_end (n_sq (q_ret ?_))
    obtain rfl := someI hr
    exact ret_of hF hS rfl (.tmp rfl .nil) rfl
  · have hr := cond_t hc1 hr
    refine q_cond_t hF rfl hc1 ?_
    refine q_seq ?_
    refine q_region ?_
    refine q_x (v := (.int .i64 p_a)) hF hS (ex_move rfl) rfl rfl fun a hF => ?_
    refine q_x (v := (.int .i64 p_a)) hF hS (ex_assign rfl) rfl rfl fun a hF => ?_
    refine q_end (n_sq (q_ret (r_sq ?_)))
    obtain rfl := someI hr
    exact ret_of hF hS rfl (.tmp rfl .nil) rfl

theorem c_spec_l1All (p_l : List Int) (p_lo : Int) (p_hi : Int) (r : Bool) (hr : spec_l1All p_l p_lo p_hi = some r) (w0 : World) (m : Mem) (hv : Vis m w0) (s1 : Sl) (h1 : Rd m s1 p_l) :
    Ret Try.prog 61 [s1.v, (.int .i64 p_lo), (.int .i64 p_hi)] w0 (fun v _ => v = (.bool r)) := by
  unfold spec_l1All at hr
  refine ret_start Try.func61 rfl 21 rfl rfl m hv fun a hF hS => ?_
  refine q_seq ?_
  refine q_region ?_
  refine q_x (v := (.bool false)) hF hS (ex_assign rfl) rfl rfl fun a hF => ?_
  refine q_end (n_sq ?_)
  refine q_seq ?_
  refine q_seq ?_
  refine q_region ?_
  refine q_x (v := s1.v) hF hS (ex_move rfl) rfl rfl fun a hF => ?_
  refine q_x (v := (.int .i64 (goLen p_l))) hF hS (ex_len Try.underlying33 rfl h1.len) rfl rfl fun a hF => ?_
  refine q_x (v := (.int .i64 0)) hF hS (ex_move rfl) rfl rfl fun a hF => ?_
  refine q_end (n_sq ?_)
  refine q_block ?_
  obtain ⟨o1, hl1, hr⟩ := bindS hr
  refine q_loop (fun (t_2 : Int) a w => Fr a 21 [(1, (.int .i64 p_lo)), (2, (.int .i64 p_hi)), (9, s1.v), (10, (.int .i64 (goLen p_l))), (11, (.int .i64 t_2))] ∧ St [] w0 w m []) (fun (o : (Unit) ⊕ (Bool)) e a w => o = .inl () ∧ e = .exit 0 ∧ Fr a 21 [] ∧ St [] w0 w m []) hl1 ⟨hF.sub ⟨rfl, rfl, rfl, rfl, rfl, trivial⟩, hS⟩ ?_ ?_
  · clear hF hS
    rintro t_2 a w st ⟨hF, hS⟩ hb1
    unfold spec_l1All_l1 at hb1
    refine q_seq ?_
    refine q_region ?_
    refine q_x (v := (.bool (decide (t_2 < (goLen p_l))))) hF hS (ex_ibin rfl rfl rfl) rfl rfl fun a hF => ?_
    refine q_end (n_sq ?_)
    refine q_seq ?_
    rcases bcase (decide (t_2 < (goLen p_l))) with hc2 | hc2
    · have hb1 := cond_f hc2 hb1
      refine q_cond_f hF rfl hc2 ?_
      refine q_exit (x_sq ?_)
      obtain rfl := someI hb1
      exact ⟨nofun, .inl ⟨rfl, rfl, hF.sub trivial, hS⟩⟩
    · have hb1 := cond_t hc2 hb1
      refine q_cond_t hF rfl hc2 ?_
      refine q_skipc (n_sq ?_)
      refine q_seq ?_
      refine q_block ?_
      refine q_seq ?_
      refine q_region ?_
      obtain ⟨e_3, he_3, hb1⟩ := bindS hb1
      obtain ⟨vs4, at4, d4⟩ := h1.at he_3 1 rfl
      obtain rfl : vs4 = [(.int .i64 e_3)] := d4
      refine q_x (v := (elP s1 (t_2.toNat * 1))) hF hS (ex_indexAddr Try.underlying33 sz3 rfl rfl (h1.idx he_3)) rfl rfl fun a hF => ?_
      refine q_x (v := (.int .i64 e_3)) hF hS (ex_loadE1 0 Try.underlying3 rfl rfl ((at4).at) rfl rfl) rfl rfl fun a hF => ?_
      refine q_x (v := (.int .i64 e_3)) hF hS (ex_assign rfl) rfl rfl fun a hF => ?_
      refine q_end (n_sq ?_)
      refine q_seq ?_
      refine q_region ?_
      refine q_x (v := (.int .i64 e_3)) hF hS (ex_move rfl) rfl rfl fun a hF => ?_
      refine q_x (v := (.int .i64 p_lo)) hF hS (ex_move rfl) rfl rfl fun a hF => ?_
      refine q_x (v := (.int .i64 p_hi)) hF hS (ex_move rfl) rfl rfl fun a hF => ?_
      obtain ⟨t_5, ht_5, hb1⟩ := bindS hb1
      refine q_call (vs := [(.int .i64 e_3), (.int .i64 p_lo), (.int .i64 p_hi)]) hF hS Try.func44 (by kernel_rfl) rfl rfl rfl (c_spec_l1In e_3 p_lo p_hi t_5 ht_5 _ m hS.vis) ?_
      rintro a w _ rfl hF hS
      refine q_x (v := (.bool (!t_5))) hF hS (ex_not rfl) rfl rfl fun a hF => ?_
      refine q_end (n_sq ?_)
      rcases bcase (!t_5) with hc3 | hc3
      · have hb1 := cond_f hc3 hb1
        refine q_cond_f hF rfl hc3 ?_
        refine q_skipc (n_ib (n_sq ?_))
        refine q_region ?_
        refine q_x (v := (.int .i64 (w64 (t_2 + 1)))) hF hS (ex_ibin rfl rfl rfl) rfl rfl fun a hF => ?_
        refine q_x (v := (.int .i64 (w64 (t_2 + 1)))) hF hS (ex_move rfl) rfl rfl fun a hF => ?_
        refine q_end ?_
        obtain rfl := someI hb1
        exact ⟨rfl, hF.sub ⟨rfl, rfl, rfl, rfl, rfl, trivial⟩, hS⟩
      · have hb1 := cond_t hc3 hb1
        refine q_cond_t hF rfl hc3 ?_
        refine q_seq ?_
        refine q_region ?_
        refine q_x (v := (.bool false)) hF hS (ex_assign rfl) rfl rfl fun a hF => ?_
        refine q_end (n_sq (q_ret (r_ib (r_sq ?_))))
        obtain rfl := someI hb1
        refine ⟨nofun, .inr fun ho => ?_⟩
        subst ho
        refine r_ib (r_sq ?_)
        obtain rfl := someI hr
        exact ret_of hF hS rfl (.tmp rfl .nil) rfl
  · rintro e a w ⟨rfl, rfl, hF, hS⟩
    refine x_ib (n_sq ?_)
    refine q_seq ?_
    refine q_region ?_
    refine q_x (v := (.bool true)) hF hS (ex_assign rfl) rfl rfl fun a hF => ?_
    refine q_end (n_sq (q_ret ?_))
    obtain rfl := someI hr
    exact ret_of hF hS rfl (.tmp rfl .nil) rfl

theorem c_spec_yGood (p_t : impl_NoiseTable) (r : Bool) (hr : spec_yGood p_t = some r) (w0 : World) (m : Mem) (hv : Vis m w0) (s1 : Sl) (h1 : Rd m s1 p_t.Rows) :
    Ret Try.prog 43 [(.agg #[s1.v])] w0 (fun v _ => v = (.bool r)) := by
  unfold spec_yGood at hr
  refine ret_start Try.func43 rfl 39 rfl rfl m hv fun a hF hS => ?_
  refine q_seq ?_
  refine q_region ?_
  refine q_box (cs := [s1.v]) hF hS rfl rfl rfl fun a w b2 hF hS => ?_
  refine q_x (v := (.bool false)) hF hS (ex_assign rfl) rfl rfl fun a hF => ?_
  refine q_end (n_sq ?_)
  refine q_seq ?_
  refine q_seq ?_
  refine q_region ?_
  refine q_x (v := (.pointer (some ⟨b2, 0, none⟩))) hF hS (ex_fieldAddr Try.underlying25 rfl sz23 rfl rfl) rfl rfl fun a hF => ?_
  refine q_x (v := s1.v) hF hS (ex_load1 0 0 Try.underlying23 rfl rfl rfl rfl) rfl rfl fun a hF => ?_
  refine q_x (v := (.int .i64 (goLen p_t.Rows))) hF hS (ex_len Try.underlying23 rfl h1.len) rfl rfl fun a hF => ?_
  obtain ⟨t_3, ht_3, hr⟩ := bindS hr
  refine q_call (vs := [(.int .i64 (goLen p_t.Rows)), (.int .i64 1), (.int .i64 20)]) hF hS Try.func44 (by kernel_rfl) rfl rfl rfl (c_spec_l1In (goLen p_t.Rows) 1 20 t_3 ht_3 _ m hS.vis) ?_
  rintro a w _ rfl hF hS
  refine q_x (v := (.bool (!t_3))) hF hS (ex_not rfl) rfl rfl fun a hF => ?_
  refine q_end (n_sq ?_)
  rcases bcase (!t_3) with hc1 | hc1
  · have hr := cond_f hc1 hr
    refine q_cond_f hF rfl hc1 ?_
    refine q_skipc (n_sq ?_)
    refine q_seq ?_
    refine q_seq ?_
    refine q_region ?_
    refine q_x (v := (.pointer (some ⟨b2, 0, none⟩))) hF hS (ex_fieldAddr Try.underlying25 rfl sz23 rfl rfl) rfl rfl fun a hF => ?_
    refine q_x (v := s1.v) hF hS (ex_load1 0 0 Try.underlying23 rfl rfl rfl rfl) rfl rfl fun a hF => ?_
    refine q_x (v := (.int .i64 (goLen p_t.Rows))) hF hS (ex_len Try.underlying23 rfl h1.len) rfl rfl fun a hF => ?_
    refine q_x (v := (.int .i64 0)) hF hS (ex_move rfl) rfl rfl fun a hF => ?_
    refine q_end (n_sq ?_)
    refine q_block ?_
    obtain ⟨o2, hl2, hr⟩ := bindS hr
    refine q_loop (fun (t_4 : Int) a w => Fr a 39 [(11, s1.v), (12, (.int .i64 (goLen p_t.Rows))), (13, (.int .i64 t_4))] ∧ St [] w0 w m []) (fun (o : (Unit) ⊕ (Bool)) e a w => o = .inl () ∧ e = .exit 0 ∧ Fr a 39 [] ∧ St [] w0 w m []) hl2 ⟨hF.sub ⟨rfl, rfl, rfl, trivial⟩, hS.mask [false]⟩ ?_ ?_
    · clear hF hS
      rintro t_4 a w st ⟨hF, hS⟩ hb2
      unfold spec_yGood_l1 at hb2
      refine q_seq ?_
      refine q_region ?_
      refine q_x (v := (.bool (decide (t_4 < (goLen p_t.Rows))))) hF hS (ex_ibin rfl rfl rfl) rfl rfl fun a hF => ?_
      refine q_end (n_sq ?_)
      refine q_seq ?_
      rcases bcase (decide (t_4 < (goLen p_t.Rows))) with hc3 | hc3
      · have hb2 := cond_f hc3 hb2
        refine q_cond_f hF rfl hc3 ?_
        refine q_exit (x_sq ?_)
        obtain rfl := someI hb2
        exact ⟨nofun, .inl ⟨rfl, rfl, hF.sub trivial, hS⟩⟩
      · have hb2 := cond_t hc3 hb2
        refine q_cond_t hF rfl hc3 ?_
        refine q_skipc (n_sq ?_)
        refine q_seq ?_
        refine q_block ?_
        refine q_seq ?_
        refine q_region ?_
        refine q_x (v := (.int .i64 t_4)) hF hS (ex_move rfl) rfl rfl fun a hF => ?_
        obtain ⟨e_5, he_5, hb2⟩ := bindS hb2
        obtain ⟨vs6, at6, d6⟩ := h1.at he_5 1 rfl
        obtain ⟨s7, rfl, h7⟩ : ∃ s7 : Sl, vs6 = [s7.v] ∧ Rd m s7 e_5 := d6
        refine q_x (v := (elP s1 (t_4.toNat * 1))) hF hS (ex_indexAddr Try.underlying23 sz33 rfl rfl (h1.idx he_5)) rfl rfl fun a hF => ?_
        refine q_x (v := s7.v) hF hS (ex_loadE1 0 Try.underlying33 rfl rfl ((at6).at) rfl rfl) rfl rfl fun a hF => ?_
        refine q_x (v := (.int .i64 t_4)) hF hS (ex_assign rfl) rfl rfl fun a hF => ?_
        refine q_x (v := s7.v) hF hS (ex_assign rfl) rfl rfl fun a hF => ?_
        refine q_end (n_sq ?_)
        refine q_seq ?_
        obtain ⟨t_11, hj4, hb2⟩ := bindS hb2
        refine q_join (fun a w => Fr a 39 [(11, s1.v), (12, (.int .i64 (goLen p_t.Rows))), (13, (.int .i64 t_4)), (37, (.bool t_11))] ∧ St [] w0 w m []) ?_ ?_
        · refine q_region ?_
          refine q_x (v := s7.v) hF hS (ex_move rfl) rfl rfl fun a hF => ?_
          refine q_x (v := (.int .i64 (goLen e_5))) hF hS (ex_len Try.underlying33 rfl h7.len) rfl rfl fun a hF => ?_
          refine q_x (v := (.bool ((goLen e_5) != 16))) hF hS (ex_ibin rfl rfl rfl) rfl rfl fun a hF => ?_
          refine q_x (v := (.bool ((goLen e_5) != 16))) hF hS (ex_move rfl) rfl rfl fun a hF => ?_
          rcases bcase ((goLen e_5) != 16) with hc5 | hc5
          · have hj4 := cond_f hc5 hj4
            refine q_xg (v := s7.v) hF hS (ex_move rfl) (wanted_t hF rfl rfl rfl hc5) rfl fun a hF => ?_
            refine q_xg (v := (.int .i64 t_4)) hF hS (ex_move rfl) (wanted_t hF rfl rfl rfl hc5) rfl fun a hF => ?_
            refine q_xg (v := (.int .i64 (w64 (-t_4)))) hF hS (ex_neg rfl) (wanted_t hF rfl rfl rfl hc5) rfl fun a hF => ?_
            obtain ⟨t_8, ht_8, hj4⟩ := bindS hj4
            refine q_callg (vs := [(.int .i64 (w64 (-t_4))), (.int .i64 (-5))]) hF hS (wanted_t hF rfl rfl rfl hc5) Try.func77 (by kernel_rfl) rfl rfl rfl (c_spec_l1Most (w64 (-t_4)) (-5) t_8 ht_8 _ m hS.vis) ?_
            rintro a w _ rfl hF hS
            obtain ⟨t_9, ht_9, hj4⟩ := bindS hj4
            refine q_callg (vs := [s7.v, (.int .i64 t_8), (.int .i64 5)]) hF hS (wanted_t hF rfl rfl rfl hc5) Try.func61 (by kernel_rfl) rfl rfl rfl (c_spec_l1All e_5 t_8 5 t_9 ht_9 _ m hS.vis s7 h7) ?_
            rintro a w _ rfl hF hS
            refine q_xg (v := (.bool (!t_9))) hF hS (ex_not rfl) (wanted_t hF rfl rfl rfl hc5) rfl fun a hF => ?_
            refine q_x (v := (.bool (!t_9))) hF hS (ex_pick_f rfl rfl hc5) rfl rfl fun a hF => ?_
            refine q_x (v := (.bool (!t_9))) hF hS (ex_move rfl) rfl rfl fun a hF => ?_
            rcases bcase (!t_9) with hc6 | hc6
            · have hj4 := cond_f hc6 hj4
              refine q_xg (v := (.int .i64 t_4)) hF hS (ex_move rfl) (wanted_t hF rfl rfl rfl hc6) rfl fun a hF => ?_
              refine q_xg (v := (.bool (t_4 == 0))) hF hS (ex_ibin rfl rfl rfl) (wanted_t hF rfl rfl rfl hc6) rfl fun a hF => ?_
              refine q_xg (v := (.bool (t_4 == 0))) hF hS (ex_move rfl) (wanted_t hF rfl rfl rfl hc6) rfl fun a hF => ?_
              rcases bcase (t_4 == 0) with hc7 | hc7
              · have hj4 := cond_f hc7 hj4
                refine q_skip hF (wanted_f hF rfl rfl rfl hc7 rfl) rfl fun a hF => ?_
                refine q_skip hF (wanted_f hF rfl rfl rfl hc7 rfl) rfl fun a hF => ?_
                refine q_skip hF (wanted_f hF rfl rfl rfl hc7 rfl) rfl fun a hF => ?_
                refine q_xg (v := (.bool false)) hF hS (ex_pick_f rfl rfl hc7) (wanted_t hF rfl rfl rfl hc6) rfl fun a hF => ?_
                refine q_x (v := (.bool false)) hF hS (ex_pick_f rfl rfl hc6) rfl rfl fun a hF => ?_
                refine q_end (n_jn ?_)
                obtain rfl := someI hj4
                exact ⟨hF.sub ⟨rfl, rfl, rfl, rfl, trivial⟩, hS⟩
              · have hj4 := cond_t hc7 hj4
                refine q_xg (v := s7.v) hF hS (ex_move rfl) (wanted_t hF rfl rfl rfl hc7) rfl fun a hF => ?_
                obtain ⟨t_10, ht_10, hj4⟩ := bindS hj4
                refine q_callg (vs := [s7.v, (.int .i64 0), (.int .i64 0)]) hF hS (wanted_t hF rfl rfl rfl hc7) Try.func61 (by kernel_rfl) rfl rfl rfl (c_spec_l1All e_5 0 0 t_10 ht_10 _ m hS.vis s7 h7) ?_
                rintro a w _ rfl hF hS
                refine q_xg (v := (.bool (!t_10))) hF hS (ex_not rfl) (wanted_t hF rfl rfl rfl hc7) rfl fun a hF => ?_
                refine q_xg (v := (.bool (!t_10))) hF hS (ex_pick_t rfl rfl hc7) (wanted_t hF rfl rfl rfl hc6) rfl fun a hF => ?_
                refine q_x (v := (.bool (!t_10))) hF hS (ex_pick_f rfl rfl hc6) rfl rfl fun a hF => ?_
                refine q_end (n_jn ?_)
                obtain rfl := someI hj4
                exact ⟨hF.sub ⟨rfl, rfl, rfl, rfl, trivial⟩, hS⟩
            · have hj4 := cond_t hc6 hj4
              refine q_skip hF (wanted_f hF rfl rfl rfl hc6 rfl) rfl fun a hF => ?_
              refine q_skip hF (wanted_f hF rfl rfl rfl hc6 rfl) rfl fun a hF => ?_
              refine q_skip hF (wanted_f hF rfl rfl rfl hc6 rfl) rfl fun a hF => ?_
              refine q_skip hF (wanted_u hF rfl rfl rfl) rfl fun a hF => ?_
              refine q_skip hF (wanted_u hF rfl rfl rfl) rfl fun a hF => ?_
              refine q_skip hF (wanted_u hF rfl rfl rfl) rfl fun a hF => ?_
              refine q_skip hF (wanted_f hF rfl rfl rfl hc6 rfl) rfl fun a hF => ?_
              refine q_x (v := (.bool true)) hF hS (ex_pick_t rfl rfl hc6) rfl rfl fun a hF => ?_
              refine q_end (n_jn ?_)
              obtain rfl := someI hj4
              exact ⟨hF.sub ⟨rfl, rfl, rfl, rfl, trivial⟩, hS⟩
          · have hj4 := cond_t hc5 hj4
            refine q_skip hF (wanted_f hF rfl rfl rfl hc5 rfl) rfl fun a hF => ?_
            refine q_skip hF (wanted_f hF rfl rfl rfl hc5 rfl) rfl fun a hF => ?_
            refine q_skip hF (wanted_f hF rfl rfl rfl hc5 rfl) rfl fun a hF => ?_
            refine q_skip hF (wanted_f hF rfl rfl rfl hc5 rfl) rfl fun a hF => ?_
            refine q_skip hF (wanted_f hF rfl rfl rfl hc5 rfl) rfl fun a hF => ?_
            refine q_skip hF (wanted_f hF rfl rfl rfl hc5 rfl) rfl fun a hF => ?_
            refine q_x (v := (.bool true)) hF hS (ex_pick_t rfl rfl hc5) rfl rfl fun a hF => ?_
            refine q_x (v := (.bool true)) hF hS (ex_move rfl) rfl rfl fun a hF => ?_
            refine q_skip hF (wanted_f hF rfl rfl rfl rfl rfl) rfl fun a hF => ?_
            refine q_skip hF (wanted_f hF rfl rfl rfl rfl rfl) rfl fun a hF => ?_
            refine q_skip hF (wanted_f hF rfl rfl rfl rfl rfl) rfl fun a hF => ?_
            refine q_skip hF (wanted_u hF rfl rfl rfl) rfl fun a hF => ?_
            refine q_skip hF (wanted_u hF rfl rfl rfl) rfl fun a hF => ?_
            refine q_skip hF (wanted_u hF rfl rfl rfl) rfl fun a hF => ?_
            refine q_skip hF (wanted_f hF rfl rfl rfl rfl rfl) rfl fun a hF => ?_
            refine q_x (v := (.bool true)) hF hS (ex_pick_t rfl rfl rfl) rfl rfl fun a hF => ?_
            refine q_end (n_jn ?_)
            obtain rfl := someI hj4
            exact ⟨hF.sub ⟨rfl, rfl, rfl, rfl, trivial⟩, hS⟩
        · rintro a w ⟨hF, hS⟩
          refine n_sq ?_
          rcases bcase (t_11) with hc8 | hc8
          · have hb2 := cond_f hc8 hb2
            refine q_cond_f hF rfl hc8 ?_
            refine q_skipc (n_ib (n_sq ?_))
            refine q_region ?_
            refine q_x (v := (.int .i64 (w64 (t_4 + 1)))) hF hS (ex_ibin rfl rfl rfl) rfl rfl fun a hF => ?_
            refine q_x (v := (.int .i64 (w64 (t_4 + 1)))) hF hS (ex_move rfl) rfl rfl fun a hF => ?_
            refine q_end ?_
            obtain rfl := someI hb2
            exact ⟨rfl, hF.sub ⟨rfl, rfl, rfl, trivial⟩, hS⟩
          · have hb2 := cond_t hc8 hb2
            refine q_cond_t hF rfl hc8 ?_
            refine q_seq ?_
            refine q_region ?_
            refine q_x (v := (.bool false)) hF hS (ex_assign rfl) rfl rfl fun a hF => ?_
            refine q_end (n_sq (q_ret (r_ib (r_sq ?_))))
            obtain rfl := someI hb2
            refine ⟨nofun, .inr fun ho => ?_⟩
            subst ho
            refine r_ib (r_sq ?_)
            obtain rfl := someI hr
            exact ret_of hF hS rfl (.tmp rfl .nil) rfl
    · rintro e a w ⟨rfl, rfl, hF, hS⟩
      refine x_ib (n_sq ?_)
      refine q_seq ?_
      refine q_region ?_
      refine q_x (v := (.bool true)) hF hS (ex_assign rfl) rfl rfl fun a hF => ?_
      refine q_end (n_sq (q_ret ?_))
      obtain rfl := someI hr
      exact ret_of hF hS rfl (.tmp rfl .nil) rfl
  · have hr := cond_t hc1 hr
    refine q_cond_t hF rfl hc1 ?_
    refine q_seq ?_
    refine q_region ?_
    refine q_x (v := (.bool false)) hF hS (ex_assign rfl) rfl rfl fun a hF => ?_
    refine q_end (n_sq (q_ret (r_sq ?_)))
    obtain rfl := someI hr
    exact ret_of hF hS rfl (.tmp rfl .nil) rfl

theorem c_spec_l1Least (p_a : Int) (p_b : Int) (r : Int) (hr : spec_l1Least p_a p_b = some r) (w0 : World) (m : Mem) (hv : Vis m w0) :
    Ret Try.prog 76 [(.int .i64 p_a), (.int .i64 p_b)] w0 (fun v _ => v = (.int .i64 r)) := by
  unfold spec_l1Least at hr
  refine ret_start Try.func76 rfl 10 rfl rfl m hv fun a hF hS => ?_
  refine q_seq ?_
  refine q_region ?_
  refine q_x (v := (.int .i64 0)) hF hS (ex_assign rfl) rfl rfl fun a hF => ?_
  refine q_end (n_sq ?_)
  refine q_seq ?_
  refine q_seq ?_
  refine q_region ?_
  refine q_x (v := (.int .i64 p_a)) hF hS (ex_move rfl) rfl rfl fun a hF => ?_
  refine q_x (v := (.int .i64 p_b)) hF hS (ex_move rfl) rfl rfl fun a hF => ?_
  refine q_x (v := (.bool (decide (p_a < p_b)))) hF hS (ex_ibin rfl rfl rfl) rfl rfl fun a hF => ?_
  refine q_end (n_sq ?_)
  rcases bcase (decide (p_a < p_b)) with hc1 | hc1
  · have hr := cond_f hc1 hr
    refine q_cond_f hF rfl hc1 ?_
    refine q_skipc (n_sq ?_)
    refine q_seq ?_
    refine q_region ?_
    refine q_x (v := (.int .i64 p_b)) hF hS (ex_move rfl) rfl rfl fun a hF => ?_
    refine q_x (v := (.int .i64 p_b)) hF hS (ex_assign rfl) rfl rfl fun a hF => ?_
    refine q_end (n_sq (q_ret ?_))
    obtain rfl := someI hr
    exact ret_of hF hS rfl (.tmp rfl .nil) rfl
  · have hr := cond_t hc1 hr
    refine q_cond_t hF rfl hc1 ?_
    refine q_seq ?_
    refine q_region ?_
    refine q_x (v := (.int .i64 p_a)) hF hS (ex_move rfl) rfl rfl fun a hF => ?_
    refine q_x (v := (.int .i64 p_a)) hF hS (ex_assign rfl) rfl rfl fun a hF => ?_
    refine q_end (n_sq (q_ret (r_sq ?_)))
    obtain rfl := someI hr
    exact ret_of hF hS rfl (.tmp rfl .nil) rfl

end Go.Proofs.Ytiikfhfnkppeeaa
