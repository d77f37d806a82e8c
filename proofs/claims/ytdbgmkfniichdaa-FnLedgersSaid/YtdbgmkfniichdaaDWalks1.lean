/- The walks of the functions: each returns what its plain function says. -/
import Derived.Test.YtdbgmkfniichdaaDDefs
import Derived.Test.YtdbgmkfniichdaaRows
namespace Go.Proofs.Ytdbgmkfniichdaa
open Go.Gx Go.Gx.F Go.RowKit
set_option linter.all false
set_option maxRecDepth 10000

theorem mixed : Try.prog.follows .mixedOrders = true := by kernel_rfl
theorem inf3 : inf Try.prog 3 = some (1, 8, [(.int .i64 0)]) := by kernel_rfl
theorem inf26 : inf Try.prog 26 = some (4, 32, [(.int .i64 0), (.int .i64 0), (.int .i64 0), (.int .i64 0)]) := by kernel_rfl
theorem inf49 : inf Try.prog 49 = some (5, 40, [(.int .i64 0), (.int .i64 0), (.int .i64 0), (.int .i64 0), (.int .i64 0)]) := by kernel_rfl
theorem sz3 : szOf Try.prog 3 = some 1 := by kernel_rfl
theorem sz5 : szOf Try.prog 5 = some 1 := by kernel_rfl
theorem sz22 : szOf Try.prog 22 = some 1 := by kernel_rfl
theorem sz24 : szOf Try.prog 24 = some 2 := by kernel_rfl
theorem sz26 : szOf Try.prog 26 = some 4 := by kernel_rfl
theorem sz49 : szOf Try.prog 49 = some 5 := by kernel_rfl
theorem sz101 : szOf Try.prog 101 = some 1 := by kernel_rfl

theorem c_spec_l1Cur_next (p_c : spec_l1Cur) (r : Int × spec_l1Cur) (hr : spec_l1Cur_next p_c = some r) (w0 : World) (m : Mem) (b_p_c : Nat) (s1 : Sl) (h1 : Rd m s1 p_c.code) (X : List Nat) (hS : St X w0 w0 m [[⟨b_p_c, [s1.v, (.int .i64 p_c.at_), (.int .u64 p_c.seed.v)], 103⟩]]) :
    RetX Try.prog 160 [(.pointer (some ⟨b_p_c, 0, none⟩))] w0 (fun v w => v = (.int .i64 r.1) ∧ St X w0 w m [[⟨b_p_c, [s1.v, (.int .i64 r.2.at_), (.int .u64 r.2.seed.v)], 103⟩]] ∧ r.2.code = p_c.code) := by
  unfold spec_l1Cur_next at hr
  refine ret_startX Try.func160 rfl 62 rfl rfl fun a hF => ?_
  refine q_seq ?_
  refine q_region ?_
  refine q_x (v := (.int .i64 0)) hF hS (ex_assign rfl) rfl rfl fun a hF => ?_
  refine q_end (n_sq ?_)
  refine q_seq ?_
  refine q_region ?_
  refine q_x (v := (.int .i64 0)) hF hS (ex_assign rfl) rfl rfl fun a hF => ?_
  refine q_end (n_sq ?_)
  refine q_seq ?_
  refine q_seq ?_
  refine e_region [] mixed fun w' hw' => ?_
  have hS := hS.below hw'
  refine e_p (v := (.pointer (some ⟨b_p_c, 0, none⟩))) 0 hF rfl (ex_move rfl) rfl rfl (by kernel_rfl) (by kernel_rfl) (by kernel_rfl) fun a hF => ?_
  refine e_p (v := (.pointer (some ⟨b_p_c, 0, none⟩))) 1 hF rfl (ex_nilCheck rfl) rfl rfl (by kernel_rfl) (by kernel_rfl) (by kernel_rfl) fun a hF => ?_
  refine e_p (v := (.pointer (some ⟨b_p_c, 1, none⟩))) 2 hF rfl (ex_fieldAddr Try.underlying103 rfl sz3 rfl rfl) rfl rfl (by kernel_rfl) (by kernel_rfl) (by kernel_rfl) fun a hF => ?_
  refine e_x (v := (.int .i64 p_c.at_)) 3 hF hS rfl (ex_load1 0 0 Try.underlying3 rfl rfl rfl rfl) rfl rfl (by kernel_rfl) (by kernel_rfl) (by kernel_rfl) (by kernel_rfl) fun a hF => ?_
  refine e_p (v := (.pointer (some ⟨b_p_c, 0, none⟩))) 4 hF rfl (ex_move rfl) rfl rfl (by kernel_rfl) (by kernel_rfl) (by kernel_rfl) fun a hF => ?_
  refine e_p (v := (.pointer (some ⟨b_p_c, 0, none⟩))) 5 hF rfl (ex_nilCheck rfl) rfl rfl (by kernel_rfl) (by kernel_rfl) (by kernel_rfl) fun a hF => ?_
  refine e_p (v := (.pointer (some ⟨b_p_c, 0, none⟩))) 6 hF rfl (ex_fieldAddr Try.underlying103 rfl sz22 rfl rfl) rfl rfl (by kernel_rfl) (by kernel_rfl) (by kernel_rfl) fun a hF => ?_
  refine e_x (v := s1.v) 7 hF hS rfl (ex_load1 0 0 Try.underlying22 rfl rfl rfl rfl) rfl rfl (by kernel_rfl) (by kernel_rfl) (by kernel_rfl) (by kernel_rfl) fun a hF => ?_
  refine e_p (v := (.int .i64 (goLen p_c.code))) 8 hF rfl (ex_len Try.underlying22 rfl h1.len) rfl rfl (by kernel_rfl) (by kernel_rfl) (by kernel_rfl) fun a hF => ?_
  refine e_p (v := (.bool (decide (p_c.at_ < (goLen p_c.code))))) 9 hF rfl (ex_ibin rfl rfl rfl) rfl rfl (by kernel_rfl) (by kernel_rfl) (by kernel_rfl) fun a hF => ?_
  refine e_end (by kernel_rfl) (n_sq ?_) _
  obtain ⟨b_4, hj1, hr⟩ := bindS hr
  refine q_join (fun a w => Fr a 62 [(0, (.pointer (some ⟨b_p_c, 0, none⟩))), (3, (.int .i64 b_4))] ∧ St X w0 w m [[⟨b_p_c, [s1.v, (.int .i64 p_c.at_), (.int .u64 p_c.seed.v)], 103⟩]]) ?_ ?_
  · rcases bcase (decide (p_c.at_ < (goLen p_c.code))) with hc2 | hc2
    · have hj1 := cond_f hc2 hj1
      refine q_cond_f hF rfl hc2 ?_
      refine q_skipc (n_jn ?_)
      obtain rfl := someI hj1
      exact ⟨hF.sub ⟨rfl, rfl, trivial⟩, hS⟩
    · have hj1 := cond_t hc2 hj1
      refine q_cond_t hF rfl hc2 ?_
      refine e_region [] mixed fun w' hw' => ?_
      have hS := hS.below hw'
      refine e_p (v := (.pointer (some ⟨b_p_c, 0, none⟩))) 0 hF rfl (ex_move rfl) rfl rfl (by kernel_rfl) (by kernel_rfl) (by kernel_rfl) fun a hF => ?_
      refine e_p (v := (.pointer (some ⟨b_p_c, 0, none⟩))) 1 hF rfl (ex_nilCheck rfl) rfl rfl (by kernel_rfl) (by kernel_rfl) (by kernel_rfl) fun a hF => ?_
      refine e_p (v := (.pointer (some ⟨b_p_c, 0, none⟩))) 2 hF rfl (ex_fieldAddr Try.underlying103 rfl sz22 rfl rfl) rfl rfl (by kernel_rfl) (by kernel_rfl) (by kernel_rfl) fun a hF => ?_
      refine e_x (v := s1.v) 3 hF hS rfl (ex_load1 0 0 Try.underlying22 rfl rfl rfl rfl) rfl rfl (by kernel_rfl) (by kernel_rfl) (by kernel_rfl) (by kernel_rfl) fun a hF => ?_
      refine e_p (v := (.pointer (some ⟨b_p_c, 0, none⟩))) 4 hF rfl (ex_move rfl) rfl rfl (by kernel_rfl) (by kernel_rfl) (by kernel_rfl) fun a hF => ?_
      refine e_p (v := (.pointer (some ⟨b_p_c, 0, none⟩))) 5 hF rfl (ex_nilCheck rfl) rfl rfl (by kernel_rfl) (by kernel_rfl) (by kernel_rfl) fun a hF => ?_
      refine e_p (v := (.pointer (some ⟨b_p_c, 1, none⟩))) 6 hF rfl (ex_fieldAddr Try.underlying103 rfl sz3 rfl rfl) rfl rfl (by kernel_rfl) (by kernel_rfl) (by kernel_rfl) fun a hF => ?_
      refine e_x (v := (.int .i64 p_c.at_)) 7 hF hS rfl (ex_load1 0 0 Try.underlying3 rfl rfl rfl rfl) rfl rfl (by kernel_rfl) (by kernel_rfl) (by kernel_rfl) (by kernel_rfl) fun a hF => ?_
      obtain ⟨e_2, he_2, hj1⟩ := bindS hj1
      obtain ⟨vs3, at3, d3⟩ := h1.at he_2 1 rfl
      obtain rfl : vs3 = [(.int .u8 e_2.v)] := d3
      refine e_p (v := (elP s1 (p_c.at_.toNat * 1))) 8 hF rfl (ex_indexAddr Try.underlying22 sz5 rfl rfl (h1.idx he_2)) rfl rfl (by kernel_rfl) (by kernel_rfl) (by kernel_rfl) fun a hF => ?_
      refine e_x (v := (.int .u8 e_2.v)) 9 hF hS rfl (ex_loadE1 0 Try.underlying5 rfl rfl ((at3).at) rfl rfl) rfl rfl (by kernel_rfl) (by kernel_rfl) (by kernel_rfl) (by kernel_rfl) fun a hF => ?_
      refine e_p (v := (.int .i64 (w64 e_2.v))) 10 hF rfl (ex_conv Try.underlying5 Try.underlying3 rfl) rfl rfl (by kernel_rfl) (by kernel_rfl) (by kernel_rfl) fun a hF => ?_
      refine e_p (v := (.int .i64 (w64 e_2.v))) 11 hF rfl (ex_assign rfl) rfl rfl (by kernel_rfl) (by kernel_rfl) (by kernel_rfl) fun a hF => ?_
      refine e_end (by kernel_rfl) (n_jn ?_) _
      obtain rfl := someI hj1
      exact ⟨hF.sub ⟨rfl, rfl, trivial⟩, hS⟩
  · rintro a w ⟨hF, hS⟩
    refine n_sq ?_
    refine q_seq ?_
    refine q_region ?_
    refine q_x (v := (.pointer (some ⟨b_p_c, 0, none⟩))) hF hS (ex_move rfl) rfl rfl fun a hF => ?_
    refine q_x (v := (.pointer (some ⟨b_p_c, 0, none⟩))) hF hS (ex_nilCheck rfl) rfl rfl fun a hF => ?_
    refine q_x (v := (.pointer (some ⟨b_p_c, 1, none⟩))) hF hS (ex_fieldAddr Try.underlying103 rfl sz3 rfl rfl) rfl rfl fun a hF => ?_
    refine q_x (v := (.int .i64 p_c.at_)) hF hS (ex_load1 0 0 Try.underlying3 rfl rfl rfl rfl) rfl rfl fun a hF => ?_
    refine q_x (v := (.int .i64 (w64 (p_c.at_ + 1)))) hF hS (ex_ibin rfl rfl rfl) rfl rfl fun a hF => ?_
    refine q_x (v := (.pointer (some ⟨b_p_c, 0, none⟩))) hF hS (ex_nilCheck rfl) rfl rfl fun a hF => ?_
    refine q_x (v := (.pointer (some ⟨b_p_c, 1, none⟩))) hF hS (ex_fieldAddr Try.underlying103 rfl sz3 rfl rfl) rfl rfl fun a hF => ?_
    refine q_store (vs := [(.int .i64 (w64 (p_c.at_ + 1)))]) (cs' := [s1.v, (.int .i64 (w64 (p_c.at_ + 1))), (.int .u64 p_c.seed.v)]) 0 0 hF hS sz3 rfl rfl rfl rfl rfl rfl rfl rfl fun a w hF hS => ?_
    refine q_end (n_sq ?_)
    refine q_seq ?_
    refine q_region ?_
    refine q_x (v := (.pointer (some ⟨b_p_c, 0, none⟩))) hF hS (ex_move rfl) rfl rfl fun a hF => ?_
    refine q_x (v := (.pointer (some ⟨b_p_c, 0, none⟩))) hF hS (ex_move rfl) rfl rfl fun a hF => ?_
    refine q_x (v := (.pointer (some ⟨b_p_c, 0, none⟩))) hF hS (ex_nilCheck rfl) rfl rfl fun a hF => ?_
    refine q_x (v := (.pointer (some ⟨b_p_c, 2, none⟩))) hF hS (ex_fieldAddr Try.underlying103 rfl sz101 rfl rfl) rfl rfl fun a hF => ?_
    refine q_x (v := (.int .u64 p_c.seed.v)) hF hS (ex_load1 0 0 Try.underlying101 rfl rfl rfl rfl) rfl rfl fun a hF => ?_
    refine q_x (v := (.int .u64 (IntKind.wrap .u64 (p_c.seed.v * 6364136223846793005)))) hF hS (ex_ibin rfl rfl rfl) rfl rfl fun a hF => ?_
    refine q_x (v := (.int .i64 b_4)) hF hS (ex_move rfl) rfl rfl fun a hF => ?_
    refine q_x (v := (.int .u64 (IntKind.wrap .u64 b_4))) hF hS (ex_conv Try.underlying3 Try.underlying101 rfl) rfl rfl fun a hF => ?_
    refine q_x (v := (.int .u64 (IntKind.wrap .u64 ((IntKind.wrap .u64 (p_c.seed.v * 6364136223846793005)) + (IntKind.wrap .u64 b_4))))) hF hS (ex_ibin rfl rfl rfl) rfl rfl fun a hF => ?_
    refine q_x (v := (.int .u64 (IntKind.wrap .u64 ((IntKind.wrap .u64 ((IntKind.wrap .u64 (p_c.seed.v * 6364136223846793005)) + (IntKind.wrap .u64 b_4))) + 1442695040888963407)))) hF hS (ex_ibin rfl rfl rfl) rfl rfl fun a hF => ?_
    refine q_x (v := (.pointer (some ⟨b_p_c, 0, none⟩))) hF hS (ex_nilCheck rfl) rfl rfl fun a hF => ?_
    refine q_x (v := (.pointer (some ⟨b_p_c, 2, none⟩))) hF hS (ex_fieldAddr Try.underlying103 rfl sz101 rfl rfl) rfl rfl fun a hF => ?_
    refine q_store (vs := [(.int .u64 (IntKind.wrap .u64 ((IntKind.wrap .u64 ((IntKind.wrap .u64 (p_c.seed.v * 6364136223846793005)) + (IntKind.wrap .u64 b_4))) + 1442695040888963407)))]) (cs' := [s1.v, (.int .i64 (w64 (p_c.at_ + 1))), (.int .u64 (IntKind.wrap .u64 ((IntKind.wrap .u64 ((IntKind.wrap .u64 (p_c.seed.v * 6364136223846793005)) + (IntKind.wrap .u64 b_4))) + 1442695040888963407)))]) 0 0 hF hS sz101 rfl rfl rfl rfl rfl rfl rfl rfl fun a w hF hS => ?_
    refine q_end (n_sq ?_)
    refine q_seq ?_
    refine q_seq ?_
    refine e_region [] mixed fun w' hw' => ?_
    have hS := hS.below hw'
    refine e_p (v := (.pointer (some ⟨b_p_c, 0, none⟩))) 0 hF rfl (ex_move rfl) rfl rfl (by kernel_rfl) (by kernel_rfl) (by kernel_rfl) fun a hF => ?_
    refine e_p (v := (.pointer (some ⟨b_p_c, 0, none⟩))) 1 hF rfl (ex_nilCheck rfl) rfl rfl (by kernel_rfl) (by kernel_rfl) (by kernel_rfl) fun a hF => ?_
    refine e_p (v := (.pointer (some ⟨b_p_c, 1, none⟩))) 2 hF rfl (ex_fieldAddr Try.underlying103 rfl sz3 rfl rfl) rfl rfl (by kernel_rfl) (by kernel_rfl) (by kernel_rfl) fun a hF => ?_
    refine e_x (v := (.int .i64 (w64 (p_c.at_ + 1)))) 3 hF hS rfl (ex_load1 0 0 Try.underlying3 rfl rfl rfl rfl) rfl rfl (by kernel_rfl) (by kernel_rfl) (by kernel_rfl) (by kernel_rfl) fun a hF => ?_
    refine e_p (v := (.pointer (some ⟨b_p_c, 0, none⟩))) 4 hF rfl (ex_move rfl) rfl rfl (by kernel_rfl) (by kernel_rfl) (by kernel_rfl) fun a hF => ?_
    refine e_p (v := (.pointer (some ⟨b_p_c, 0, none⟩))) 5 hF rfl (ex_nilCheck rfl) rfl rfl (by kernel_rfl) (by kernel_rfl) (by kernel_rfl) fun a hF => ?_
    refine e_p (v := (.pointer (some ⟨b_p_c, 0, none⟩))) 6 hF rfl (ex_fieldAddr Try.underlying103 rfl sz22 rfl rfl) rfl rfl (by kernel_rfl) (by kernel_rfl) (by kernel_rfl) fun a hF => ?_
    refine e_x (v := s1.v) 7 hF hS rfl (ex_load1 0 0 Try.underlying22 rfl rfl rfl rfl) rfl rfl (by kernel_rfl) (by kernel_rfl) (by kernel_rfl) (by kernel_rfl) fun a hF => ?_
    refine e_p (v := (.int .i64 (goLen p_c.code))) 8 hF rfl (ex_len Try.underlying22 rfl h1.len) rfl rfl (by kernel_rfl) (by kernel_rfl) (by kernel_rfl) fun a hF => ?_
    refine e_p (v := (.bool (decide ((w64 (p_c.at_ + 1)) ≤ (goLen p_c.code))))) 9 hF rfl (ex_ibin rfl rfl rfl) rfl rfl (by kernel_rfl) (by kernel_rfl) (by kernel_rfl) fun a hF => ?_
    refine e_end (by kernel_rfl) (n_sq ?_) _
    rcases bcase (decide ((w64 (p_c.at_ + 1)) ≤ (goLen p_c.code))) with hc3 | hc3
    · have hr := cond_f hc3 hr
      refine q_cond_f hF rfl hc3 ?_
      refine q_skipc (n_sq ?_)
      refine q_seq ?_
      refine q_region ?_
      refine q_x (v := (.pointer (some ⟨b_p_c, 0, none⟩))) hF hS (ex_move rfl) rfl rfl fun a hF => ?_
      refine q_x (v := (.pointer (some ⟨b_p_c, 0, none⟩))) hF hS (ex_nilCheck rfl) rfl rfl fun a hF => ?_
      refine q_x (v := (.pointer (some ⟨b_p_c, 2, none⟩))) hF hS (ex_fieldAddr Try.underlying103 rfl sz101 rfl rfl) rfl rfl fun a hF => ?_
      refine q_x (v := (.int .u64 (IntKind.wrap .u64 ((IntKind.wrap .u64 ((IntKind.wrap .u64 (p_c.seed.v * 6364136223846793005)) + (IntKind.wrap .u64 b_4))) + 1442695040888963407)))) hF hS (ex_load1 0 0 Try.underlying101 rfl rfl rfl rfl) rfl rfl fun a hF => ?_
      obtain ⟨t_5, ht_5, hr⟩ := bindS hr
      refine q_x (v := (.int .u64 t_5)) hF hS (ex_shr rfl rfl ht_5) rfl rfl fun a hF => ?_
      refine q_x (v := (.int .u64 (goBits .and .u64 t_5 255))) hF hS (ex_bits rfl rfl rfl) rfl rfl fun a hF => ?_
      refine q_x (v := (.int .i64 (w64 (goBits .and .u64 t_5 255)))) hF hS (ex_conv Try.underlying101 Try.underlying3 rfl) rfl rfl fun a hF => ?_
      refine q_x (v := (.int .i64 (w64 (goBits .and .u64 t_5 255)))) hF hS (ex_assign rfl) rfl rfl fun a hF => ?_
      refine q_end (n_sq (q_ret ?_))
      obtain rfl := someI hr
      exact ret_ofX hF hS rfl (.tmp rfl .nil) ⟨rfl, hS.sel [0] (by decide), rfl⟩
    · have hr := cond_t hc3 hr
      refine q_cond_t hF rfl hc3 ?_
      refine q_seq ?_
      refine q_region ?_
      refine q_x (v := (.int .i64 b_4)) hF hS (ex_move rfl) rfl rfl fun a hF => ?_
      refine q_x (v := (.int .i64 b_4)) hF hS (ex_assign rfl) rfl rfl fun a hF => ?_
      refine q_end (n_sq (q_ret (r_sq ?_)))
      obtain rfl := someI hr
      exact ret_ofX hF hS rfl (.tmp rfl .nil) ⟨rfl, hS.sel [0] (by decide), rfl⟩

theorem c_spec_l1Cur_pick (p_c : spec_l1Cur) (p_n : Int) (r : Int × spec_l1Cur) (hr : spec_l1Cur_pick p_c p_n = some r) (w0 : World) (m : Mem) (b_p_c : Nat) (s1 : Sl) (h1 : Rd m s1 p_c.code) (X : List Nat) (hS : St X w0 w0 m [[⟨b_p_c, [s1.v, (.int .i64 p_c.at_), (.int .u64 p_c.seed.v)], 103⟩]]) :
    RetX Try.prog 99 [(.pointer (some ⟨b_p_c, 0, none⟩)), (.int .i64 p_n)] w0 (fun v w => ∃ (m' : Mem) (s0' : Sl), v = (.int .i64 r.1) ∧ MLe X w0.heap.size m m' ∧ St X w0 w m' [[⟨b_p_c, [s0'.v, (.int .i64 r.2.at_), (.int .u64 r.2.seed.v)], 103⟩]] ∧ Rd m' s0' r.2.code) := by
  unfold spec_l1Cur_pick at hr
  refine ret_startX Try.func99 rfl 20 rfl rfl fun a hF => ?_
  refine q_seq ?_
  refine q_region ?_
  refine q_x (v := (.int .i64 0)) hF hS (ex_assign rfl) rfl rfl fun a hF => ?_
  refine q_end (n_sq ?_)
  refine q_seq ?_
  refine q_seq ?_
  refine q_region ?_
  refine q_x (v := (.int .i64 p_n)) hF hS (ex_move rfl) rfl rfl fun a hF => ?_
  refine q_x (v := (.bool (decide (p_n ≤ 1)))) hF hS (ex_ibin rfl rfl rfl) rfl rfl fun a hF => ?_
  refine q_end (n_sq ?_)
  rcases bcase (decide (p_n ≤ 1)) with hc1 | hc1
  · have hr := cond_f hc1 hr
    refine q_cond_f hF rfl hc1 ?_
    refine q_skipc (n_sq ?_)
    refine q_seq ?_
    refine q_region ?_
    refine q_x (v := (.pointer (some ⟨b_p_c, 0, none⟩))) hF hS (ex_move rfl) rfl rfl fun a hF => ?_
    have hS2 : St _ _ _ _ ([[⟨b_p_c, [s1.v, (.int .i64 p_c.at_), (.int .u64 p_c.seed.v)], 103⟩]] ++ []) := hS
    have hE2 := hS2.enter
    obtain ⟨t_3, ht_3, hr⟩ := bindS hr
    refine q_do rfl fun _ hK => wp_callX (vs := [(.pointer (some ⟨b_p_c, 0, none⟩))]) hF Try.func160 (by kernel_rfl) rfl rfl rfl (c_spec_l1Cur_next p_c t_3 ht_3 _ m b_p_c s1 h1 _ hE2) fun a w _ hR hF => hK _ _ ?_
    obtain ⟨rfl, hR2, hk4⟩ := hR
    have hS : St _ _ _ _ [[⟨b_p_c, [s1.v, (.int .i64 t_3.2.at_), (.int .u64 t_3.2.seed.v)], 103⟩]] := hS2.leaveF hR2
    have h4 : Rd m s1 t_3.2.code := by rw [hk4]; exact h1
    refine q_x (v := (.int .i64 t_3.1)) hF hS (ex_assign rfl) rfl rfl fun a hF => ?_
    refine q_end (n_sq ?_)
    refine q_seq ?_
    refine q_seq ?_
    refine q_region ?_
    refine q_x (v := (.int .i64 p_n)) hF hS (ex_move rfl) rfl rfl fun a hF => ?_
    refine q_x (v := (.bool (decide (200 < p_n)))) hF hS (ex_ibin rfl rfl rfl) rfl rfl fun a hF => ?_
    refine q_end (n_sq ?_)
    obtain ⟨j2, hj2, hr⟩ := bindS hr
    refine q_join (fun a w => ∃ x_8, ∃ p_c_9, j2 = (x_8, p_c_9) ∧ Fr a 20 [(1, (.int .i64 p_n)), (5, (.int .i64 x_8))] ∧ St X w0 w m [[⟨b_p_c, [s1.v, (.int .i64 p_c_9.at_), (.int .u64 p_c_9.seed.v)], 103⟩]] ∧ Rd m s1 p_c_9.code) ?_ ?_
    · rcases bcase (decide (200 < p_n)) with hc3 | hc3
      · have hj2 := cond_f hc3 hj2
        refine q_cond_f hF rfl hc3 ?_
        refine q_skipc (n_jn ?_)
        obtain rfl := someI hj2
        exact ⟨_, _, rfl, hF.sub ⟨rfl, rfl, trivial⟩, hS, h4⟩
      · have hj2 := cond_t hc3 hj2
        refine q_cond_t hF rfl hc3 ?_
        refine q_region ?_
        refine q_x (v := (.int .i64 t_3.1)) hF hS (ex_move rfl) rfl rfl fun a hF => ?_
        refine q_x (v := (.int .i64 (w64 (t_3.1 * 256)))) hF hS (ex_ibin rfl rfl rfl) rfl rfl fun a hF => ?_
        refine q_x (v := (.pointer (some ⟨b_p_c, 0, none⟩))) hF hS (ex_move rfl) rfl rfl fun a hF => ?_
        have hS5 : St _ _ _ _ ([[⟨b_p_c, [s1.v, (.int .i64 t_3.2.at_), (.int .u64 t_3.2.seed.v)], 103⟩]] ++ []) := hS
        have hE5 := hS5.enter
        obtain ⟨t_6, ht_6, hj2⟩ := bindS hj2
        refine q_do rfl fun _ hK => wp_callX (vs := [(.pointer (some ⟨b_p_c, 0, none⟩))]) hF Try.func160 (by kernel_rfl) rfl rfl rfl (c_spec_l1Cur_next t_3.2 t_6 ht_6 _ m b_p_c s1 h4 _ hE5) fun a w _ hR hF => hK _ _ ?_
        obtain ⟨rfl, hR5, hk7⟩ := hR
        have hS : St _ _ _ _ [[⟨b_p_c, [s1.v, (.int .i64 t_6.2.at_), (.int .u64 t_6.2.seed.v)], 103⟩]] := hS5.leaveF hR5
        have h7 : Rd m s1 t_6.2.code := by rw [hk7]; exact h4
        refine q_x (v := (.int .i64 (w64 ((w64 (t_3.1 * 256)) + t_6.1)))) hF hS (ex_ibin rfl rfl rfl) rfl rfl fun a hF => ?_
        refine q_x (v := (.int .i64 (w64 ((w64 (t_3.1 * 256)) + t_6.1)))) hF hS (ex_assign rfl) rfl rfl fun a hF => ?_
        refine q_end (n_jn ?_)
        obtain rfl := someI hj2
        exact ⟨_, _, rfl, hF.sub ⟨rfl, rfl, trivial⟩, hS, h7⟩
    · rintro a w ⟨x_8, p_c_9, rfl, hF, hS, h10⟩
      refine n_sq ?_
      refine q_seq ?_
      refine q_region ?_
      refine q_x (v := (.int .i64 x_8)) hF hS (ex_move rfl) rfl rfl fun a hF => ?_
      refine q_x (v := (.int .i64 p_n)) hF hS (ex_move rfl) rfl rfl fun a hF => ?_
      obtain ⟨t_11, ht_11, hr⟩ := bindS hr
      refine q_x (v := (.int .i64 t_11)) hF hS (ex_rem rfl rfl ht_11) rfl rfl fun a hF => ?_
      refine q_x (v := (.int .i64 t_11)) hF hS (ex_assign rfl) rfl rfl fun a hF => ?_
      refine q_end (n_sq (q_ret ?_))
      obtain rfl := someI hr
      exact ret_ofX hF hS rfl (.tmp rfl .nil) ⟨m, s1, rfl, (MLe.refl _ _), hS.sel [0] (by decide), h10⟩
  · have hr := cond_t hc1 hr
    refine q_cond_t hF rfl hc1 ?_
    refine q_seq ?_
    refine q_region ?_
    refine q_x (v := (.int .i64 0)) hF hS (ex_assign rfl) rfl rfl fun a hF => ?_
    refine q_end (n_sq (q_ret (r_sq ?_)))
    obtain rfl := someI hr
    exact ret_ofX hF hS rfl (.tmp rfl .nil) ⟨m, s1, rfl, (MLe.refl _ _), hS.sel [0] (by decide), h1⟩

theorem c_spec_l1Cur_one (p_c : spec_l1Cur) (p_n : Int) (r : Bool × spec_l1Cur) (hr : spec_l1Cur_one p_c p_n = some r) (w0 : World) (m : Mem) (b_p_c : Nat) (s1 : Sl) (h1 : Rd m s1 p_c.code) (X : List Nat) (hS : St X w0 w0 m [[⟨b_p_c, [s1.v, (.int .i64 p_c.at_), (.int .u64 p_c.seed.v)], 103⟩]]) :
    RetX Try.prog 86 [(.pointer (some ⟨b_p_c, 0, none⟩)), (.int .i64 p_n)] w0 (fun v w => ∃ (m' : Mem) (s0' : Sl), v = (.bool r.1) ∧ MLe X w0.heap.size m m' ∧ St X w0 w m' [[⟨b_p_c, [s0'.v, (.int .i64 r.2.at_), (.int .u64 r.2.seed.v)], 103⟩]] ∧ Rd m' s0' r.2.code) := by
  unfold spec_l1Cur_one at hr
  refine ret_startX Try.func86 rfl 9 rfl rfl fun a hF => ?_
  refine q_seq ?_
  refine q_region ?_
  refine q_x (v := (.bool false)) hF hS (ex_assign rfl) rfl rfl fun a hF => ?_
  refine q_end (n_sq ?_)
  refine q_seq ?_
  refine q_region ?_
  refine q_x (v := (.pointer (some ⟨b_p_c, 0, none⟩))) hF hS (ex_move rfl) rfl rfl fun a hF => ?_
  refine q_x (v := (.int .i64 p_n)) hF hS (ex_move rfl) rfl rfl fun a hF => ?_
  have hS2 : St _ _ _ _ ([[⟨b_p_c, [s1.v, (.int .i64 p_c.at_), (.int .u64 p_c.seed.v)], 103⟩]] ++ []) := hS
  have hE2 := hS2.enter
  obtain ⟨t_3, ht_3, hr⟩ := bindS hr
  refine q_do rfl fun _ hK => wp_callX (vs := [(.pointer (some ⟨b_p_c, 0, none⟩)), (.int .i64 p_n)]) hF Try.func99 (by kernel_rfl) rfl rfl rfl (c_spec_l1Cur_pick p_c p_n t_3 ht_3 _ m b_p_c s1 h1 _ hE2) fun a w _ hR hF => hK _ _ ?_
  obtain ⟨m2', s4, rfl, hm2, hR2, h4⟩ := hR
  have hS : St _ _ _ _ [[⟨b_p_c, [s4.v, (.int .i64 t_3.2.at_), (.int .u64 t_3.2.seed.v)], 103⟩]] := hS2.leave hR2 hm2
  have hm2 := MLe.weakX hS2 hm2
  refine q_x (v := (.bool (t_3.1 == 0))) hF hS (ex_ibin rfl rfl rfl) rfl rfl fun a hF => ?_
  refine q_x (v := (.bool (t_3.1 == 0))) hF hS (ex_assign rfl) rfl rfl fun a hF => ?_
  refine q_end (n_sq (q_ret ?_))
  obtain rfl := someI hr
  exact ret_ofX hF hS rfl (.tmp rfl .nil) ⟨m2', s4, rfl, hm2, hS.sel [0] (by decide), h4⟩

theorem c_spec_l1Most (p_a : Int) (p_b : Int) (r : Int) (hr : spec_l1Most p_a p_b = some r) (w0 : World) (m : Mem) (hv : Vis m w0) :
    Ret Try.prog 169 [(.int .i64 p_a), (.int .i64 p_b)] w0 (fun v _ => v = (.int .i64 r)) := by
  unfold spec_l1Most at hr
  refine ret_start Try.func169 rfl 10 rfl rfl m hv fun a hF hS => ?_
  refine q_seq ?_
  refine q_region ?_
  refine q_x (v := (.int .i64 0)) hF hS (ex_assign rfl) rfl rfl fun a hF => ?_
  refine q_end (n_sq ?_)
  refine q_seq ?_
  refine q_seq ?_
  refine q_region ?_
  refine q_x (v := (.int .i64 p_a)) hF hS (ex_move rfl) rfl rfl fun a hF => ?_
  refine q_x (v := (.int .i64 p_b)) hF hS (ex_move rfl) rfl rfl fun a hF => ?_
  refine q_x (v := (.bool (decide (p_b < p_a)))) hF hS (ex_ibin rfl rfl rfl) rfl rfl fun a hF => ?_
  refine q_end (n_sq ?_)
  rcases bcase (decide (p_b < p_a)) with hc1 | hc1
  · have hr := cond_f hc1 hr
    refine q_cond_f hF rfl hc1 ?_
    refine q_skipc (n_sq ?_)
    refine q_seq ?_
    refine q_region ?_
    refine q_x (v := (.int .i64 p_b)) hF hS (ex_move rfl) rfl rfl fun a hF => ?_
    refine q_x (v := (.int .i64 p_b)) hF hS (ex_assign rfl) rfl rfl fun a hF => ?_
    refine q_end (n_sq (q_ret ?_))
    obtain rfl := someI hr
    exact ret_of hF hS rfl (.tmp rfl .nil) rfl
  · have hr := cond_t hc1 hr
    refine q_cond_t hF rfl hc1 ?_
    refine q_seq ?_
    refine q_region ?_
    refine q_x (v := (.int .i64 p_a)) hF hS (ex_move rfl) rfl rfl fun a hF => ?_
    refine q_x (v := (.int .i64 p_a)) hF hS (ex_assign rfl) rfl rfl fun a hF => ?_
    refine q_end (n_sq (q_ret (r_sq ?_)))
    obtain rfl := someI hr
    exact ret_of hF hS rfl (.tmp rfl .nil) rfl

theorem c_spec_l1Abs (p_n : Int) (r : Int) (hr : spec_l1Abs p_n = some r) (w0 : World) (m : Mem) (hv : Vis m w0) :
    Ret Try.prog 167 [(.int .i64 p_n)] w0 (fun v _ => v = (.int .i64 r)) := by
  unfold spec_l1Abs at hr
  refine ret_start Try.func167 rfl 7 rfl rfl m hv fun a hF hS => ?_
  refine q_seq ?_
  refine q_region ?_
  refine q_x (v := (.int .i64 0)) hF hS (ex_assign rfl) rfl rfl fun a hF => ?_
  refine q_end (n_sq ?_)
  refine q_seq ?_
  refine q_region ?_
  refine q_x (v := (.int .i64 p_n)) hF hS (ex_move rfl) rfl rfl fun a hF => ?_
  refine q_x (v := (.int .i64 p_n)) hF hS (ex_move rfl) rfl rfl fun a hF => ?_
  refine q_x (v := (.int .i64 (w64 (-p_n)))) hF hS (ex_neg rfl) rfl rfl fun a hF => ?_
  obtain ⟨t_1, ht_1, hr⟩ := bindS hr
  refine q_call (vs := [(.int .i64 p_n), (.int .i64 (w64 (-p_n)))]) hF hS Try.func169 (by kernel_rfl) rfl rfl rfl (c_spec_l1Most p_n (w64 (-p_n)) t_1 ht_1 _ m hS.vis) ?_
  rintro a w _ rfl hF hS
  refine q_x (v := (.int .i64 t_1)) hF hS (ex_assign rfl) rfl rfl fun a hF => ?_
  refine q_end (n_sq (q_ret ?_))
  obtain rfl := someI hr
  exact ret_of hF hS rfl (.tmp rfl .nil) rfl

theorem c_spec_fGcd (p_a : Int) (p_b : Int) (r : Int) (hr : spec_fGcd p_a p_b = some r) (w0 : World) (m : Mem) (hv : Vis m w0) :
    Ret Try.prog 163 [(.int .i64 p_a), (.int .i64 p_b)] w0 (fun v _ => v = (.int .i64 r)) := by
  unfold spec_fGcd at hr
  refine ret_start Try.func163 rfl 15 rfl rfl m hv fun a hF hS => ?_
  refine q_seq ?_
  refine q_region ?_
  refine q_x (v := (.int .i64 0)) hF hS (ex_assign rfl) rfl rfl fun a hF => ?_
  refine q_end (n_sq ?_)
  refine q_seq ?_
  refine q_block ?_
  obtain ⟨a_4, hl1, hr⟩ := bindS hr
  refine q_loop (fun (s : Int × Int) a w => ∃ a_1, ∃ b_2, s = (a_1, b_2) ∧ Fr a 15 [(0, (.int .i64 a_1)), (1, (.int .i64 b_2))] ∧ St [] w0 w m []) (fun (a_4 : Int) e a w => e = .exit 0 ∧ Fr a 15 [(0, (.int .i64 a_4))] ∧ St [] w0 w m []) hl1 ⟨_, _, rfl, hF.sub ⟨rfl, rfl, trivial⟩, hS⟩ ?_ ?_
  · clear hF hS
    rintro s a w st ⟨a_1, b_2, rfl, hF, hS⟩ hb1
    unfold spec_fGcd_l1 at hb1
    refine q_seq ?_
    refine q_seq ?_
    refine q_region ?_
    refine q_x (v := (.int .i64 b_2)) hF hS (ex_move rfl) rfl rfl fun a hF => ?_
    refine q_x (v := (.bool (b_2 != 0))) hF hS (ex_ibin rfl rfl rfl) rfl rfl fun a hF => ?_
    refine q_end (n_sq ?_)
    rcases bcase (b_2 != 0) with hc2 | hc2
    · have hb1 := cond_f hc2 hb1
      refine q_cond_f hF rfl hc2 ?_
      refine q_exit (x_sq ?_)
      obtain rfl := someI hb1
      exact ⟨nofun, .inl ⟨rfl, hF.sub ⟨rfl, trivial⟩, hS⟩⟩
    · have hb1 := cond_t hc2 hb1
      refine q_cond_t hF rfl hc2 ?_
      refine q_skipc (n_sq ?_)
      refine q_block ?_
      refine q_seq ?_
      refine q_region ?_
      refine q_x (v := (.int .i64 a_1)) hF hS (ex_move rfl) rfl rfl fun a hF => ?_
      refine q_x (v := (.int .i64 b_2)) hF hS (ex_move rfl) rfl rfl fun a hF => ?_
      obtain ⟨t_3, ht_3, hb1⟩ := bindS hb1
      refine q_x (v := (.int .i64 t_3)) hF hS (ex_rem rfl rfl ht_3) rfl rfl fun a hF => ?_
      refine q_x (v := (.int .i64 t_3)) hF hS (ex_assign rfl) rfl rfl fun a hF => ?_
      refine q_end (n_sq ?_)
      refine q_seq ?_
      refine q_region ?_
      refine q_x (v := (.int .i64 b_2)) hF hS (ex_move rfl) rfl rfl fun a hF => ?_
      refine q_x (v := (.int .i64 b_2)) hF hS (ex_assign rfl) rfl rfl fun a hF => ?_
      refine q_end (n_sq ?_)
      refine q_region ?_
      refine q_x (v := (.int .i64 t_3)) hF hS (ex_move rfl) rfl rfl fun a hF => ?_
      refine q_x (v := (.int .i64 t_3)) hF hS (ex_assign rfl) rfl rfl fun a hF => ?_
      refine q_end (n_ib ?_)
      obtain rfl := someI hb1
      exact ⟨rfl, _, _, rfl, hF.sub ⟨rfl, rfl, trivial⟩, hS⟩
  · rintro e a w ⟨rfl, hF, hS⟩
    refine x_ib (n_sq ?_)
    refine q_seq ?_
    refine q_region ?_
    refine q_x (v := (.int .i64 a_4)) hF hS (ex_move rfl) rfl rfl fun a hF => ?_
    obtain ⟨t_5, ht_5, hr⟩ := bindS hr
    refine q_call (vs := [(.int .i64 a_4)]) hF hS Try.func167 (by kernel_rfl) rfl rfl rfl (c_spec_l1Abs a_4 t_5 ht_5 _ m hS.vis) ?_
    rintro a w _ rfl hF hS
    refine q_x (v := (.int .i64 t_5)) hF hS (ex_assign rfl) rfl rfl fun a hF => ?_
    refine q_end (n_sq (q_ret ?_))
    obtain rfl := someI hr
    exact ret_of hF hS rfl (.tmp rfl .nil) rfl

theorem c_spec_l1In (p_n : Int) (p_lo : Int) (p_hi : Int) (r : Bool) (hr : spec_l1In p_n p_lo p_hi = some r) (w0 : World) (m : Mem) (hv : Vis m w0) :
    Ret Try.prog 104 [(.int .i64 p_n), (.int .i64 p_lo), (.int .i64 p_hi)] w0 (fun v _ => v = (.bool r)) := by
  unfold spec_l1In at hr
  refine ret_start Try.func104 rfl 15 rfl rfl m hv fun a hF hS => ?_
  refine q_seq ?_
  refine q_region ?_
  refine q_x (v := (.bool false)) hF hS (ex_assign rfl) rfl rfl fun a hF => ?_
  refine q_end (n_sq ?_)
  refine q_seq ?_
  obtain ⟨t_1, hj1, hr⟩ := bindS hr
  refine q_join (fun a w => Fr a 15 [(6, (.bool t_1))] ∧ St [] w0 w m []) ?_ ?_
  · refine q_region ?_
    refine q_x (v := (.int .i64 p_n)) hF hS (ex_move rfl) rfl rfl fun a hF => ?_
    refine q_x (v := (.int .i64 p_lo)) hF hS (ex_move rfl) rfl rfl fun a hF => ?_
    refine q_x (v := (.bool (decide (p_lo ≤ p_n)))) hF hS (ex_ibin rfl rfl rfl) rfl rfl fun a hF => ?_
    refine q_x (v := (.bool (decide (p_lo ≤ p_n)))) hF hS (ex_move rfl) rfl rfl fun a hF => ?_
    rcases bcase (decide (p_lo ≤ p_n)) with hc2 | hc2
    · have hj1 := cond_f hc2 hj1
      refine q_skip hF (wanted_f hF rfl rfl rfl hc2 rfl) rfl fun a hF => ?_
      refine q_skip hF (wanted_f hF rfl rfl rfl hc2 rfl) rfl fun a hF => ?_
      refine q_skip hF (wanted_f hF rfl rfl rfl hc2 rfl) rfl fun a hF => ?_
      refine q_x (v := (.bool false)) hF hS (ex_pick_f rfl rfl hc2) rfl rfl fun a hF => ?_
      refine q_x (v := (.bool false)) hF hS (ex_assign rfl) rfl rfl fun a hF => ?_
      refine q_end (n_jn ?_)
      obtain rfl := someI hj1
      exact ⟨hF.sub ⟨rfl, trivial⟩, hS⟩
    · have hj1 := cond_t hc2 hj1
      refine q_xg (v := (.int .i64 p_n)) hF hS (ex_move rfl) (wanted_t hF rfl rfl rfl hc2) rfl fun a hF => ?_
      refine q_xg (v := (.int .i64 p_hi)) hF hS (ex_move rfl) (wanted_t hF rfl rfl rfl hc2) rfl fun a hF => ?_
      refine q_xg (v := (.bool (decide (p_n ≤ p_hi)))) hF hS (ex_ibin rfl rfl rfl) (wanted_t hF rfl rfl rfl hc2) rfl fun a hF => ?_
      refine q_x (v := (.bool (decide (p_n ≤ p_hi)))) hF hS (ex_pick_t rfl rfl hc2) rfl rfl fun a hF => ?_
      refine q_x (v := (.bool (decide (p_n ≤ p_hi)))) hF hS (ex_assign rfl) rfl rfl fun a hF => ?_
      refine q_end (n_jn ?_)
      obtain rfl := someI hj1
      exact ⟨hF.sub ⟨rfl, trivial⟩, hS⟩
  · rintro a w ⟨hF, hS⟩
    refine n_sq (q_ret ?_)
    obtain rfl := someI hr
    exact ret_of hF hS rfl (.tmp rfl .nil) rfl

theorem c_spec_fGood (p_f : impl_Frac) (r : Bool) (hr : spec_fGood p_f = some r) (w0 : World) (m : Mem) (hv : Vis m w0) :
    Ret Try.prog 115 [(.agg #[(.int .i64 p_f.Num), (.int .i64 p_f.Den)])] w0 (fun v _ => v = (.bool r)) := by
  unfold spec_fGood at hr
  refine ret_start Try.func115 rfl 19 rfl rfl m hv fun a hF hS => ?_
  refine q_seq ?_
  refine q_region ?_
  refine q_box (cs := [(.int .i64 p_f.Num), (.int .i64 p_f.Den)]) hF hS rfl rfl rfl fun a w b1 hF hS => ?_
  refine q_x (v := (.bool false)) hF hS (ex_assign rfl) rfl rfl fun a hF => ?_
  refine q_end (n_sq ?_)
  refine q_seq ?_
  obtain ⟨t_5, hj1, hr⟩ := bindS hr
  refine q_join (fun a w => Fr a 19 [(2, (.bool t_5))] ∧ St [] w0 w m []) ?_ ?_
  · refine q_region ?_
    refine q_x (v := (.pointer (some ⟨b1, 1, none⟩))) hF hS (ex_fieldAddr Try.underlying24 rfl sz3 rfl rfl) rfl rfl fun a hF => ?_
    refine q_x (v := (.int .i64 p_f.Den)) hF hS (ex_load1 0 0 Try.underlying3 rfl rfl rfl rfl) rfl rfl fun a hF => ?_
    obtain ⟨t_2, ht_2, hj1⟩ := bindS hj1
    refine q_call (vs := [(.int .i64 p_f.Den), (.int .i64 1), (.int .i64 1000000000)]) hF hS Try.func104 (by kernel_rfl) rfl rfl rfl (c_spec_l1In p_f.Den 1 1000000000 t_2 ht_2 _ m hS.vis) ?_
    rintro a w _ rfl hF hS
    refine q_x (v := (.bool t_2)) hF hS (ex_move rfl) rfl rfl fun a hF => ?_
    rcases bcase (t_2) with hc2 | hc2
    · have hj1 := cond_f hc2 hj1
      refine q_skip hF (wanted_f hF rfl rfl rfl hc2 rfl) rfl fun a hF => ?_
      refine q_skip hF (wanted_f hF rfl rfl rfl hc2 rfl) rfl fun a hF => ?_
      refine q_skip hF (wanted_f hF rfl rfl rfl hc2 rfl) rfl fun a hF => ?_
      refine q_x (v := (.bool false)) hF hS (ex_pick_f rfl rfl hc2) rfl rfl fun a hF => ?_
      refine q_x (v := (.bool false)) hF hS (ex_move rfl) rfl rfl fun a hF => ?_
      refine q_skip hF (wanted_f hF rfl rfl rfl rfl rfl) rfl fun a hF => ?_
      refine q_skip hF (wanted_f hF rfl rfl rfl rfl rfl) rfl fun a hF => ?_
      refine q_skip hF (wanted_f hF rfl rfl rfl rfl rfl) rfl fun a hF => ?_
      refine q_skip hF (wanted_f hF rfl rfl rfl rfl rfl) rfl fun a hF => ?_
      refine q_skip hF (wanted_f hF rfl rfl rfl rfl rfl) rfl fun a hF => ?_
      refine q_skip hF (wanted_f hF rfl rfl rfl rfl rfl) rfl fun a hF => ?_
      refine q_x (v := (.bool false)) hF hS (ex_pick_f rfl rfl rfl) rfl rfl fun a hF => ?_
      refine q_x (v := (.bool false)) hF hS (ex_assign rfl) rfl rfl fun a hF => ?_
      refine q_end (n_jn ?_)
      obtain rfl := someI hj1
      exact ⟨hF.sub ⟨rfl, trivial⟩, hS.mask [false]⟩
    · have hj1 := cond_t hc2 hj1
      refine q_xg (v := (.pointer (some ⟨b1, 0, none⟩))) hF hS (ex_fieldAddr Try.underlying24 rfl sz3 rfl rfl) (wanted_t hF rfl rfl rfl hc2) rfl fun a hF => ?_
      refine q_xg (v := (.int .i64 p_f.Num)) hF hS (ex_load1 0 0 Try.underlying3 rfl rfl rfl rfl) (wanted_t hF rfl rfl rfl hc2) rfl fun a hF => ?_
      obtain ⟨t_3, ht_3, hj1⟩ := bindS hj1
      refine q_callg (vs := [(.int .i64 p_f.Num), (.int .i64 (-1000000000)), (.int .i64 1000000000)]) hF hS (wanted_t hF rfl rfl rfl hc2) Try.func104 (by kernel_rfl) rfl rfl rfl (c_spec_l1In p_f.Num (-1000000000) 1000000000 t_3 ht_3 _ m hS.vis) ?_
      rintro a w _ rfl hF hS
      refine q_x (v := (.bool t_3)) hF hS (ex_pick_t rfl rfl hc2) rfl rfl fun a hF => ?_
      refine q_x (v := (.bool t_3)) hF hS (ex_move rfl) rfl rfl fun a hF => ?_
      rcases bcase (t_3) with hc3 | hc3
      · have hj1 := cond_f hc3 hj1
        refine q_skip hF (wanted_f hF rfl rfl rfl hc3 rfl) rfl fun a hF => ?_
        refine q_skip hF (wanted_f hF rfl rfl rfl hc3 rfl) rfl fun a hF => ?_
        refine q_skip hF (wanted_f hF rfl rfl rfl hc3 rfl) rfl fun a hF => ?_
        refine q_skip hF (wanted_f hF rfl rfl rfl hc3 rfl) rfl fun a hF => ?_
        refine q_skip hF (wanted_f hF rfl rfl rfl hc3 rfl) rfl fun a hF => ?_
        refine q_skip hF (wanted_f hF rfl rfl rfl hc3 rfl) rfl fun a hF => ?_
        refine q_x (v := (.bool false)) hF hS (ex_pick_f rfl rfl hc3) rfl rfl fun a hF => ?_
        refine q_x (v := (.bool false)) hF hS (ex_assign rfl) rfl rfl fun a hF => ?_
        refine q_end (n_jn ?_)
        obtain rfl := someI hj1
        exact ⟨hF.sub ⟨rfl, trivial⟩, hS.mask [false]⟩
      · have hj1 := cond_t hc3 hj1
        refine q_xg (v := (.pointer (some ⟨b1, 0, none⟩))) hF hS (ex_fieldAddr Try.underlying24 rfl sz3 rfl rfl) (wanted_t hF rfl rfl rfl hc3) rfl fun a hF => ?_
        refine q_xg (v := (.int .i64 p_f.Num)) hF hS (ex_load1 0 0 Try.underlying3 rfl rfl rfl rfl) (wanted_t hF rfl rfl rfl hc3) rfl fun a hF => ?_
        refine q_xg (v := (.pointer (some ⟨b1, 1, none⟩))) hF hS (ex_fieldAddr Try.underlying24 rfl sz3 rfl rfl) (wanted_t hF rfl rfl rfl hc3) rfl fun a hF => ?_
        refine q_xg (v := (.int .i64 p_f.Den)) hF hS (ex_load1 0 0 Try.underlying3 rfl rfl rfl rfl) (wanted_t hF rfl rfl rfl hc3) rfl fun a hF => ?_
        obtain ⟨t_4, ht_4, hj1⟩ := bindS hj1
        refine q_callg (vs := [(.int .i64 p_f.Num), (.int .i64 p_f.Den)]) hF hS (wanted_t hF rfl rfl rfl hc3) Try.func163 (by kernel_rfl) rfl rfl rfl (c_spec_fGcd p_f.Num p_f.Den t_4 ht_4 _ m hS.vis) ?_
        rintro a w _ rfl hF hS
        refine q_xg (v := (.bool (t_4 == 1))) hF hS (ex_ibin rfl rfl rfl) (wanted_t hF rfl rfl rfl hc3) rfl fun a hF => ?_
        refine q_x (v := (.bool (t_4 == 1))) hF hS (ex_pick_t rfl rfl hc3) rfl rfl fun a hF => ?_
        refine q_x (v := (.bool (t_4 == 1))) hF hS (ex_assign rfl) rfl rfl fun a hF => ?_
        refine q_end (n_jn ?_)
        obtain rfl := someI hj1
        exact ⟨hF.sub ⟨rfl, trivial⟩, hS.mask [false]⟩
  · rintro a w ⟨hF, hS⟩
    refine n_sq (q_ret ?_)
    obtain rfl := someI hr
    exact ret_of hF hS rfl (.tmp rfl .nil) rfl

theorem c_spec_fMake (p_n : Int) (p_d : Int) (r : impl_Frac × Bool) (hr : spec_fMake p_n p_d = some r) (w0 : World) (m : Mem) (hv : Vis m w0) :
    Ret Try.prog 117 [(.int .i64 p_n), (.int .i64 p_d)] w0 (fun v _ => v = (.tuple #[(.agg #[(.int .i64 r.1.Num), (.int .i64 r.1.Den)]), (.bool r.2)])) := by
  unfold spec_fMake at hr
  refine ret_start Try.func117 rfl 30 rfl rfl m hv fun a hF hS => ?_
  refine q_seq ?_
  refine q_region ?_
  refine q_alloc (cs := [(.int .i64 0), (.int .i64 0)]) hF hS rfl rfl rfl fun a w b1 hF hS => ?_
  refine q_x (v := (.bool false)) hF hS (ex_assign rfl) rfl rfl fun a hF => ?_
  refine q_end (n_sq ?_)
  refine q_seq ?_
  refine q_seq ?_
  refine q_region ?_
  refine q_x (v := (.int .i64 p_d)) hF hS (ex_move rfl) rfl rfl fun a hF => ?_
  refine q_x (v := (.bool (p_d == 0))) hF hS (ex_ibin rfl rfl rfl) rfl rfl fun a hF => ?_
  refine q_end (n_sq ?_)
  rcases bcase (p_d == 0) with hc1 | hc1
  · have hr := cond_f hc1 hr
    refine q_cond_f hF rfl hc1 ?_
    refine q_skipc (n_sq ?_)
    refine q_seq ?_
    refine q_region ?_
    refine q_x (v := (.int .i64 p_n)) hF hS (ex_move rfl) rfl rfl fun a hF => ?_
    refine q_x (v := (.int .i64 p_d)) hF hS (ex_move rfl) rfl rfl fun a hF => ?_
    obtain ⟨t_2, ht_2, hr⟩ := bindS hr
    refine q_call (vs := [(.int .i64 p_n), (.int .i64 p_d)]) hF hS Try.func163 (by kernel_rfl) rfl rfl rfl (c_spec_fGcd p_n p_d t_2 ht_2 _ m hS.vis) ?_
    rintro a w _ rfl hF hS
    refine q_x (v := (.int .i64 t_2)) hF hS (ex_assign rfl) rfl rfl fun a hF => ?_
    refine q_end (n_sq ?_)
    refine q_seq ?_
    refine q_seq ?_
    refine q_region ?_
    refine q_x (v := (.int .i64 p_d)) hF hS (ex_move rfl) rfl rfl fun a hF => ?_
    refine q_x (v := (.bool (decide (p_d < 0)))) hF hS (ex_ibin rfl rfl rfl) rfl rfl fun a hF => ?_
    refine q_end (n_sq ?_)
    obtain ⟨g_3, hj2, hr⟩ := bindS hr
    refine q_join (fun a w => Fr a 30 [(0, (.int .i64 p_n)), (1, (.int .i64 p_d)), (4, (.pointer (some ⟨b1, 0, none⟩))), (6, (.int .i64 g_3))] ∧ St [] w0 w m [[⟨b1, [(.int .i64 0), (.int .i64 0)], 24⟩]]) ?_ ?_
    · rcases bcase (decide (p_d < 0)) with hc3 | hc3
      · have hj2 := cond_f hc3 hj2
        refine q_cond_f hF rfl hc3 ?_
        refine q_skipc (n_jn ?_)
        obtain rfl := someI hj2
        exact ⟨hF.sub ⟨rfl, rfl, rfl, rfl, trivial⟩, hS⟩
      · have hj2 := cond_t hc3 hj2
        refine q_cond_t hF rfl hc3 ?_
        refine q_region ?_
        refine q_x (v := (.int .i64 t_2)) hF hS (ex_move rfl) rfl rfl fun a hF => ?_
        refine q_x (v := (.int .i64 (w64 (-t_2)))) hF hS (ex_neg rfl) rfl rfl fun a hF => ?_
        refine q_x (v := (.int .i64 (w64 (-t_2)))) hF hS (ex_assign rfl) rfl rfl fun a hF => ?_
        refine q_end (n_jn ?_)
        obtain rfl := someI hj2
        exact ⟨hF.sub ⟨rfl, rfl, rfl, rfl, trivial⟩, hS⟩
    · rintro a w ⟨hF, hS⟩
      refine n_sq ?_
      refine q_seq ?_
      refine e_region [8] mixed fun w' hw' => ?_
      have hS := hS.below hw'
      refine e_p (v := (.int .i64 p_n)) 0 hF rfl (ex_move rfl) rfl rfl (by kernel_rfl) (by kernel_rfl) (by kernel_rfl) fun a hF => ?_
      refine e_p (v := (.int .i64 g_3)) 1 hF rfl (ex_move rfl) rfl rfl (by kernel_rfl) (by kernel_rfl) (by kernel_rfl) fun a hF => ?_
      obtain ⟨t_4, ht_4, hr⟩ := bindS hr
      refine e_p (v := (.int .i64 t_4)) 2 hF rfl (ex_quo rfl rfl ht_4) rfl rfl (by kernel_rfl) (by kernel_rfl) (by kernel_rfl) fun a hF => ?_
      refine e_p (v := (.int .i64 p_d)) 3 hF rfl (ex_move rfl) rfl rfl (by kernel_rfl) (by kernel_rfl) (by kernel_rfl) fun a hF => ?_
      refine e_p (v := (.int .i64 g_3)) 4 hF rfl (ex_move rfl) rfl rfl (by kernel_rfl) (by kernel_rfl) (by kernel_rfl) fun a hF => ?_
      obtain ⟨t_5, ht_5, hr⟩ := bindS hr
      refine e_p (v := (.int .i64 t_5)) 5 hF rfl (ex_quo rfl rfl ht_5) rfl rfl (by kernel_rfl) (by kernel_rfl) (by kernel_rfl) fun a hF => ?_
      refine e_p (v := (.agg #[(.int .i64 t_4), (.int .i64 t_5)])) 6 hF rfl (ex_build (cells := [(.int .i64 t_4), (.int .i64 t_5)]) rfl (by kernel_rfl)) rfl rfl (by kernel_rfl) (by kernel_rfl) (by kernel_rfl) fun a hF => ?_
      refine e_one 7 (by kernel_rfl) ?_
      refine e_alloc (cs := [(.int .i64 0), (.int .i64 0)]) hF hS rfl rfl rfl rfl fun a w b6 hF hS => ?_
      refine e_one 8 (by kernel_rfl) ?_
      refine e_store (vs := [(.int .i64 t_4), (.int .i64 t_5)]) (cs' := [(.int .i64 t_4), (.int .i64 t_5)]) 0 0 hF hS rfl rfl sz24 rfl rfl rfl rfl rfl rfl rfl rfl fun a w hF hS => ?_
      refine e_end (by kernel_rfl) (n_sq ?_) _
      refine q_seq ?_
      refine q_seq ?_
      refine q_region ?_
      refine q_x (v := (.agg #[(.int .i64 t_4), (.int .i64 t_5)])) hF hS (ex_loadA (vs := [(.int .i64 t_4), (.int .i64 t_5)]) 0 0 Try.underlying24 rfl sz24 rfl rfl rfl rfl) rfl rfl fun a hF => ?_
      obtain ⟨t_7, ht_7, hr⟩ := bindS hr
      refine q_call (vs := [(.agg #[(.int .i64 t_4), (.int .i64 t_5)])]) hF hS Try.func115 (by kernel_rfl) rfl rfl rfl (c_spec_fGood (impl_Frac.mk t_4 t_5) t_7 ht_7 _ m hS.vis) ?_
      rintro a w _ rfl hF hS
      refine q_x (v := (.bool (!t_7))) hF hS (ex_not rfl) rfl rfl fun a hF => ?_
      refine q_end (n_sq ?_)
      rcases bcase (!t_7) with hc4 | hc4
      · have hr := cond_f hc4 hr
        refine q_cond_f hF rfl hc4 ?_
        refine q_skipc (n_sq ?_)
        refine q_seq ?_
        refine q_region ?_
        refine q_x (v := (.agg #[(.int .i64 t_4), (.int .i64 t_5)])) hF hS (ex_loadA (vs := [(.int .i64 t_4), (.int .i64 t_5)]) 0 0 Try.underlying24 rfl sz24 rfl rfl rfl rfl) rfl rfl fun a hF => ?_
        refine q_store (vs := [(.int .i64 t_4), (.int .i64 t_5)]) (cs' := [(.int .i64 t_4), (.int .i64 t_5)]) 1 0 hF hS sz24 rfl rfl rfl rfl rfl rfl rfl rfl fun a w hF hS => ?_
        refine q_x (v := (.bool true)) hF hS (ex_assign rfl) rfl rfl fun a hF => ?_
        refine q_end (n_sq (q_ret ?_))
        obtain rfl := someI hr
        exact ret_of hF hS rfl (.cellA (us := [(.int .i64 t_4), (.int .i64 t_5)]) 1 0 Try.underlying24 rfl sz24 rfl rfl rfl rfl (.tmp rfl .nil)) rfl
      · have hr := cond_t hc4 hr
        refine q_cond_t hF rfl hc4 ?_
        refine q_seq ?_
        refine q_region ?_
        refine q_x (v := (.agg #[(.int .i64 0), (.int .i64 0)])) hF hS (ex_build (cells := [(.int .i64 0), (.int .i64 0)]) rfl (by kernel_rfl)) rfl rfl fun a hF => ?_
        refine q_store (vs := [(.int .i64 0), (.int .i64 0)]) (cs' := [(.int .i64 0), (.int .i64 0)]) 1 0 hF hS sz24 rfl rfl rfl rfl rfl rfl rfl rfl fun a w hF hS => ?_
        refine q_x (v := (.bool false)) hF hS (ex_assign rfl) rfl rfl fun a hF => ?_
        refine q_end (n_sq (q_ret (r_sq ?_)))
        obtain rfl := someI hr
        exact ret_of hF hS rfl (.cellA (us := [(.int .i64 0), (.int .i64 0)]) 1 0 Try.underlying24 rfl sz24 rfl rfl rfl rfl (.tmp rfl .nil)) rfl
  · have hr := cond_t hc1 hr
    refine q_cond_t hF rfl hc1 ?_
    refine q_seq ?_
    refine q_region ?_
    refine q_x (v := (.agg #[(.int .i64 0), (.int .i64 0)])) hF hS (ex_build (cells := [(.int .i64 0), (.int .i64 0)]) rfl (by kernel_rfl)) rfl rfl fun a hF => ?_
    refine q_store (vs := [(.int .i64 0), (.int .i64 0)]) (cs' := [(.int .i64 0), (.int .i64 0)]) 0 0 hF hS sz24 rfl rfl rfl rfl rfl rfl rfl rfl fun a w hF hS => ?_
    refine q_x (v := (.bool false)) hF hS (ex_assign rfl) rfl rfl fun a hF => ?_
    refine q_end (n_sq (q_ret (r_sq ?_)))
    obtain rfl := someI hr
    exact ret_of hF hS rfl (.cellA (us := [(.int .i64 0), (.int .i64 0)]) 0 0 Try.underlying24 rfl sz24 rfl rfl rfl rfl (.tmp rfl .nil)) rfl

theorem c_spec_l1Cur_loss (p_c : spec_l1Cur) (r : impl_Loss × spec_l1Cur) (hr : spec_l1Cur_loss p_c = some r) (w0 : World) (m : Mem) (b_p_c : Nat) (s1 : Sl) (h1 : Rd m s1 p_c.code) (X : List Nat) (hS : St X w0 w0 m [[⟨b_p_c, [s1.v, (.int .i64 p_c.at_), (.int .u64 p_c.seed.v)], 103⟩]]) :
    RetX Try.prog 101 [(.pointer (some ⟨b_p_c, 0, none⟩))] w0 (fun v w => ∃ (m' : Mem) (s0' : Sl), v = (.agg #[(.int .i64 r.1.Ratio.Num), (.int .i64 r.1.Ratio.Den), (.int .i64 r.1.Rho.Num), (.int .i64 r.1.Rho.Den)]) ∧ MLe X w0.heap.size m m' ∧ St X w0 w m' [[⟨b_p_c, [s0'.v, (.int .i64 r.2.at_), (.int .u64 r.2.seed.v)], 103⟩]] ∧ Rd m' s0' r.2.code) := by
  unfold spec_l1Cur_loss at hr
  refine ret_startX Try.func101 rfl 32 rfl rfl fun a hF => ?_
  refine q_seq ?_
  refine q_region ?_
  refine q_alloc (cs := [(.int .i64 0), (.int .i64 0), (.int .i64 0), (.int .i64 0)]) hF hS rfl rfl rfl fun a w b2 hF hS => ?_
  refine q_end (n_sq ?_)
  refine q_seq ?_
  refine q_region ?_
  refine q_x (v := (.pointer (some ⟨b_p_c, 0, none⟩))) hF hS (ex_move rfl) rfl rfl fun a hF => ?_
  have hS : St _ _ _ _ [[⟨b_p_c, [s1.v, (.int .i64 p_c.at_), (.int .u64 p_c.seed.v)], 103⟩], [⟨b2, [(.int .i64 0), (.int .i64 0), (.int .i64 0), (.int .i64 0)], 26⟩]] := hS.sel [1, 0] (by decide)
  have hS3 : St _ _ _ _ ([[⟨b_p_c, [s1.v, (.int .i64 p_c.at_), (.int .u64 p_c.seed.v)], 103⟩]] ++ [[⟨b2, [(.int .i64 0), (.int .i64 0), (.int .i64 0), (.int .i64 0)], 26⟩]]) := hS
  have hE3 := hS3.enter
  obtain ⟨t_4, ht_4, hr⟩ := bindS hr
  refine q_do rfl fun _ hK => wp_callX (vs := [(.pointer (some ⟨b_p_c, 0, none⟩)), (.int .i64 6)]) hF Try.func99 (by kernel_rfl) rfl rfl rfl (c_spec_l1Cur_pick p_c 6 t_4 ht_4 _ m b_p_c s1 h1 _ hE3) fun a w _ hR hF => hK _ _ ?_
  obtain ⟨m3', s5, rfl, hm3, hR3, h5⟩ := hR
  have hS : St _ _ _ _ [[⟨b_p_c, [s5.v, (.int .i64 t_4.2.at_), (.int .u64 t_4.2.seed.v)], 103⟩], [⟨b2, [(.int .i64 0), (.int .i64 0), (.int .i64 0), (.int .i64 0)], 26⟩]] := hS3.leave hR3 hm3
  have hm3 := MLe.weakX hS3 hm3
  refine q_x (v := (.int .i64 (w64 (1 + t_4.1)))) hF hS (ex_ibin rfl rfl rfl) rfl rfl fun a hF => ?_
  refine q_x (v := (.int .i64 (w64 (1 + t_4.1)))) hF hS (ex_assign rfl) rfl rfl fun a hF => ?_
  refine q_end (n_sq ?_)
  refine q_seq ?_
  refine q_region ?_
  refine q_x (v := (.int .i64 (w64 (1 + t_4.1)))) hF hS (ex_move rfl) rfl rfl fun a hF => ?_
  refine q_x (v := (.pointer (some ⟨b_p_c, 0, none⟩))) hF hS (ex_move rfl) rfl rfl fun a hF => ?_
  have hS6 : St _ _ _ _ ([[⟨b_p_c, [s5.v, (.int .i64 t_4.2.at_), (.int .u64 t_4.2.seed.v)], 103⟩]] ++ [[⟨b2, [(.int .i64 0), (.int .i64 0), (.int .i64 0), (.int .i64 0)], 26⟩]]) := hS
  have hE6 := hS6.enter
  obtain ⟨t_7, ht_7, hr⟩ := bindS hr
  refine q_do rfl fun _ hK => wp_callX (vs := [(.pointer (some ⟨b_p_c, 0, none⟩)), (.int .i64 4)]) hF Try.func99 (by kernel_rfl) rfl rfl rfl (c_spec_l1Cur_pick t_4.2 4 t_7 ht_7 _ m3' b_p_c s5 h5 _ hE6) fun a w _ hR hF => hK _ _ ?_
  obtain ⟨m6', s8, rfl, hm6, hR6, h8⟩ := hR
  have hS : St _ _ _ _ [[⟨b_p_c, [s8.v, (.int .i64 t_7.2.at_), (.int .u64 t_7.2.seed.v)], 103⟩], [⟨b2, [(.int .i64 0), (.int .i64 0), (.int .i64 0), (.int .i64 0)], 26⟩]] := hS6.leave hR6 hm6
  have hm6 := MLe.weakX hS6 hm6
  refine q_x (v := (.int .i64 (w64 ((w64 (1 + t_4.1)) + t_7.1)))) hF hS (ex_ibin rfl rfl rfl) rfl rfl fun a hF => ?_
  refine q_x (v := (.int .i64 (w64 (1 + t_4.1)))) hF hS (ex_move rfl) rfl rfl fun a hF => ?_
  obtain ⟨t_9, ht_9, hr⟩ := bindS hr
  refine q_call (vs := [(.int .i64 (w64 ((w64 (1 + t_4.1)) + t_7.1))), (.int .i64 (w64 (1 + t_4.1)))]) hF hS Try.func117 (by kernel_rfl) rfl rfl rfl (c_spec_fMake (w64 ((w64 (1 + t_4.1)) + t_7.1)) (w64 (1 + t_4.1)) t_9 ht_9 _ m6' hS.vis) ?_
  rintro a w _ rfl hF hS
  refine q_x (v := (.tuple #[(.agg #[(.int .i64 t_9.1.Num), (.int .i64 t_9.1.Den)]), (.bool t_9.2)])) hF hS (ex_move rfl) rfl rfl fun a hF => ?_
  refine q_x (v := (.agg #[(.int .i64 t_9.1.Num), (.int .i64 t_9.1.Den)])) hF hS (ex_extract rfl rfl) rfl rfl fun a hF => ?_
  refine q_x (v := (.bool t_9.2)) hF hS (ex_extract rfl rfl) rfl rfl fun a hF => ?_
  refine q_alloc (cs := [(.int .i64 0), (.int .i64 0)]) hF hS rfl rfl rfl fun a w b10 hF hS => ?_
  refine q_store (vs := [(.int .i64 t_9.1.Num), (.int .i64 t_9.1.Den)]) (cs' := [(.int .i64 t_9.1.Num), (.int .i64 t_9.1.Den)]) 0 0 hF hS sz24 rfl rfl rfl rfl rfl rfl rfl rfl fun a w hF hS => ?_
  refine q_x (v := (.bool t_9.2)) hF hS (ex_assign rfl) rfl rfl fun a hF => ?_
  refine q_end (n_sq ?_)
  refine q_seq ?_
  refine q_region ?_
  refine q_x (v := (.pointer (some ⟨b_p_c, 0, none⟩))) hF hS (ex_move rfl) rfl rfl fun a hF => ?_
  have hS : St _ _ _ _ [[⟨b_p_c, [s8.v, (.int .i64 t_7.2.at_), (.int .u64 t_7.2.seed.v)], 103⟩], [⟨b10, [(.int .i64 t_9.1.Num), (.int .i64 t_9.1.Den)], 24⟩], [⟨b2, [(.int .i64 0), (.int .i64 0), (.int .i64 0), (.int .i64 0)], 26⟩]] := hS.sel [1, 0, 2] (by decide)
  have hS11 : St _ _ _ _ ([[⟨b_p_c, [s8.v, (.int .i64 t_7.2.at_), (.int .u64 t_7.2.seed.v)], 103⟩]] ++ [[⟨b10, [(.int .i64 t_9.1.Num), (.int .i64 t_9.1.Den)], 24⟩], [⟨b2, [(.int .i64 0), (.int .i64 0), (.int .i64 0), (.int .i64 0)], 26⟩]]) := hS
  have hE11 := hS11.enter
  obtain ⟨t_12, ht_12, hr⟩ := bindS hr
  refine q_do rfl fun _ hK => wp_callX (vs := [(.pointer (some ⟨b_p_c, 0, none⟩)), (.int .i64 5)]) hF Try.func99 (by kernel_rfl) rfl rfl rfl (c_spec_l1Cur_pick t_7.2 5 t_12 ht_12 _ m6' b_p_c s8 h8 _ hE11) fun a w _ hR hF => hK _ _ ?_
  obtain ⟨m11', s13, rfl, hm11, hR11, h13⟩ := hR
  have hS : St _ _ _ _ [[⟨b_p_c, [s13.v, (.int .i64 t_12.2.at_), (.int .u64 t_12.2.seed.v)], 103⟩], [⟨b10, [(.int .i64 t_9.1.Num), (.int .i64 t_9.1.Den)], 24⟩], [⟨b2, [(.int .i64 0), (.int .i64 0), (.int .i64 0), (.int .i64 0)], 26⟩]] := hS11.leave hR11 hm11
  have hm11 := MLe.weakX hS11 hm11
  refine q_x (v := (.pointer (some ⟨b_p_c, 0, none⟩))) hF hS (ex_move rfl) rfl rfl fun a hF => ?_
  have hS14 : St _ _ _ _ ([[⟨b_p_c, [s13.v, (.int .i64 t_12.2.at_), (.int .u64 t_12.2.seed.v)], 103⟩]] ++ [[⟨b10, [(.int .i64 t_9.1.Num), (.int .i64 t_9.1.Den)], 24⟩], [⟨b2, [(.int .i64 0), (.int .i64 0), (.int .i64 0), (.int .i64 0)], 26⟩]]) := hS
  have hE14 := hS14.enter
  obtain ⟨t_15, ht_15, hr⟩ := bindS hr
  refine q_do rfl fun _ hK => wp_callX (vs := [(.pointer (some ⟨b_p_c, 0, none⟩)), (.int .i64 8)]) hF Try.func99 (by kernel_rfl) rfl rfl rfl (c_spec_l1Cur_pick t_12.2 8 t_15 ht_15 _ m11' b_p_c s13 h13 _ hE14) fun a w _ hR hF => hK _ _ ?_
  obtain ⟨m14', s16, rfl, hm14, hR14, h16⟩ := hR
  have hS : St _ _ _ _ [[⟨b_p_c, [s16.v, (.int .i64 t_15.2.at_), (.int .u64 t_15.2.seed.v)], 103⟩], [⟨b10, [(.int .i64 t_9.1.Num), (.int .i64 t_9.1.Den)], 24⟩], [⟨b2, [(.int .i64 0), (.int .i64 0), (.int .i64 0), (.int .i64 0)], 26⟩]] := hS14.leave hR14 hm14
  have hm14 := MLe.weakX hS14 hm14
  refine q_x (v := (.int .i64 (w64 (1 + t_15.1)))) hF hS (ex_ibin rfl rfl rfl) rfl rfl fun a hF => ?_
  obtain ⟨t_17, ht_17, hr⟩ := bindS hr
  refine q_call (vs := [(.int .i64 t_12.1), (.int .i64 (w64 (1 + t_15.1)))]) hF hS Try.func117 (by kernel_rfl) rfl rfl rfl (c_spec_fMake t_12.1 (w64 (1 + t_15.1)) t_17 ht_17 _ m14' hS.vis) ?_
  rintro a w _ rfl hF hS
  refine q_x (v := (.tuple #[(.agg #[(.int .i64 t_17.1.Num), (.int .i64 t_17.1.Den)]), (.bool t_17.2)])) hF hS (ex_move rfl) rfl rfl fun a hF => ?_
  refine q_x (v := (.agg #[(.int .i64 t_17.1.Num), (.int .i64 t_17.1.Den)])) hF hS (ex_extract rfl rfl) rfl rfl fun a hF => ?_
  refine q_x (v := (.bool t_17.2)) hF hS (ex_extract rfl rfl) rfl rfl fun a hF => ?_
  refine q_alloc (cs := [(.int .i64 0), (.int .i64 0)]) hF hS rfl rfl rfl fun a w b18 hF hS => ?_
  refine q_store (vs := [(.int .i64 t_17.1.Num), (.int .i64 t_17.1.Den)]) (cs' := [(.int .i64 t_17.1.Num), (.int .i64 t_17.1.Den)]) 0 0 hF hS sz24 rfl rfl rfl rfl rfl rfl rfl rfl fun a w hF hS => ?_
  refine q_x (v := (.bool t_17.2)) hF hS (ex_assign rfl) rfl rfl fun a hF => ?_
  refine q_end (n_sq ?_)
  refine q_seq ?_
  refine q_region ?_
  refine q_x (v := (.agg #[(.int .i64 t_9.1.Num), (.int .i64 t_9.1.Den)])) hF hS (ex_loadA (vs := [(.int .i64 t_9.1.Num), (.int .i64 t_9.1.Den)]) 2 0 Try.underlying24 rfl sz24 rfl rfl rfl rfl) rfl rfl fun a hF => ?_
  refine q_x (v := (.agg #[(.int .i64 t_17.1.Num), (.int .i64 t_17.1.Den)])) hF hS (ex_loadA (vs := [(.int .i64 t_17.1.Num), (.int .i64 t_17.1.Den)]) 0 0 Try.underlying24 rfl sz24 rfl rfl rfl rfl) rfl rfl fun a hF => ?_
  refine q_x (v := (.agg #[(.int .i64 t_9.1.Num), (.int .i64 t_9.1.Den), (.int .i64 t_17.1.Num), (.int .i64 t_17.1.Den)])) hF hS (ex_build (cells := [(.int .i64 t_9.1.Num), (.int .i64 t_9.1.Den), (.int .i64 t_17.1.Num), (.int .i64 t_17.1.Den)]) rfl (by kernel_rfl)) rfl rfl fun a hF => ?_
  refine q_store (vs := [(.int .i64 t_9.1.Num), (.int .i64 t_9.1.Den), (.int .i64 t_17.1.Num), (.int .i64 t_17.1.Den)]) (cs' := [(.int .i64 t_9.1.Num), (.int .i64 t_9.1.Den), (.int .i64 t_17.1.Num), (.int .i64 t_17.1.Den)]) 3 0 hF hS sz26 rfl rfl rfl rfl rfl rfl rfl rfl fun a w hF hS => ?_
  refine q_end (n_sq (q_ret ?_))
  obtain rfl := someI hr
  exact ret_ofX hF hS rfl (.cellA (us := [(.int .i64 t_9.1.Num), (.int .i64 t_9.1.Den), (.int .i64 t_17.1.Num), (.int .i64 t_17.1.Den)]) 3 0 Try.underlying26 rfl sz26 rfl rfl rfl rfl .nil) ⟨m14', s16, rfl, (((hm3.trans hm6).trans hm11).trans hm14), hS.sel [1] (by decide), h16⟩

theorem c_spec_l1Cur_among (p_c : spec_l1Cur) (p_list : List Int) (r : Int × spec_l1Cur) (hr : spec_l1Cur_among p_c p_list = some r) (w0 : World) (m : Mem) (b_p_c : Nat) (s1 : Sl) (h1 : Rd m s1 p_c.code) (s2 : Sl) (h2 : Rd m s2 p_list) (X : List Nat) (hS : St X w0 w0 m [[⟨b_p_c, [s1.v, (.int .i64 p_c.at_), (.int .u64 p_c.seed.v)], 103⟩]]) :
    RetX Try.prog 100 [(.pointer (some ⟨b_p_c, 0, none⟩)), s2.v] w0 (fun v w => ∃ (m' : Mem) (s0' : Sl), v = (.int .i64 r.1) ∧ MLe X w0.heap.size m m' ∧ St X w0 w m' [[⟨b_p_c, [s0'.v, (.int .i64 r.2.at_), (.int .u64 r.2.seed.v)], 103⟩]] ∧ Rd m' s0' r.2.code) := by
  unfold spec_l1Cur_among at hr
  refine ret_startX Try.func100 rfl 12 rfl rfl fun a hF => ?_
  refine q_seq ?_
  refine q_region ?_
  refine q_x (v := (.int .i64 0)) hF hS (ex_assign rfl) rfl rfl fun a hF => ?_
  refine q_end (n_sq ?_)
  refine q_seq ?_
  refine q_region ?_
  refine q_x (v := s2.v) hF hS (ex_move rfl) rfl rfl fun a hF => ?_
  refine q_x (v := (.pointer (some ⟨b_p_c, 0, none⟩))) hF hS (ex_move rfl) rfl rfl fun a hF => ?_
  refine q_x (v := s2.v) hF hS (ex_move rfl) rfl rfl fun a hF => ?_
  refine q_x (v := (.int .i64 (goLen p_list))) hF hS (ex_len Try.underlying42 rfl h2.len) rfl rfl fun a hF => ?_
  have hS3 : St _ _ _ _ ([[⟨b_p_c, [s1.v, (.int .i64 p_c.at_), (.int .u64 p_c.seed.v)], 103⟩]] ++ []) := hS
  have hE3 := hS3.enter
  obtain ⟨t_4, ht_4, hr⟩ := bindS hr
  refine q_do rfl fun _ hK => wp_callX (vs := [(.pointer (some ⟨b_p_c, 0, none⟩)), (.int .i64 (goLen p_list))]) hF Try.func99 (by kernel_rfl) rfl rfl rfl (c_spec_l1Cur_pick p_c (goLen p_list) t_4 ht_4 _ m b_p_c s1 h1 _ hE3) fun a w _ hR hF => hK _ _ ?_
  obtain ⟨m3', s5, rfl, hm3, hR3, h5⟩ := hR
  have hS : St _ _ _ _ [[⟨b_p_c, [s5.v, (.int .i64 t_4.2.at_), (.int .u64 t_4.2.seed.v)], 103⟩]] := hS3.leave hR3 hm3
  have hm3 := MLe.weakX hS3 hm3
  obtain ⟨e_6, he_6, hr⟩ := bindS hr
  obtain ⟨vs7, at7, d7⟩ := (h2.mono hm3.le).at he_6 1 rfl
  obtain rfl : vs7 = [(.int .i64 e_6)] := d7
  refine q_x (v := (elP s2 (t_4.1.toNat * 1))) hF hS (ex_indexAddr Try.underlying42 sz3 rfl rfl ((h2.mono hm3.le).idx he_6)) rfl rfl fun a hF => ?_
  refine q_x (v := (.int .i64 e_6)) hF hS (ex_loadE1 0 Try.underlying3 rfl rfl ((at7).at) rfl rfl) rfl rfl fun a hF => ?_
  refine q_x (v := (.int .i64 e_6)) hF hS (ex_assign rfl) rfl rfl fun a hF => ?_
  refine q_end (n_sq (q_ret ?_))
  obtain rfl := someI hr
  exact ret_ofX hF hS rfl (.tmp rfl .nil) ⟨m3', s5, rfl, hm3, hS.sel [0] (by decide), h5⟩

theorem c_spec_l1Cur_frac (p_c : spec_l1Cur) (r : impl_Frac × spec_l1Cur) (hr : spec_l1Cur_frac p_c = some r) (w0 : World) (m : Mem) (b_p_c : Nat) (s1 : Sl) (h1 : Rd m s1 p_c.code) (X : List Nat) (hS : St X w0 w0 m [[⟨b_p_c, [s1.v, (.int .i64 p_c.at_), (.int .u64 p_c.seed.v)], 103⟩]]) :
    RetX Try.prog 162 [(.pointer (some ⟨b_p_c, 0, none⟩))] w0 (fun v w => ∃ (m' : Mem) (s0' : Sl), v = (.agg #[(.int .i64 r.1.Num), (.int .i64 r.1.Den)]) ∧ MLe X w0.heap.size m m' ∧ St X w0 w m' [[⟨b_p_c, [s0'.v, (.int .i64 r.2.at_), (.int .u64 r.2.seed.v)], 103⟩]] ∧ Rd m' s0' r.2.code) := by
  unfold spec_l1Cur_frac at hr
  refine ret_startX Try.func162 rfl 16 rfl rfl fun a hF => ?_
  refine q_seq ?_
  refine q_region ?_
  refine q_alloc (cs := [(.int .i64 0), (.int .i64 0)]) hF hS rfl rfl rfl fun a w b2 hF hS => ?_
  refine q_end (n_sq ?_)
  refine q_seq ?_
  refine q_region ?_
  refine q_x (v := (.pointer (some ⟨b_p_c, 0, none⟩))) hF hS (ex_move rfl) rfl rfl fun a hF => ?_
  have hS : St _ _ _ _ [[⟨b_p_c, [s1.v, (.int .i64 p_c.at_), (.int .u64 p_c.seed.v)], 103⟩], [⟨b2, [(.int .i64 0), (.int .i64 0)], 24⟩]] := hS.sel [1, 0] (by decide)
  have hS3 : St _ _ _ _ ([[⟨b_p_c, [s1.v, (.int .i64 p_c.at_), (.int .u64 p_c.seed.v)], 103⟩]] ++ [[⟨b2, [(.int .i64 0), (.int .i64 0)], 24⟩]]) := hS
  have hE3 := hS3.enter
  obtain ⟨t_4, ht_4, hr⟩ := bindS hr
  refine q_do rfl fun _ hK => wp_callX (vs := [(.pointer (some ⟨b_p_c, 0, none⟩)), (.int .i64 41)]) hF Try.func99 (by kernel_rfl) rfl rfl rfl (c_spec_l1Cur_pick p_c 41 t_4 ht_4 _ m b_p_c s1 h1 _ hE3) fun a w _ hR hF => hK _ _ ?_
  obtain ⟨m3', s5, rfl, hm3, hR3, h5⟩ := hR
  have hS : St _ _ _ _ [[⟨b_p_c, [s5.v, (.int .i64 t_4.2.at_), (.int .u64 t_4.2.seed.v)], 103⟩], [⟨b2, [(.int .i64 0), (.int .i64 0)], 24⟩]] := hS3.leave hR3 hm3
  have hm3 := MLe.weakX hS3 hm3
  refine q_x (v := (.int .i64 (w64 (t_4.1 - 20)))) hF hS (ex_ibin rfl rfl rfl) rfl rfl fun a hF => ?_
  refine q_x (v := (.pointer (some ⟨b_p_c, 0, none⟩))) hF hS (ex_move rfl) rfl rfl fun a hF => ?_
  have hS6 : St _ _ _ _ ([[⟨b_p_c, [s5.v, (.int .i64 t_4.2.at_), (.int .u64 t_4.2.seed.v)], 103⟩]] ++ [[⟨b2, [(.int .i64 0), (.int .i64 0)], 24⟩]]) := hS
  have hE6 := hS6.enter
  obtain ⟨t_7, ht_7, hr⟩ := bindS hr
  refine q_do rfl fun _ hK => wp_callX (vs := [(.pointer (some ⟨b_p_c, 0, none⟩)), (.int .i64 12)]) hF Try.func99 (by kernel_rfl) rfl rfl rfl (c_spec_l1Cur_pick t_4.2 12 t_7 ht_7 _ m3' b_p_c s5 h5 _ hE6) fun a w _ hR hF => hK _ _ ?_
  obtain ⟨m6', s8, rfl, hm6, hR6, h8⟩ := hR
  have hS : St _ _ _ _ [[⟨b_p_c, [s8.v, (.int .i64 t_7.2.at_), (.int .u64 t_7.2.seed.v)], 103⟩], [⟨b2, [(.int .i64 0), (.int .i64 0)], 24⟩]] := hS6.leave hR6 hm6
  have hm6 := MLe.weakX hS6 hm6
  refine q_x (v := (.int .i64 (w64 (1 + t_7.1)))) hF hS (ex_ibin rfl rfl rfl) rfl rfl fun a hF => ?_
  obtain ⟨t_9, ht_9, hr⟩ := bindS hr
  refine q_call (vs := [(.int .i64 (w64 (t_4.1 - 20))), (.int .i64 (w64 (1 + t_7.1)))]) hF hS Try.func117 (by kernel_rfl) rfl rfl rfl (c_spec_fMake (w64 (t_4.1 - 20)) (w64 (1 + t_7.1)) t_9 ht_9 _ m6' hS.vis) ?_
  rintro a w _ rfl hF hS
  refine q_x (v := (.tuple #[(.agg #[(.int .i64 t_9.1.Num), (.int .i64 t_9.1.Den)]), (.bool t_9.2)])) hF hS (ex_move rfl) rfl rfl fun a hF => ?_
  refine q_x (v := (.agg #[(.int .i64 t_9.1.Num), (.int .i64 t_9.1.Den)])) hF hS (ex_extract rfl rfl) rfl rfl fun a hF => ?_
  refine q_x (v := (.bool t_9.2)) hF hS (ex_extract rfl rfl) rfl rfl fun a hF => ?_
  refine q_alloc (cs := [(.int .i64 0), (.int .i64 0)]) hF hS rfl rfl rfl fun a w b10 hF hS => ?_
  refine q_store (vs := [(.int .i64 t_9.1.Num), (.int .i64 t_9.1.Den)]) (cs' := [(.int .i64 t_9.1.Num), (.int .i64 t_9.1.Den)]) 0 0 hF hS sz24 rfl rfl rfl rfl rfl rfl rfl rfl fun a w hF hS => ?_
  refine q_x (v := (.bool t_9.2)) hF hS (ex_assign rfl) rfl rfl fun a hF => ?_
  refine q_end (n_sq ?_)
  refine q_seq ?_
  refine q_region ?_
  refine q_x (v := (.agg #[(.int .i64 t_9.1.Num), (.int .i64 t_9.1.Den)])) hF hS (ex_loadA (vs := [(.int .i64 t_9.1.Num), (.int .i64 t_9.1.Den)]) 0 0 Try.underlying24 rfl sz24 rfl rfl rfl rfl) rfl rfl fun a hF => ?_
  refine q_store (vs := [(.int .i64 t_9.1.Num), (.int .i64 t_9.1.Den)]) (cs' := [(.int .i64 t_9.1.Num), (.int .i64 t_9.1.Den)]) 2 0 hF hS sz24 rfl rfl rfl rfl rfl rfl rfl rfl fun a w hF hS => ?_
  refine q_end (n_sq (q_ret ?_))
  obtain rfl := someI hr
  exact ret_ofX hF hS rfl (.cellA (us := [(.int .i64 t_9.1.Num), (.int .i64 t_9.1.Den)]) 2 0 Try.underlying24 rfl sz24 rfl rfl rfl rfl .nil) ⟨m6', s8, rfl, (hm3.trans hm6), hS.sel [1] (by decide), h8⟩

theorem c_spec_l1Cur_anyFrac (p_c : spec_l1Cur) (r : impl_Frac × spec_l1Cur) (hr : spec_l1Cur_anyFrac p_c = some r) (w0 : World) (m : Mem) (b_p_c : Nat) (s1 : Sl) (h1 : Rd m s1 p_c.code) (X : List Nat) (hS : St X w0 w0 m [[⟨b_p_c, [s1.v, (.int .i64 p_c.at_), (.int .u64 p_c.seed.v)], 103⟩]]) :
    RetX Try.prog 112 [(.pointer (some ⟨b_p_c, 0, none⟩))] w0 (fun v w => ∃ (m' : Mem) (s0' : Sl), v = (.agg #[(.int .i64 r.1.Num), (.int .i64 r.1.Den)]) ∧ MLe X w0.heap.size m m' ∧ St X w0 w m' [[⟨b_p_c, [s0'.v, (.int .i64 r.2.at_), (.int .u64 r.2.seed.v)], 103⟩]] ∧ Rd m' s0' r.2.code) := by
  unfold spec_l1Cur_anyFrac at hr
  refine ret_startX Try.func112 rfl 33 rfl rfl fun a hF => ?_
  refine q_seq ?_
  refine q_region ?_
  refine q_alloc (cs := [(.int .i64 0), (.int .i64 0)]) hF hS rfl rfl rfl fun a w b2 hF hS => ?_
  refine q_end (n_sq ?_)
  refine q_seq ?_
  refine q_seq ?_
  refine q_region ?_
  refine q_x (v := (.pointer (some ⟨b_p_c, 0, none⟩))) hF hS (ex_move rfl) rfl rfl fun a hF => ?_
  have hS : St _ _ _ _ [[⟨b_p_c, [s1.v, (.int .i64 p_c.at_), (.int .u64 p_c.seed.v)], 103⟩], [⟨b2, [(.int .i64 0), (.int .i64 0)], 24⟩]] := hS.sel [1, 0] (by decide)
  have hS3 : St _ _ _ _ ([[⟨b_p_c, [s1.v, (.int .i64 p_c.at_), (.int .u64 p_c.seed.v)], 103⟩]] ++ [[⟨b2, [(.int .i64 0), (.int .i64 0)], 24⟩]]) := hS
  have hE3 := hS3.enter
  obtain ⟨t_4, ht_4, hr⟩ := bindS hr
  refine q_do rfl fun _ hK => wp_callX (vs := [(.pointer (some ⟨b_p_c, 0, none⟩)), (.int .i64 16)]) hF Try.func99 (by kernel_rfl) rfl rfl rfl (c_spec_l1Cur_pick p_c 16 t_4 ht_4 _ m b_p_c s1 h1 _ hE3) fun a w _ hR hF => hK _ _ ?_
  obtain ⟨m3', s5, rfl, hm3, hR3, h5⟩ := hR
  have hS : St _ _ _ _ [[⟨b_p_c, [s5.v, (.int .i64 t_4.2.at_), (.int .u64 t_4.2.seed.v)], 103⟩], [⟨b2, [(.int .i64 0), (.int .i64 0)], 24⟩]] := hS3.leave hR3 hm3
  have hm3 := MLe.weakX hS3 hm3
  refine q_end (n_sq ?_)
  refine q_block ?_
  refine q_seq ?_
  refine q_region ?_
  refine q_x (v := (.bool (t_4.1 == 0))) hF hS (ex_ibin rfl rfl rfl) rfl rfl fun a hF => ?_
  refine q_x (v := (.bool (t_4.1 == 0))) hF hS (ex_assign rfl) rfl rfl fun a hF => ?_
  refine q_end (n_sq ?_)
  rcases bcase (t_4.1 == 0) with hc1 | hc1
  · have hr := cond_f hc1 hr
    refine q_cond_f hF rfl hc1 ?_
    refine q_seq ?_
    refine q_region ?_
    refine q_x (v := (.bool (t_4.1 == 1))) hF hS (ex_ibin rfl rfl rfl) rfl rfl fun a hF => ?_
    refine q_x (v := (.bool (t_4.1 == 1))) hF hS (ex_assign rfl) rfl rfl fun a hF => ?_
    refine q_end (n_sq ?_)
    rcases bcase (t_4.1 == 1) with hc2 | hc2
    · have hr := cond_f hc2 hr
      refine q_cond_f hF rfl hc2 ?_
      refine q_seq ?_
      refine q_region ?_
      refine q_x (v := (.bool (t_4.1 == 2))) hF hS (ex_ibin rfl rfl rfl) rfl rfl fun a hF => ?_
      refine q_x (v := (.bool (t_4.1 == 2))) hF hS (ex_assign rfl) rfl rfl fun a hF => ?_
      refine q_end (n_sq ?_)
      rcases bcase (t_4.1 == 2) with hc3 | hc3
      · have hr := cond_f hc3 hr
        refine q_cond_f hF rfl hc3 ?_
        refine q_skipc (n_ib (n_sq ?_))
        refine q_seq ?_
        refine q_region ?_
        refine q_x (v := (.pointer (some ⟨b_p_c, 0, none⟩))) hF hS (ex_move rfl) rfl rfl fun a hF => ?_
        have hS6 : St _ _ _ _ ([[⟨b_p_c, [s5.v, (.int .i64 t_4.2.at_), (.int .u64 t_4.2.seed.v)], 103⟩]] ++ [[⟨b2, [(.int .i64 0), (.int .i64 0)], 24⟩]]) := hS
        have hE6 := hS6.enter
        obtain ⟨t_7, ht_7, hr⟩ := bindS hr
        refine q_do rfl fun _ hK => wp_callX (vs := [(.pointer (some ⟨b_p_c, 0, none⟩))]) hF Try.func162 (by kernel_rfl) rfl rfl rfl (c_spec_l1Cur_frac t_4.2 t_7 ht_7 _ m3' b_p_c s5 h5 _ hE6) fun a w _ hR hF => hK _ _ ?_
        obtain ⟨m6', s8, rfl, hm6, hR6, h8⟩ := hR
        have hS : St _ _ _ _ [[⟨b_p_c, [s8.v, (.int .i64 t_7.2.at_), (.int .u64 t_7.2.seed.v)], 103⟩], [⟨b2, [(.int .i64 0), (.int .i64 0)], 24⟩]] := hS6.leave hR6 hm6
        have hm6 := MLe.weakX hS6 hm6
        refine q_store (vs := [(.int .i64 t_7.1.Num), (.int .i64 t_7.1.Den)]) (cs' := [(.int .i64 t_7.1.Num), (.int .i64 t_7.1.Den)]) 1 0 hF hS sz24 rfl rfl rfl rfl rfl rfl rfl rfl fun a w hF hS => ?_
        refine q_end (n_sq (q_ret ?_))
        obtain rfl := someI hr
        exact ret_ofX hF hS rfl (.cellA (us := [(.int .i64 t_7.1.Num), (.int .i64 t_7.1.Den)]) 1 0 Try.underlying24 rfl sz24 rfl rfl rfl rfl .nil) ⟨m6', s8, rfl, (hm3.trans hm6), hS.sel [0] (by decide), h8⟩
      · have hr := cond_t hc3 hr
        refine q_cond_t hF rfl hc3 ?_
        refine q_seq ?_
        refine q_region ?_
        refine q_x (v := (.pointer (some ⟨b_p_c, 0, none⟩))) hF hS (ex_move rfl) rfl rfl fun a hF => ?_
        have hS9 : St _ _ _ _ ([[⟨b_p_c, [s5.v, (.int .i64 t_4.2.at_), (.int .u64 t_4.2.seed.v)], 103⟩]] ++ [[⟨b2, [(.int .i64 0), (.int .i64 0)], 24⟩]]) := hS
        have hE9 := hS9.enter
        obtain ⟨t_10, ht_10, hr⟩ := bindS hr
        refine q_do rfl fun _ hK => wp_callX (vs := [(.pointer (some ⟨b_p_c, 0, none⟩)), (.int .i64 3)]) hF Try.func99 (by kernel_rfl) rfl rfl rfl (c_spec_l1Cur_pick t_4.2 3 t_10 ht_10 _ m3' b_p_c s5 h5 _ hE9) fun a w _ hR hF => hK _ _ ?_
        obtain ⟨m9', s11, rfl, hm9, hR9, h11⟩ := hR
        have hS : St _ _ _ _ [[⟨b_p_c, [s11.v, (.int .i64 t_10.2.at_), (.int .u64 t_10.2.seed.v)], 103⟩], [⟨b2, [(.int .i64 0), (.int .i64 0)], 24⟩]] := hS9.leave hR9 hm9
        have hm9 := MLe.weakX hS9 hm9
        refine q_x (v := (.pointer (some ⟨b_p_c, 0, none⟩))) hF hS (ex_move rfl) rfl rfl fun a hF => ?_
        refine q_do rfl fun _ hK => wp_buildSlice' (l := ([1000000000, 1000000001, 999999937] : List Int)) (cells := [(.int .i64 1000000000), (.int .i64 1000000001), (.int .i64 999999937)]) hF hS Try.underlying42 inf3 rfl rfl (by kernel_rfl) rfl rfl rfl ⟨rfl, rfl, rfl, rfl⟩ rfl rfl fun a w q12 s12 hF hS h12 _ => hK _ _ ?_
        obtain ⟨m13, hm13, hS, hz13⟩ := hS.freeze
        have h13 := h12.froz hm13.le hz13
        have hS14 : St _ _ _ _ ([[⟨b_p_c, [s11.v, (.int .i64 t_10.2.at_), (.int .u64 t_10.2.seed.v)], 103⟩]] ++ [[⟨b2, [(.int .i64 0), (.int .i64 0)], 24⟩]]) := hS
        have hE14 := hS14.enter
        obtain ⟨t_15, ht_15, hr⟩ := bindS hr
        refine q_do rfl fun _ hK => wp_callX (vs := [(.pointer (some ⟨b_p_c, 0, none⟩)), s12.v]) hF Try.func100 (by kernel_rfl) rfl rfl rfl (c_spec_l1Cur_among t_10.2 ([1000000000, 1000000001, 999999937] : List Int) t_15 ht_15 _ m13 b_p_c s11 (h11.mono hm13.le) s12 h13 _ hE14) fun a w _ hR hF => hK _ _ ?_
        obtain ⟨m14', s16, rfl, hm14, hR14, h16⟩ := hR
        have hS : St _ _ _ _ [[⟨b_p_c, [s16.v, (.int .i64 t_15.2.at_), (.int .u64 t_15.2.seed.v)], 103⟩], [⟨b2, [(.int .i64 0), (.int .i64 0)], 24⟩]] := hS14.leave hR14 hm14
        have hm14 := MLe.weakX hS14 hm14
        refine q_x (v := (.agg #[(.int .i64 t_10.1), (.int .i64 t_15.1)])) hF hS (ex_build (cells := [(.int .i64 t_10.1), (.int .i64 t_15.1)]) rfl (by kernel_rfl)) rfl rfl fun a hF => ?_
        refine q_store (vs := [(.int .i64 t_10.1), (.int .i64 t_15.1)]) (cs' := [(.int .i64 t_10.1), (.int .i64 t_15.1)]) 1 0 hF hS sz24 rfl rfl rfl rfl rfl rfl rfl rfl fun a w hF hS => ?_
        refine q_end (n_sq (q_ret (r_ib (r_sq ?_))))
        obtain rfl := someI hr
        exact ret_ofX hF hS rfl (.cellA (us := [(.int .i64 t_10.1), (.int .i64 t_15.1)]) 1 0 Try.underlying24 rfl sz24 rfl rfl rfl rfl .nil) ⟨m14', s16, rfl, (((hm3.trans hm9).trans hm13).trans hm14), hS.sel [0] (by decide), h16⟩
    · have hr := cond_t hc2 hr
      refine q_cond_t hF rfl hc2 ?_
      refine q_seq ?_
      refine q_region ?_
      refine q_x (v := (.pointer (some ⟨b_p_c, 0, none⟩))) hF hS (ex_move rfl) rfl rfl fun a hF => ?_
      have hS17 : St _ _ _ _ ([[⟨b_p_c, [s5.v, (.int .i64 t_4.2.at_), (.int .u64 t_4.2.seed.v)], 103⟩]] ++ [[⟨b2, [(.int .i64 0), (.int .i64 0)], 24⟩]]) := hS
      have hE17 := hS17.enter
      obtain ⟨t_18, ht_18, hr⟩ := bindS hr
      refine q_do rfl fun _ hK => wp_callX (vs := [(.pointer (some ⟨b_p_c, 0, none⟩)), (.int .i64 9)]) hF Try.func99 (by kernel_rfl) rfl rfl rfl (c_spec_l1Cur_pick t_4.2 9 t_18 ht_18 _ m3' b_p_c s5 h5 _ hE17) fun a w _ hR hF => hK _ _ ?_
      obtain ⟨m17', s19, rfl, hm17, hR17, h19⟩ := hR
      have hS : St _ _ _ _ [[⟨b_p_c, [s19.v, (.int .i64 t_18.2.at_), (.int .u64 t_18.2.seed.v)], 103⟩], [⟨b2, [(.int .i64 0), (.int .i64 0)], 24⟩]] := hS17.leave hR17 hm17
      have hm17 := MLe.weakX hS17 hm17
      refine q_x (v := (.int .i64 (w64 (t_18.1 - 4)))) hF hS (ex_ibin rfl rfl rfl) rfl rfl fun a hF => ?_
      refine q_x (v := (.pointer (some ⟨b_p_c, 0, none⟩))) hF hS (ex_move rfl) rfl rfl fun a hF => ?_
      have hS20 : St _ _ _ _ ([[⟨b_p_c, [s19.v, (.int .i64 t_18.2.at_), (.int .u64 t_18.2.seed.v)], 103⟩]] ++ [[⟨b2, [(.int .i64 0), (.int .i64 0)], 24⟩]]) := hS
      have hE20 := hS20.enter
      obtain ⟨t_21, ht_21, hr⟩ := bindS hr
      refine q_do rfl fun _ hK => wp_callX (vs := [(.pointer (some ⟨b_p_c, 0, none⟩)), (.int .i64 7)]) hF Try.func99 (by kernel_rfl) rfl rfl rfl (c_spec_l1Cur_pick t_18.2 7 t_21 ht_21 _ m17' b_p_c s19 h19 _ hE20) fun a w _ hR hF => hK _ _ ?_
      obtain ⟨m20', s22, rfl, hm20, hR20, h22⟩ := hR
      have hS : St _ _ _ _ [[⟨b_p_c, [s22.v, (.int .i64 t_21.2.at_), (.int .u64 t_21.2.seed.v)], 103⟩], [⟨b2, [(.int .i64 0), (.int .i64 0)], 24⟩]] := hS20.leave hR20 hm20
      have hm20 := MLe.weakX hS20 hm20
      refine q_x (v := (.int .i64 (w64 (t_21.1 - 1)))) hF hS (ex_ibin rfl rfl rfl) rfl rfl fun a hF => ?_
      refine q_x (v := (.agg #[(.int .i64 (w64 (t_18.1 - 4))), (.int .i64 (w64 (t_21.1 - 1)))])) hF hS (ex_build (cells := [(.int .i64 (w64 (t_18.1 - 4))), (.int .i64 (w64 (t_21.1 - 1)))]) rfl (by kernel_rfl)) rfl rfl fun a hF => ?_
      refine q_store (vs := [(.int .i64 (w64 (t_18.1 - 4))), (.int .i64 (w64 (t_21.1 - 1)))]) (cs' := [(.int .i64 (w64 (t_18.1 - 4))), (.int .i64 (w64 (t_21.1 - 1)))]) 1 0 hF hS sz24 rfl rfl rfl rfl rfl rfl rfl rfl fun a w hF hS => ?_
      refine q_end (n_sq (q_ret (r_ib (r_sq ?_))))
      obtain rfl := someI hr
      exact ret_ofX hF hS rfl (.cellA (us := [(.int .i64 (w64 (t_18.1 - 4))), (.int .i64 (w64 (t_21.1 - 1)))]) 1 0 Try.underlying24 rfl sz24 rfl rfl rfl rfl .nil) ⟨m20', s22, rfl, ((hm3.trans hm17).trans hm20), hS.sel [0] (by decide), h22⟩
  · have hr := cond_t hc1 hr
    refine q_cond_t hF rfl hc1 ?_
    refine q_seq ?_
    refine q_region ?_
    refine q_x (v := (.pointer (some ⟨b_p_c, 0, none⟩))) hF hS (ex_move rfl) rfl rfl fun a hF => ?_
    refine q_do rfl fun _ hK => wp_buildSlice' (l := ([1000000000, -1000000000, 999999999, 1000000001] : List Int)) (cells := [(.int .i64 1000000000), (.int .i64 (-1000000000)), (.int .i64 999999999), (.int .i64 1000000001)]) hF hS Try.underlying42 inf3 rfl rfl (by kernel_rfl) rfl rfl rfl ⟨rfl, rfl, rfl, rfl, rfl⟩ rfl rfl fun a w q23 s23 hF hS h23 _ => hK _ _ ?_
    obtain ⟨m24, hm24, hS, hz24⟩ := hS.freeze
    have h24 := h23.froz hm24.le hz24
    have hS25 : St _ _ _ _ ([[⟨b_p_c, [s5.v, (.int .i64 t_4.2.at_), (.int .u64 t_4.2.seed.v)], 103⟩]] ++ [[⟨b2, [(.int .i64 0), (.int .i64 0)], 24⟩]]) := hS
    have hE25 := hS25.enter
    obtain ⟨t_26, ht_26, hr⟩ := bindS hr
    refine q_do rfl fun _ hK => wp_callX (vs := [(.pointer (some ⟨b_p_c, 0, none⟩)), s23.v]) hF Try.func100 (by kernel_rfl) rfl rfl rfl (c_spec_l1Cur_among t_4.2 ([1000000000, -1000000000, 999999999, 1000000001] : List Int) t_26 ht_26 _ m24 b_p_c s5 (h5.mono hm24.le) s23 h24 _ hE25) fun a w _ hR hF => hK _ _ ?_
    obtain ⟨m25', s27, rfl, hm25, hR25, h27⟩ := hR
    have hS : St _ _ _ _ [[⟨b_p_c, [s27.v, (.int .i64 t_26.2.at_), (.int .u64 t_26.2.seed.v)], 103⟩], [⟨b2, [(.int .i64 0), (.int .i64 0)], 24⟩]] := hS25.leave hR25 hm25
    have hm25 := MLe.weakX hS25 hm25
    refine q_x (v := (.pointer (some ⟨b_p_c, 0, none⟩))) hF hS (ex_move rfl) rfl rfl fun a hF => ?_
    refine q_do rfl fun _ hK => wp_buildSlice' (l := ([1, 7, 999999999, 999999937] : List Int)) (cells := [(.int .i64 1), (.int .i64 7), (.int .i64 999999999), (.int .i64 999999937)]) hF hS Try.underlying42 inf3 rfl rfl (by kernel_rfl) rfl rfl rfl ⟨rfl, rfl, rfl, rfl, rfl⟩ rfl rfl fun a w q28 s28 hF hS h28 _ => hK _ _ ?_
    obtain ⟨m29, hm29, hS, hz29⟩ := hS.freeze
    have h29 := h28.froz hm29.le hz29
    have hS30 : St _ _ _ _ ([[⟨b_p_c, [s27.v, (.int .i64 t_26.2.at_), (.int .u64 t_26.2.seed.v)], 103⟩]] ++ [[⟨b2, [(.int .i64 0), (.int .i64 0)], 24⟩]]) := hS
    have hE30 := hS30.enter
    obtain ⟨t_31, ht_31, hr⟩ := bindS hr
    refine q_do rfl fun _ hK => wp_callX (vs := [(.pointer (some ⟨b_p_c, 0, none⟩)), s28.v]) hF Try.func100 (by kernel_rfl) rfl rfl rfl (c_spec_l1Cur_among t_26.2 ([1, 7, 999999999, 999999937] : List Int) t_31 ht_31 _ m29 b_p_c s27 (h27.mono hm29.le) s28 h29 _ hE30) fun a w _ hR hF => hK _ _ ?_
    obtain ⟨m30', s32, rfl, hm30, hR30, h32⟩ := hR
    have hS : St _ _ _ _ [[⟨b_p_c, [s32.v, (.int .i64 t_31.2.at_), (.int .u64 t_31.2.seed.v)], 103⟩], [⟨b2, [(.int .i64 0), (.int .i64 0)], 24⟩]] := hS30.leave hR30 hm30
    have hm30 := MLe.weakX hS30 hm30
    refine q_x (v := (.agg #[(.int .i64 t_26.1), (.int .i64 t_31.1)])) hF hS (ex_build (cells := [(.int .i64 t_26.1), (.int .i64 t_31.1)]) rfl (by kernel_rfl)) rfl rfl fun a hF => ?_
    refine q_store (vs := [(.int .i64 t_26.1), (.int .i64 t_31.1)]) (cs' := [(.int .i64 t_26.1), (.int .i64 t_31.1)]) 1 0 hF hS sz24 rfl rfl rfl rfl rfl rfl rfl rfl fun a w hF hS => ?_
    refine q_end (n_sq (q_ret (r_ib (r_sq ?_))))
    obtain rfl := someI hr
    exact ret_ofX hF hS rfl (.cellA (us := [(.int .i64 t_26.1), (.int .i64 t_31.1)]) 1 0 Try.underlying24 rfl sz24 rfl rfl rfl rfl .nil) ⟨m30', s32, rfl, ((((hm3.trans hm24).trans hm25).trans hm29).trans hm30), hS.sel [0] (by decide), h32⟩

theorem c_spec_l1Cur_anyLoss (p_c : spec_l1Cur) (r : impl_Loss × spec_l1Cur) (hr : spec_l1Cur_anyLoss p_c = some r) (w0 : World) (m : Mem) (b_p_c : Nat) (s1 : Sl) (h1 : Rd m s1 p_c.code) (X : List Nat) (hS : St X w0 w0 m [[⟨b_p_c, [s1.v, (.int .i64 p_c.at_), (.int .u64 p_c.seed.v)], 103⟩]]) :
    RetX Try.prog 89 [(.pointer (some ⟨b_p_c, 0, none⟩))] w0 (fun v w => ∃ (m' : Mem) (s0' : Sl), v = (.agg #[(.int .i64 r.1.Ratio.Num), (.int .i64 r.1.Ratio.Den), (.int .i64 r.1.Rho.Num), (.int .i64 r.1.Rho.Den)]) ∧ MLe X w0.heap.size m m' ∧ St X w0 w m' [[⟨b_p_c, [s0'.v, (.int .i64 r.2.at_), (.int .u64 r.2.seed.v)], 103⟩]] ∧ Rd m' s0' r.2.code) := by
  unfold spec_l1Cur_anyLoss at hr
  refine ret_startX Try.func89 rfl 26 rfl rfl fun a hF => ?_
  refine q_seq ?_
  refine q_region ?_
  refine q_alloc (cs := [(.int .i64 0), (.int .i64 0), (.int .i64 0), (.int .i64 0)]) hF hS rfl rfl rfl fun a w b2 hF hS => ?_
  refine q_end (n_sq ?_)
  refine q_seq ?_
  refine q_region ?_
  refine q_x (v := (.pointer (some ⟨b_p_c, 0, none⟩))) hF hS (ex_move rfl) rfl rfl fun a hF => ?_
  have hS : St _ _ _ _ [[⟨b_p_c, [s1.v, (.int .i64 p_c.at_), (.int .u64 p_c.seed.v)], 103⟩], [⟨b2, [(.int .i64 0), (.int .i64 0), (.int .i64 0), (.int .i64 0)], 26⟩]] := hS.sel [1, 0] (by decide)
  have hS3 : St _ _ _ _ ([[⟨b_p_c, [s1.v, (.int .i64 p_c.at_), (.int .u64 p_c.seed.v)], 103⟩]] ++ [[⟨b2, [(.int .i64 0), (.int .i64 0), (.int .i64 0), (.int .i64 0)], 26⟩]]) := hS
  have hE3 := hS3.enter
  obtain ⟨t_4, ht_4, hr⟩ := bindS hr
  refine q_do rfl fun _ hK => wp_callX (vs := [(.pointer (some ⟨b_p_c, 0, none⟩))]) hF Try.func101 (by kernel_rfl) rfl rfl rfl (c_spec_l1Cur_loss p_c t_4 ht_4 _ m b_p_c s1 h1 _ hE3) fun a w _ hR hF => hK _ _ ?_
  obtain ⟨m3', s5, rfl, hm3, hR3, h5⟩ := hR
  have hS : St _ _ _ _ [[⟨b_p_c, [s5.v, (.int .i64 t_4.2.at_), (.int .u64 t_4.2.seed.v)], 103⟩], [⟨b2, [(.int .i64 0), (.int .i64 0), (.int .i64 0), (.int .i64 0)], 26⟩]] := hS3.leave hR3 hm3
  have hm3 := MLe.weakX hS3 hm3
  refine q_alloc (cs := [(.int .i64 0), (.int .i64 0), (.int .i64 0), (.int .i64 0)]) hF hS rfl rfl rfl fun a w b6 hF hS => ?_
  refine q_store (vs := [(.int .i64 t_4.1.Ratio.Num), (.int .i64 t_4.1.Ratio.Den), (.int .i64 t_4.1.Rho.Num), (.int .i64 t_4.1.Rho.Den)]) (cs' := [(.int .i64 t_4.1.Ratio.Num), (.int .i64 t_4.1.Ratio.Den), (.int .i64 t_4.1.Rho.Num), (.int .i64 t_4.1.Rho.Den)]) 0 0 hF hS sz26 rfl rfl rfl rfl rfl rfl rfl rfl fun a w hF hS => ?_
  refine q_end (n_sq ?_)
  refine q_seq ?_
  refine q_seq ?_
  refine q_region ?_
  refine q_x (v := (.pointer (some ⟨b_p_c, 0, none⟩))) hF hS (ex_move rfl) rfl rfl fun a hF => ?_
  have hS : St _ _ _ _ [[⟨b_p_c, [s5.v, (.int .i64 t_4.2.at_), (.int .u64 t_4.2.seed.v)], 103⟩], [⟨b6, [(.int .i64 t_4.1.Ratio.Num), (.int .i64 t_4.1.Ratio.Den), (.int .i64 t_4.1.Rho.Num), (.int .i64 t_4.1.Rho.Den)], 26⟩], [⟨b2, [(.int .i64 0), (.int .i64 0), (.int .i64 0), (.int .i64 0)], 26⟩]] := hS.sel [1, 0, 2] (by decide)
  have hS7 : St _ _ _ _ ([[⟨b_p_c, [s5.v, (.int .i64 t_4.2.at_), (.int .u64 t_4.2.seed.v)], 103⟩]] ++ [[⟨b6, [(.int .i64 t_4.1.Ratio.Num), (.int .i64 t_4.1.Ratio.Den), (.int .i64 t_4.1.Rho.Num), (.int .i64 t_4.1.Rho.Den)], 26⟩], [⟨b2, [(.int .i64 0), (.int .i64 0), (.int .i64 0), (.int .i64 0)], 26⟩]]) := hS
  have hE7 := hS7.enter
  obtain ⟨t_8, ht_8, hr⟩ := bindS hr
  refine q_do rfl fun _ hK => wp_callX (vs := [(.pointer (some ⟨b_p_c, 0, none⟩)), (.int .i64 20)]) hF Try.func99 (by kernel_rfl) rfl rfl rfl (c_spec_l1Cur_pick t_4.2 20 t_8 ht_8 _ m3' b_p_c s5 h5 _ hE7) fun a w _ hR hF => hK _ _ ?_
  obtain ⟨m7', s9, rfl, hm7, hR7, h9⟩ := hR
  have hS : St _ _ _ _ [[⟨b_p_c, [s9.v, (.int .i64 t_8.2.at_), (.int .u64 t_8.2.seed.v)], 103⟩], [⟨b6, [(.int .i64 t_4.1.Ratio.Num), (.int .i64 t_4.1.Ratio.Den), (.int .i64 t_4.1.Rho.Num), (.int .i64 t_4.1.Rho.Den)], 26⟩], [⟨b2, [(.int .i64 0), (.int .i64 0), (.int .i64 0), (.int .i64 0)], 26⟩]] := hS7.leave hR7 hm7
  have hm7 := MLe.weakX hS7 hm7
  refine q_end (n_sq ?_)
  refine q_block ?_
  refine q_seq ?_
  refine q_region ?_
  refine q_x (v := (.bool (t_8.1 == 0))) hF hS (ex_ibin rfl rfl rfl) rfl rfl fun a hF => ?_
  refine q_x (v := (.bool (t_8.1 == 0))) hF hS (ex_assign rfl) rfl rfl fun a hF => ?_
  refine q_end (n_sq ?_)
  obtain ⟨j1, hj1, hr⟩ := bindS hr
  refine q_join (fun a w => ∃ (m32 : Mem), ∃ (s30 : Sl), ∃ p_c_29, ∃ x_31, j1 = (p_c_29, x_31) ∧ Fr a 26 [(2, (.pointer (some ⟨b2, 0, none⟩))), (3, (.pointer (some ⟨b6, 0, none⟩)))] ∧ St X w0 w m32 [[⟨b_p_c, [s30.v, (.int .i64 p_c_29.at_), (.int .u64 p_c_29.seed.v)], 103⟩], [⟨b6, [(.int .i64 x_31.Ratio.Num), (.int .i64 x_31.Ratio.Den), (.int .i64 x_31.Rho.Num), (.int .i64 x_31.Rho.Den)], 26⟩], [⟨b2, [(.int .i64 0), (.int .i64 0), (.int .i64 0), (.int .i64 0)], 26⟩]] ∧ MLe X w0.heap.size m7' m32 ∧ Rd m32 s30 p_c_29.code) ?_ ?_
  · rcases bcase (t_8.1 == 0) with hc2 | hc2
    · have hj1 := cond_f hc2 hj1
      refine q_cond_f hF rfl hc2 ?_
      refine q_seq ?_
      refine q_region ?_
      refine q_x (v := (.bool (t_8.1 == 1))) hF hS (ex_ibin rfl rfl rfl) rfl rfl fun a hF => ?_
      refine q_x (v := (.bool (t_8.1 == 1))) hF hS (ex_assign rfl) rfl rfl fun a hF => ?_
      refine q_end (n_sq ?_)
      obtain ⟨j3, hj3, hj1⟩ := bindS hj1
      refine q_join (fun a w => ∃ (m25 : Mem), ∃ (s23 : Sl), ∃ p_c_22, ∃ x_24, j3 = (p_c_22, x_24) ∧ Fr a 26 [(2, (.pointer (some ⟨b2, 0, none⟩))), (3, (.pointer (some ⟨b6, 0, none⟩)))] ∧ St X w0 w m25 [[⟨b_p_c, [s23.v, (.int .i64 p_c_22.at_), (.int .u64 p_c_22.seed.v)], 103⟩], [⟨b6, [(.int .i64 x_24.Ratio.Num), (.int .i64 x_24.Ratio.Den), (.int .i64 x_24.Rho.Num), (.int .i64 x_24.Rho.Den)], 26⟩], [⟨b2, [(.int .i64 0), (.int .i64 0), (.int .i64 0), (.int .i64 0)], 26⟩]] ∧ MLe X w0.heap.size m7' m25 ∧ Rd m25 s23 p_c_22.code) ?_ ?_
      · rcases bcase (t_8.1 == 1) with hc4 | hc4
        · have hj3 := cond_f hc4 hj3
          refine q_cond_f hF rfl hc4 ?_
          refine q_seq ?_
          refine q_region ?_
          refine q_x (v := (.bool (t_8.1 == 2))) hF hS (ex_ibin rfl rfl rfl) rfl rfl fun a hF => ?_
          refine q_x (v := (.bool (t_8.1 == 2))) hF hS (ex_assign rfl) rfl rfl fun a hF => ?_
          refine q_end (n_sq ?_)
          obtain ⟨j5, hj5, hj3⟩ := bindS hj3
          refine q_join (fun a w => ∃ (m18 : Mem), ∃ (s16 : Sl), ∃ p_c_15, ∃ x_17, j5 = (p_c_15, x_17) ∧ Fr a 26 [(2, (.pointer (some ⟨b2, 0, none⟩))), (3, (.pointer (some ⟨b6, 0, none⟩)))] ∧ St X w0 w m18 [[⟨b_p_c, [s16.v, (.int .i64 p_c_15.at_), (.int .u64 p_c_15.seed.v)], 103⟩], [⟨b6, [(.int .i64 x_17.Ratio.Num), (.int .i64 x_17.Ratio.Den), (.int .i64 x_17.Rho.Num), (.int .i64 x_17.Rho.Den)], 26⟩], [⟨b2, [(.int .i64 0), (.int .i64 0), (.int .i64 0), (.int .i64 0)], 26⟩]] ∧ MLe X w0.heap.size m7' m18 ∧ Rd m18 s16 p_c_15.code) ?_ ?_
          · rcases bcase (t_8.1 == 2) with hc6 | hc6
            · have hj5 := cond_f hc6 hj5
              refine q_cond_f hF rfl hc6 ?_
              refine q_skipc (n_jn ?_)
              obtain rfl := someI hj5
              exact ⟨m7', s9, _, _, rfl, hF.sub ⟨rfl, rfl, trivial⟩, hS, (MLe.refl _ _), h9⟩
            · have hj5 := cond_t hc6 hj5
              refine q_cond_t hF rfl hc6 ?_
              refine q_region ?_
              refine q_x (v := (.pointer (some ⟨b_p_c, 0, none⟩))) hF hS (ex_move rfl) rfl rfl fun a hF => ?_
              refine q_do rfl fun _ hK => wp_buildSlice' (l := ([1, 999999937] : List Int)) (cells := [(.int .i64 1), (.int .i64 999999937)]) hF hS Try.underlying42 inf3 rfl rfl (by kernel_rfl) rfl rfl rfl ⟨rfl, rfl, rfl⟩ rfl rfl fun a w q10 s10 hF hS h10 _ => hK _ _ ?_
              obtain ⟨m11, hm11, hS, hz11⟩ := hS.freeze
              have h11 := h10.froz hm11.le hz11
              have hS12 : St _ _ _ _ ([[⟨b_p_c, [s9.v, (.int .i64 t_8.2.at_), (.int .u64 t_8.2.seed.v)], 103⟩]] ++ [[⟨b6, [(.int .i64 t_4.1.Ratio.Num), (.int .i64 t_4.1.Ratio.Den), (.int .i64 t_4.1.Rho.Num), (.int .i64 t_4.1.Rho.Den)], 26⟩], [⟨b2, [(.int .i64 0), (.int .i64 0), (.int .i64 0), (.int .i64 0)], 26⟩]]) := hS
              have hE12 := hS12.enter
              obtain ⟨t_13, ht_13, hj5⟩ := bindS hj5
              refine q_do rfl fun _ hK => wp_callX (vs := [(.pointer (some ⟨b_p_c, 0, none⟩)), s10.v]) hF Try.func100 (by kernel_rfl) rfl rfl rfl (c_spec_l1Cur_among t_8.2 ([1, 999999937] : List Int) t_13 ht_13 _ m11 b_p_c s9 (h9.mono hm11.le) s10 h11 _ hE12) fun a w _ hR hF => hK _ _ ?_
              obtain ⟨m12', s14, rfl, hm12, hR12, h14⟩ := hR
              have hS : St _ _ _ _ [[⟨b_p_c, [s14.v, (.int .i64 t_13.2.at_), (.int .u64 t_13.2.seed.v)], 103⟩], [⟨b6, [(.int .i64 t_4.1.Ratio.Num), (.int .i64 t_4.1.Ratio.Den), (.int .i64 t_4.1.Rho.Num), (.int .i64 t_4.1.Rho.Den)], 26⟩], [⟨b2, [(.int .i64 0), (.int .i64 0), (.int .i64 0), (.int .i64 0)], 26⟩]] := hS12.leave hR12 hm12
              have hm12 := MLe.weakX hS12 hm12
              refine q_x (v := (.agg #[(.int .i64 1000000000), (.int .i64 t_13.1)])) hF hS (ex_build (cells := [(.int .i64 1000000000), (.int .i64 t_13.1)]) rfl (by kernel_rfl)) rfl rfl fun a hF => ?_
              refine q_x (v := (.pointer (some ⟨b6, 0, none⟩))) hF hS (ex_fieldAddr Try.underlying26 rfl sz24 rfl rfl) rfl rfl fun a hF => ?_
              refine q_store (vs := [(.int .i64 1000000000), (.int .i64 t_13.1)]) (cs' := [(.int .i64 1000000000), (.int .i64 t_13.1), (.int .i64 t_4.1.Rho.Num), (.int .i64 t_4.1.Rho.Den)]) 1 0 hF hS sz24 rfl rfl rfl rfl rfl rfl rfl rfl fun a w hF hS => ?_
              refine q_end (n_jn ?_)
              obtain rfl := someI hj5
              exact ⟨m12', s14, _, _, rfl, hF.sub ⟨rfl, rfl, trivial⟩, hS, (hm11.trans hm12), h14⟩
          · rintro a w ⟨m18, s16, p_c_15, x_17, rfl, hF, hS, hm18, h16⟩
            refine n_jn ?_
            obtain rfl := someI hj3
            exact ⟨m18, s16, _, _, rfl, hF.sub ⟨rfl, rfl, trivial⟩, hS, hm18, h16⟩
        · have hj3 := cond_t hc4 hj3
          refine q_cond_t hF rfl hc4 ?_
          refine q_region ?_
          refine q_x (v := (.pointer (some ⟨b_p_c, 0, none⟩))) hF hS (ex_move rfl) rfl rfl fun a hF => ?_
          have hS19 : St _ _ _ _ ([[⟨b_p_c, [s9.v, (.int .i64 t_8.2.at_), (.int .u64 t_8.2.seed.v)], 103⟩]] ++ [[⟨b6, [(.int .i64 t_4.1.Ratio.Num), (.int .i64 t_4.1.Ratio.Den), (.int .i64 t_4.1.Rho.Num), (.int .i64 t_4.1.Rho.Den)], 26⟩], [⟨b2, [(.int .i64 0), (.int .i64 0), (.int .i64 0), (.int .i64 0)], 26⟩]]) := hS
          have hE19 := hS19.enter
          obtain ⟨t_20, ht_20, hj3⟩ := bindS hj3
          refine q_do rfl fun _ hK => wp_callX (vs := [(.pointer (some ⟨b_p_c, 0, none⟩))]) hF Try.func112 (by kernel_rfl) rfl rfl rfl (c_spec_l1Cur_anyFrac t_8.2 t_20 ht_20 _ m7' b_p_c s9 h9 _ hE19) fun a w _ hR hF => hK _ _ ?_
          obtain ⟨m19', s21, rfl, hm19, hR19, h21⟩ := hR
          have hS : St _ _ _ _ [[⟨b_p_c, [s21.v, (.int .i64 t_20.2.at_), (.int .u64 t_20.2.seed.v)], 103⟩], [⟨b6, [(.int .i64 t_4.1.Ratio.Num), (.int .i64 t_4.1.Ratio.Den), (.int .i64 t_4.1.Rho.Num), (.int .i64 t_4.1.Rho.Den)], 26⟩], [⟨b2, [(.int .i64 0), (.int .i64 0), (.int .i64 0), (.int .i64 0)], 26⟩]] := hS19.leave hR19 hm19
          have hm19 := MLe.weakX hS19 hm19
          refine q_x (v := (.pointer (some ⟨b6, 2, none⟩))) hF hS (ex_fieldAddr Try.underlying26 rfl sz24 rfl rfl) rfl rfl fun a hF => ?_
          refine q_store (vs := [(.int .i64 t_20.1.Num), (.int .i64 t_20.1.Den)]) (cs' := [(.int .i64 t_4.1.Ratio.Num), (.int .i64 t_4.1.Ratio.Den), (.int .i64 t_20.1.Num), (.int .i64 t_20.1.Den)]) 1 0 hF hS sz24 rfl rfl rfl rfl rfl rfl rfl rfl fun a w hF hS => ?_
          refine q_end (n_jn ?_)
          obtain rfl := someI hj3
          exact ⟨m19', s21, _, _, rfl, hF.sub ⟨rfl, rfl, trivial⟩, hS, hm19, h21⟩
      · rintro a w ⟨m25, s23, p_c_22, x_24, rfl, hF, hS, hm25, h23⟩
        refine n_jn ?_
        obtain rfl := someI hj1
        exact ⟨m25, s23, _, _, rfl, hF.sub ⟨rfl, rfl, trivial⟩, hS, hm25, h23⟩
    · have hj1 := cond_t hc2 hj1
      refine q_cond_t hF rfl hc2 ?_
      refine q_region ?_
      refine q_x (v := (.pointer (some ⟨b_p_c, 0, none⟩))) hF hS (ex_move rfl) rfl rfl fun a hF => ?_
      have hS26 : St _ _ _ _ ([[⟨b_p_c, [s9.v, (.int .i64 t_8.2.at_), (.int .u64 t_8.2.seed.v)], 103⟩]] ++ [[⟨b6, [(.int .i64 t_4.1.Ratio.Num), (.int .i64 t_4.1.Ratio.Den), (.int .i64 t_4.1.Rho.Num), (.int .i64 t_4.1.Rho.Den)], 26⟩], [⟨b2, [(.int .i64 0), (.int .i64 0), (.int .i64 0), (.int .i64 0)], 26⟩]]) := hS
      have hE26 := hS26.enter
      obtain ⟨t_27, ht_27, hj1⟩ := bindS hj1
      refine q_do rfl fun _ hK => wp_callX (vs := [(.pointer (some ⟨b_p_c, 0, none⟩))]) hF Try.func112 (by kernel_rfl) rfl rfl rfl (c_spec_l1Cur_anyFrac t_8.2 t_27 ht_27 _ m7' b_p_c s9 h9 _ hE26) fun a w _ hR hF => hK _ _ ?_
      obtain ⟨m26', s28, rfl, hm26, hR26, h28⟩ := hR
      have hS : St _ _ _ _ [[⟨b_p_c, [s28.v, (.int .i64 t_27.2.at_), (.int .u64 t_27.2.seed.v)], 103⟩], [⟨b6, [(.int .i64 t_4.1.Ratio.Num), (.int .i64 t_4.1.Ratio.Den), (.int .i64 t_4.1.Rho.Num), (.int .i64 t_4.1.Rho.Den)], 26⟩], [⟨b2, [(.int .i64 0), (.int .i64 0), (.int .i64 0), (.int .i64 0)], 26⟩]] := hS26.leave hR26 hm26
      have hm26 := MLe.weakX hS26 hm26
      refine q_x (v := (.pointer (some ⟨b6, 0, none⟩))) hF hS (ex_fieldAddr Try.underlying26 rfl sz24 rfl rfl) rfl rfl fun a hF => ?_
      refine q_store (vs := [(.int .i64 t_27.1.Num), (.int .i64 t_27.1.Den)]) (cs' := [(.int .i64 t_27.1.Num), (.int .i64 t_27.1.Den), (.int .i64 t_4.1.Rho.Num), (.int .i64 t_4.1.Rho.Den)]) 1 0 hF hS sz24 rfl rfl rfl rfl rfl rfl rfl rfl fun a w hF hS => ?_
      refine q_end (n_jn ?_)
      obtain rfl := someI hj1
      exact ⟨m26', s28, _, _, rfl, hF.sub ⟨rfl, rfl, trivial⟩, hS, hm26, h28⟩
  · rintro a w ⟨m32, s30, p_c_29, x_31, rfl, hF, hS, hm32, h30⟩
    refine n_ib (n_sq ?_)
    refine q_seq ?_
    refine q_region ?_
    refine q_x (v := (.agg #[(.int .i64 x_31.Ratio.Num), (.int .i64 x_31.Ratio.Den), (.int .i64 x_31.Rho.Num), (.int .i64 x_31.Rho.Den)])) hF hS (ex_loadA (vs := [(.int .i64 x_31.Ratio.Num), (.int .i64 x_31.Ratio.Den), (.int .i64 x_31.Rho.Num), (.int .i64 x_31.Rho.Den)]) 1 0 Try.underlying26 rfl sz26 rfl rfl rfl rfl) rfl rfl fun a hF => ?_
    refine q_store (vs := [(.int .i64 x_31.Ratio.Num), (.int .i64 x_31.Ratio.Den), (.int .i64 x_31.Rho.Num), (.int .i64 x_31.Rho.Den)]) (cs' := [(.int .i64 x_31.Ratio.Num), (.int .i64 x_31.Ratio.Den), (.int .i64 x_31.Rho.Num), (.int .i64 x_31.Rho.Den)]) 2 0 hF hS sz26 rfl rfl rfl rfl rfl rfl rfl rfl fun a w hF hS => ?_
    refine q_end (n_sq (q_ret ?_))
    obtain rfl := someI hr
    exact ret_ofX hF hS rfl (.cellA (us := [(.int .i64 x_31.Ratio.Num), (.int .i64 x_31.Ratio.Den), (.int .i64 x_31.Rho.Num), (.int .i64 x_31.Rho.Den)]) 2 0 Try.underlying26 rfl sz26 rfl rfl rfl rfl .nil) ⟨m32, s30, rfl, ((hm3.trans hm7).trans hm32), hS.sel [0] (by decide), h30⟩

theorem c_spec_fInt (p_n : Int) (r : impl_Frac) (hr : spec_fInt p_n = some r) (w0 : World) (m : Mem) (hv : Vis m w0) :
    Ret Try.prog 107 [(.int .i64 p_n)] w0 (fun v _ => v = (.agg #[(.int .i64 r.Num), (.int .i64 r.Den)])) := by
  unfold spec_fInt at hr
  refine ret_start Try.func107 rfl 5 rfl rfl m hv fun a hF hS => ?_
  refine q_seq ?_
  refine q_region ?_
  refine q_alloc (cs := [(.int .i64 0), (.int .i64 0)]) hF hS rfl rfl rfl fun a w b1 hF hS => ?_
  refine q_end (n_sq ?_)
  refine q_seq ?_
  refine q_region ?_
  refine q_x (v := (.int .i64 p_n)) hF hS (ex_move rfl) rfl rfl fun a hF => ?_
  refine q_x (v := (.agg #[(.int .i64 p_n), (.int .i64 1)])) hF hS (ex_build (cells := [(.int .i64 p_n), (.int .i64 1)]) rfl (by kernel_rfl)) rfl rfl fun a hF => ?_
  refine q_store (vs := [(.int .i64 p_n), (.int .i64 1)]) (cs' := [(.int .i64 p_n), (.int .i64 1)]) 0 0 hF hS sz24 rfl rfl rfl rfl rfl rfl rfl rfl fun a w hF hS => ?_
  refine q_end (n_sq (q_ret ?_))
  obtain rfl := someI hr
  exact ret_of hF hS rfl (.cellA (us := [(.int .i64 p_n), (.int .i64 1)]) 0 0 Try.underlying24 rfl sz24 rfl rfl rfl rfl .nil) rfl

theorem c_spec_l1Cur_budget (p_c : spec_l1Cur) (r : impl_Loss × spec_l1Cur) (hr : spec_l1Cur_budget p_c = some r) (w0 : World) (m : Mem) (b_p_c : Nat) (s1 : Sl) (h1 : Rd m s1 p_c.code) (X : List Nat) (hS : St X w0 w0 m [[⟨b_p_c, [s1.v, (.int .i64 p_c.at_), (.int .u64 p_c.seed.v)], 103⟩]]) :
    RetX Try.prog 87 [(.pointer (some ⟨b_p_c, 0, none⟩))] w0 (fun v w => ∃ (m' : Mem) (s0' : Sl), v = (.agg #[(.int .i64 r.1.Ratio.Num), (.int .i64 r.1.Ratio.Den), (.int .i64 r.1.Rho.Num), (.int .i64 r.1.Rho.Den)]) ∧ MLe X w0.heap.size m m' ∧ St X w0 w m' [[⟨b_p_c, [s0'.v, (.int .i64 r.2.at_), (.int .u64 r.2.seed.v)], 103⟩]] ∧ Rd m' s0' r.2.code) := by
  unfold spec_l1Cur_budget at hr
  refine ret_startX Try.func87 rfl 16 rfl rfl fun a hF => ?_
  refine q_seq ?_
  refine q_region ?_
  refine q_alloc (cs := [(.int .i64 0), (.int .i64 0), (.int .i64 0), (.int .i64 0)]) hF hS rfl rfl rfl fun a w b2 hF hS => ?_
  refine q_end (n_sq ?_)
  refine q_seq ?_
  refine q_seq ?_
  refine q_region ?_
  refine q_x (v := (.pointer (some ⟨b_p_c, 0, none⟩))) hF hS (ex_move rfl) rfl rfl fun a hF => ?_
  have hS : St _ _ _ _ [[⟨b_p_c, [s1.v, (.int .i64 p_c.at_), (.int .u64 p_c.seed.v)], 103⟩], [⟨b2, [(.int .i64 0), (.int .i64 0), (.int .i64 0), (.int .i64 0)], 26⟩]] := hS.sel [1, 0] (by decide)
  have hS3 : St _ _ _ _ ([[⟨b_p_c, [s1.v, (.int .i64 p_c.at_), (.int .u64 p_c.seed.v)], 103⟩]] ++ [[⟨b2, [(.int .i64 0), (.int .i64 0), (.int .i64 0), (.int .i64 0)], 26⟩]]) := hS
  have hE3 := hS3.enter
  obtain ⟨t_4, ht_4, hr⟩ := bindS hr
  refine q_do rfl fun _ hK => wp_callX (vs := [(.pointer (some ⟨b_p_c, 0, none⟩)), (.int .i64 8)]) hF Try.func86 (by kernel_rfl) rfl rfl rfl (c_spec_l1Cur_one p_c 8 t_4 ht_4 _ m b_p_c s1 h1 _ hE3) fun a w _ hR hF => hK _ _ ?_
  obtain ⟨m3', s5, rfl, hm3, hR3, h5⟩ := hR
  have hS : St _ _ _ _ [[⟨b_p_c, [s5.v, (.int .i64 t_4.2.at_), (.int .u64 t_4.2.seed.v)], 103⟩], [⟨b2, [(.int .i64 0), (.int .i64 0), (.int .i64 0), (.int .i64 0)], 26⟩]] := hS3.leave hR3 hm3
  have hm3 := MLe.weakX hS3 hm3
  refine q_end (n_sq ?_)
  rcases bcase (t_4.1) with hc1 | hc1
  · have hr := cond_f hc1 hr
    refine q_cond_f hF rfl hc1 ?_
    refine q_skipc (n_sq ?_)
    refine q_seq ?_
    refine q_region ?_
    refine q_x (v := (.pointer (some ⟨b_p_c, 0, none⟩))) hF hS (ex_move rfl) rfl rfl fun a hF => ?_
    refine q_do rfl fun _ hK => wp_buildSlice' (l := ([1, 2, 4, 10, 100] : List Int)) (cells := [(.int .i64 1), (.int .i64 2), (.int .i64 4), (.int .i64 10), (.int .i64 100)]) hF hS Try.underlying42 inf3 rfl rfl (by kernel_rfl) rfl rfl rfl ⟨rfl, rfl, rfl, rfl, rfl, rfl⟩ rfl rfl fun a w q6 s6 hF hS h6 _ => hK _ _ ?_
    obtain ⟨m7, hm7, hS, hz7⟩ := hS.freeze
    have h7 := h6.froz hm7.le hz7
    have hS8 : St _ _ _ _ ([[⟨b_p_c, [s5.v, (.int .i64 t_4.2.at_), (.int .u64 t_4.2.seed.v)], 103⟩]] ++ [[⟨b2, [(.int .i64 0), (.int .i64 0), (.int .i64 0), (.int .i64 0)], 26⟩]]) := hS
    have hE8 := hS8.enter
    obtain ⟨t_9, ht_9, hr⟩ := bindS hr
    refine q_do rfl fun _ hK => wp_callX (vs := [(.pointer (some ⟨b_p_c, 0, none⟩)), s6.v]) hF Try.func100 (by kernel_rfl) rfl rfl rfl (c_spec_l1Cur_among t_4.2 ([1, 2, 4, 10, 100] : List Int) t_9 ht_9 _ m7 b_p_c s5 (h5.mono hm7.le) s6 h7 _ hE8) fun a w _ hR hF => hK _ _ ?_
    obtain ⟨m8', s10, rfl, hm8, hR8, h10⟩ := hR
    have hS : St _ _ _ _ [[⟨b_p_c, [s10.v, (.int .i64 t_9.2.at_), (.int .u64 t_9.2.seed.v)], 103⟩], [⟨b2, [(.int .i64 0), (.int .i64 0), (.int .i64 0), (.int .i64 0)], 26⟩]] := hS8.leave hR8 hm8
    have hm8 := MLe.weakX hS8 hm8
    obtain ⟨t_11, ht_11, hr⟩ := bindS hr
    refine q_call (vs := [(.int .i64 t_9.1)]) hF hS Try.func107 (by kernel_rfl) rfl rfl rfl (c_spec_fInt t_9.1 t_11 ht_11 _ m8' hS.vis) ?_
    rintro a w _ rfl hF hS
    refine q_x (v := (.pointer (some ⟨b_p_c, 0, none⟩))) hF hS (ex_move rfl) rfl rfl fun a hF => ?_
    refine q_do rfl fun _ hK => wp_buildSlice' (l := ([0, 1, 2, 10] : List Int)) (cells := [(.int .i64 0), (.int .i64 1), (.int .i64 2), (.int .i64 10)]) hF hS Try.underlying42 inf3 rfl rfl (by kernel_rfl) rfl rfl rfl ⟨rfl, rfl, rfl, rfl, rfl⟩ rfl rfl fun a w q12 s12 hF hS h12 _ => hK _ _ ?_
    obtain ⟨m13, hm13, hS, hz13⟩ := hS.freeze
    have h13 := h12.froz hm13.le hz13
    have hS14 : St _ _ _ _ ([[⟨b_p_c, [s10.v, (.int .i64 t_9.2.at_), (.int .u64 t_9.2.seed.v)], 103⟩]] ++ [[⟨b2, [(.int .i64 0), (.int .i64 0), (.int .i64 0), (.int .i64 0)], 26⟩]]) := hS
    have hE14 := hS14.enter
    obtain ⟨t_15, ht_15, hr⟩ := bindS hr
    refine q_do rfl fun _ hK => wp_callX (vs := [(.pointer (some ⟨b_p_c, 0, none⟩)), s12.v]) hF Try.func100 (by kernel_rfl) rfl rfl rfl (c_spec_l1Cur_among t_9.2 ([0, 1, 2, 10] : List Int) t_15 ht_15 _ m13 b_p_c s10 (h10.mono hm13.le) s12 h13 _ hE14) fun a w _ hR hF => hK _ _ ?_
    obtain ⟨m14', s16, rfl, hm14, hR14, h16⟩ := hR
    have hS : St _ _ _ _ [[⟨b_p_c, [s16.v, (.int .i64 t_15.2.at_), (.int .u64 t_15.2.seed.v)], 103⟩], [⟨b2, [(.int .i64 0), (.int .i64 0), (.int .i64 0), (.int .i64 0)], 26⟩]] := hS14.leave hR14 hm14
    have hm14 := MLe.weakX hS14 hm14
    obtain ⟨t_17, ht_17, hr⟩ := bindS hr
    refine q_call (vs := [(.int .i64 t_15.1)]) hF hS Try.func107 (by kernel_rfl) rfl rfl rfl (c_spec_fInt t_15.1 t_17 ht_17 _ m14' hS.vis) ?_
    rintro a w _ rfl hF hS
    refine q_x (v := (.agg #[(.int .i64 t_11.Num), (.int .i64 t_11.Den), (.int .i64 t_17.Num), (.int .i64 t_17.Den)])) hF hS (ex_build (cells := [(.int .i64 t_11.Num), (.int .i64 t_11.Den), (.int .i64 t_17.Num), (.int .i64 t_17.Den)]) rfl (by kernel_rfl)) rfl rfl fun a hF => ?_
    refine q_store (vs := [(.int .i64 t_11.Num), (.int .i64 t_11.Den), (.int .i64 t_17.Num), (.int .i64 t_17.Den)]) (cs' := [(.int .i64 t_11.Num), (.int .i64 t_11.Den), (.int .i64 t_17.Num), (.int .i64 t_17.Den)]) 1 0 hF hS sz26 rfl rfl rfl rfl rfl rfl rfl rfl fun a w hF hS => ?_
    refine q_end (n_sq (q_ret ?_))
    obtain rfl := someI hr
    exact ret_ofX hF hS rfl (.cellA (us := [(.int .i64 t_11.Num), (.int .i64 t_11.Den), (.int .i64 t_17.Num), (.int .i64 t_17.Den)]) 1 0 Try.underlying26 rfl sz26 rfl rfl rfl rfl .nil) ⟨m14', s16, rfl, ((((hm3.trans hm7).trans hm8).trans hm13).trans hm14), hS.sel [0] (by decide), h16⟩
  · have hr := cond_t hc1 hr
    refine q_cond_t hF rfl hc1 ?_
    refine q_seq ?_
    refine q_region ?_
    refine q_x (v := (.pointer (some ⟨b_p_c, 0, none⟩))) hF hS (ex_move rfl) rfl rfl fun a hF => ?_
    have hS18 : St _ _ _ _ ([[⟨b_p_c, [s5.v, (.int .i64 t_4.2.at_), (.int .u64 t_4.2.seed.v)], 103⟩]] ++ [[⟨b2, [(.int .i64 0), (.int .i64 0), (.int .i64 0), (.int .i64 0)], 26⟩]]) := hS
    have hE18 := hS18.enter
    obtain ⟨t_19, ht_19, hr⟩ := bindS hr
    refine q_do rfl fun _ hK => wp_callX (vs := [(.pointer (some ⟨b_p_c, 0, none⟩))]) hF Try.func89 (by kernel_rfl) rfl rfl rfl (c_spec_l1Cur_anyLoss t_4.2 t_19 ht_19 _ m3' b_p_c s5 h5 _ hE18) fun a w _ hR hF => hK _ _ ?_
    obtain ⟨m18', s20, rfl, hm18, hR18, h20⟩ := hR
    have hS : St _ _ _ _ [[⟨b_p_c, [s20.v, (.int .i64 t_19.2.at_), (.int .u64 t_19.2.seed.v)], 103⟩], [⟨b2, [(.int .i64 0), (.int .i64 0), (.int .i64 0), (.int .i64 0)], 26⟩]] := hS18.leave hR18 hm18
    have hm18 := MLe.weakX hS18 hm18
    refine q_store (vs := [(.int .i64 t_19.1.Ratio.Num), (.int .i64 t_19.1.Ratio.Den), (.int .i64 t_19.1.Rho.Num), (.int .i64 t_19.1.Rho.Den)]) (cs' := [(.int .i64 t_19.1.Ratio.Num), (.int .i64 t_19.1.Ratio.Den), (.int .i64 t_19.1.Rho.Num), (.int .i64 t_19.1.Rho.Den)]) 1 0 hF hS sz26 rfl rfl rfl rfl rfl rfl rfl rfl fun a w hF hS => ?_
    refine q_end (n_sq (q_ret (r_sq ?_)))
    obtain rfl := someI hr
    exact ret_ofX hF hS rfl (.cellA (us := [(.int .i64 t_19.1.Ratio.Num), (.int .i64 t_19.1.Ratio.Den), (.int .i64 t_19.1.Rho.Num), (.int .i64 t_19.1.Rho.Den)]) 1 0 Try.underlying26 rfl sz26 rfl rfl rfl rfl .nil) ⟨m18', s20, rfl, (hm3.trans hm18), hS.sel [0] (by decide), h20⟩

theorem c_spec_pNone  (r : impl_Loss) (hr : spec_pNone = some r) (w0 : World) (m : Mem) (hv : Vis m w0) :
    Ret Try.prog 88 [] w0 (fun v _ => v = (.agg #[(.int .i64 r.Ratio.Num), (.int .i64 r.Ratio.Den), (.int .i64 r.Rho.Num), (.int .i64 r.Rho.Den)])) := by
  unfold spec_pNone at hr
  refine ret_start Try.func88 rfl 4 rfl rfl m hv fun a hF hS => ?_
  refine q_seq ?_
  refine q_region ?_
  refine q_alloc (cs := [(.int .i64 0), (.int .i64 0), (.int .i64 0), (.int .i64 0)]) hF hS rfl rfl rfl fun a w b1 hF hS => ?_
  refine q_end (n_sq ?_)
  refine q_seq ?_
  refine q_region ?_
  obtain ⟨t_2, ht_2, hr⟩ := bindS hr
  refine q_call (vs := [(.int .i64 1)]) hF hS Try.func107 (by kernel_rfl) rfl rfl rfl (c_spec_fInt 1 t_2 ht_2 _ m hS.vis) ?_
  rintro a w _ rfl hF hS
  obtain ⟨t_3, ht_3, hr⟩ := bindS hr
  refine q_call (vs := [(.int .i64 0)]) hF hS Try.func107 (by kernel_rfl) rfl rfl rfl (c_spec_fInt 0 t_3 ht_3 _ m hS.vis) ?_
  rintro a w _ rfl hF hS
  refine q_x (v := (.agg #[(.int .i64 t_2.Num), (.int .i64 t_2.Den), (.int .i64 t_3.Num), (.int .i64 t_3.Den)])) hF hS (ex_build (cells := [(.int .i64 t_2.Num), (.int .i64 t_2.Den), (.int .i64 t_3.Num), (.int .i64 t_3.Den)]) rfl (by kernel_rfl)) rfl rfl fun a hF => ?_
  refine q_store (vs := [(.int .i64 t_2.Num), (.int .i64 t_2.Den), (.int .i64 t_3.Num), (.int .i64 t_3.Den)]) (cs' := [(.int .i64 t_2.Num), (.int .i64 t_2.Den), (.int .i64 t_3.Num), (.int .i64 t_3.Den)]) 0 0 hF hS sz26 rfl rfl rfl rfl rfl rfl rfl rfl fun a w hF hS => ?_
  refine q_end (n_sq (q_ret ?_))
  obtain rfl := someI hr
  exact ret_of hF hS rfl (.cellA (us := [(.int .i64 t_2.Num), (.int .i64 t_2.Den), (.int .i64 t_3.Num), (.int .i64 t_3.Den)]) 0 0 Try.underlying26 rfl sz26 rfl rfl rfl rfl .nil) rfl

theorem c_spec_DrawLedgerLoss (p_code : List (K .u8)) (r : (List impl_Entry)) (hr : spec_DrawLedgerLoss p_code = some r) (w0 : World) (m : Mem) (hv : Vis m w0) (s1 : Sl) (h1 : Rd m s1 p_code) :
    Ret Try.prog 21 [s1.v] w0 (fun v w => ∃ (m' : Mem) (q0' : Piece) (s0' : Sl), v = s0'.v ∧ MLe [] w0.heap.size m m' ∧ St [] w0 w m' [q0'] ∧ OwnL m' 49 q0' s0' r) := by
  unfold spec_DrawLedgerLoss at hr
  refine ret_start Try.func21 rfl 51 rfl rfl m hv fun a hF hS => ?_
  refine q_seq ?_
  refine q_region ?_
  refine q_x (v := nilS.v) hF hS (ex_assign rfl) rfl rfl fun a hF => ?_
  refine q_end (n_sq ?_)
  refine q_seq ?_
  refine q_region ?_
  refine q_x (v := s1.v) hF hS (ex_move rfl) rfl rfl fun a hF => ?_
  refine q_x (v := (.agg #[s1.v, (.int .i64 0), (.int .u64 0)])) hF hS (ex_build (cells := [s1.v, (.int .i64 0), (.int .u64 0)]) rfl (by kernel_rfl)) rfl rfl fun a hF => ?_
  refine q_box (cs := [s1.v, (.int .i64 0), (.int .u64 0)]) hF hS rfl rfl rfl fun a w b2 hF hS => ?_
  refine q_x (v := (.pointer (some ⟨b2, 0, none⟩))) hF hS (ex_assign rfl) rfl rfl fun a hF => ?_
  refine q_end (n_sq ?_)
  refine q_seq ?_
  refine q_region ?_
  refine q_x (v := nilS.v) hF hS (ex_assign rfl) rfl rfl fun a hF => ?_
  refine q_end (n_sq ?_)
  refine q_seq ?_
  refine q_seq ?_
  refine q_region ?_
  refine q_x (v := (.pointer (some ⟨b2, 0, none⟩))) hF hS (ex_move rfl) rfl rfl fun a hF => ?_
  have hS3 : St _ _ _ _ ([[⟨b2, [s1.v, (.int .i64 0), (.int .u64 0)], 103⟩]] ++ []) := hS
  have hE3 := hS3.enter
  obtain ⟨t_4, ht_4, hr⟩ := bindS hr
  refine q_do rfl fun _ hK => wp_callX (vs := [(.pointer (some ⟨b2, 0, none⟩)), (.int .i64 7)]) hF Try.func99 (by kernel_rfl) rfl rfl rfl (c_spec_l1Cur_pick (spec_l1Cur.mk p_code 0 (⟨0⟩ : K .u64)) 7 t_4 ht_4 _ m b2 s1 h1 _ hE3) fun a w _ hR hF => hK _ _ ?_
  obtain ⟨m3', s5, rfl, hm3, hR3, h5⟩ := hR
  have hS : St _ _ _ _ [[⟨b2, [s5.v, (.int .i64 t_4.2.at_), (.int .u64 t_4.2.seed.v)], 103⟩]] := hS3.leave hR3 hm3
  have hm3 := MLe.weakX hS3 hm3
  refine q_x (v := (.int .i64 t_4.1)) hF hS (ex_assign rfl) rfl rfl fun a hF => ?_
  refine q_end (n_sq ?_)
  refine q_block ?_
  obtain ⟨o1, hl1, hr⟩ := bindS hr
  refine q_loop (fun (s : (List impl_Entry) × Int × spec_l1Cur) a w => ∃ (m11 : Mem), ∃ (q7 : Piece), ∃ (s7 : Sl), ∃ (s10 : Sl), ∃ l_6, ∃ k_8, ∃ t_9, s = (l_6, k_8, t_9) ∧ Fr a 51 [(3, (.pointer (some ⟨b2, 0, none⟩))), (4, s7.v), (5, (.int .i64 k_8))] ∧ St [] w0 w m11 [q7, [⟨b2, [s10.v, (.int .i64 t_9.at_), (.int .u64 t_9.seed.v)], 103⟩]] ∧ MLe [] w0.heap.size m3' m11 ∧ OwnL m11 49 q7 s7 l_6 ∧ Rd m11 s10 t_9.code) (fun (o : (List impl_Entry) × spec_l1Cur) e a w => ∃ (m27 : Mem), ∃ (q24 : Piece), ∃ (s24 : Sl), ∃ (s26 : Sl), ∃ l_23, ∃ t_25, o = (l_23, t_25) ∧ e = .exit 0 ∧ Fr a 51 [(3, (.pointer (some ⟨b2, 0, none⟩))), (4, s24.v)] ∧ St [] w0 w m27 [q24, [⟨b2, [s26.v, (.int .i64 t_25.at_), (.int .u64 t_25.seed.v)], 103⟩]] ∧ MLe [] w0.heap.size m3' m27 ∧ OwnL m27 49 q24 s24 l_23 ∧ Rd m27 s26 t_25.code) hl1 ⟨m3', [], nilS, s5, _, _, _, rfl, hF.sub ⟨rfl, rfl, rfl, trivial⟩, hS.sel [1, 0] (by decide), (MLe.refl _ _), (OwnL.nil (α := impl_Entry) m3' 49), h5⟩ ?_ ?_
  · clear hF hS
    rintro s a w st ⟨m11, q7, s7, s10, l_6, k_8, t_9, rfl, hF, hS, hm11, h7, h10⟩ hb1
    unfold spec_DrawLedgerLoss_l1 at hb1
    refine q_seq ?_
    refine q_seq ?_
    refine q_region ?_
    refine q_x (v := (.int .i64 k_8)) hF hS (ex_move rfl) rfl rfl fun a hF => ?_
    refine q_x (v := (.bool (decide (0 < k_8)))) hF hS (ex_ibin rfl rfl rfl) rfl rfl fun a hF => ?_
    refine q_end (n_sq ?_)
    rcases bcase (decide (0 < k_8)) with hc2 | hc2
    · have hb1 := cond_f hc2 hb1
      refine q_cond_f hF rfl hc2 ?_
      refine q_exit (x_sq ?_)
      obtain rfl := someI hb1
      exact ⟨nofun, .inl ⟨m11, q7, s7, s10, _, _, rfl, rfl, hF.sub ⟨rfl, rfl, trivial⟩, hS, hm11, h7, h10⟩⟩
    · have hb1 := cond_t hc2 hb1
      refine q_cond_t hF rfl hc2 ?_
      refine q_skipc (n_sq ?_)
      refine q_seq ?_
      refine q_block ?_
      refine q_region ?_
      refine q_x (v := s7.v) hF hS (ex_move rfl) rfl rfl fun a hF => ?_
      refine q_x (v := (.pointer (some ⟨b2, 0, none⟩))) hF hS (ex_move rfl) rfl rfl fun a hF => ?_
      refine q_do rfl fun _ hK => wp_buildSlice' (l := ([-1, 0, 1, 1, 29] : List Int)) (cells := [(.int .i64 (-1)), (.int .i64 0), (.int .i64 1), (.int .i64 1), (.int .i64 29)]) hF hS Try.underlying42 inf3 rfl rfl (by kernel_rfl) rfl rfl rfl ⟨rfl, rfl, rfl, rfl, rfl, rfl⟩ rfl rfl fun a w q12 s12 hF hS h12 _ => hK _ _ ?_
      obtain ⟨m13, hm13, hS, hz13⟩ := hS.freeze
      have h13 := h12.froz hm13.le hz13
      have hS : St _ _ _ _ [[⟨b2, [s10.v, (.int .i64 t_9.at_), (.int .u64 t_9.seed.v)], 103⟩], q7] := hS.sel [1, 0] (by decide)
      have hS14 : St _ _ _ _ ([[⟨b2, [s10.v, (.int .i64 t_9.at_), (.int .u64 t_9.seed.v)], 103⟩]] ++ [q7]) := hS
      have hE14 := hS14.enter
      obtain ⟨t_15, ht_15, hb1⟩ := bindS hb1
      refine q_do rfl fun _ hK => wp_callX (vs := [(.pointer (some ⟨b2, 0, none⟩)), s12.v]) hF Try.func100 (by kernel_rfl) rfl rfl rfl (c_spec_l1Cur_among t_9 ([-1, 0, 1, 1, 29] : List Int) t_15 ht_15 _ m13 b2 s10 (h10.mono hm13.le) s12 h13 _ hE14) fun a w _ hR hF => hK _ _ ?_
      obtain ⟨m14', s16, rfl, hm14, hR14, h16⟩ := hR
      have hS : St _ _ _ _ [[⟨b2, [s16.v, (.int .i64 t_15.2.at_), (.int .u64 t_15.2.seed.v)], 103⟩], q7] := hS14.leave hR14 hm14
      have hm14 := MLe.weakX hS14 hm14
      refine q_x (v := (.pointer (some ⟨b2, 0, none⟩))) hF hS (ex_move rfl) rfl rfl fun a hF => ?_
      have hS17 : St _ _ _ _ ([[⟨b2, [s16.v, (.int .i64 t_15.2.at_), (.int .u64 t_15.2.seed.v)], 103⟩]] ++ [q7]) := hS
      have hE17 := hS17.enter
      obtain ⟨t_18, ht_18, hb1⟩ := bindS hb1
      refine q_do rfl fun _ hK => wp_callX (vs := [(.pointer (some ⟨b2, 0, none⟩))]) hF Try.func101 (by kernel_rfl) rfl rfl rfl (c_spec_l1Cur_loss t_15.2 t_18 ht_18 _ m14' b2 s16 h16 _ hE17) fun a w _ hR hF => hK _ _ ?_
      obtain ⟨m17', s19, rfl, hm17, hR17, h19⟩ := hR
      have hS : St _ _ _ _ [[⟨b2, [s19.v, (.int .i64 t_18.2.at_), (.int .u64 t_18.2.seed.v)], 103⟩], q7] := hS17.leave hR17 hm17
      have hm17 := MLe.weakX hS17 hm17
      refine q_x (v := (.agg #[(.int .i64 t_15.1), (.int .i64 t_18.1.Ratio.Num), (.int .i64 t_18.1.Ratio.Den), (.int .i64 t_18.1.Rho.Num), (.int .i64 t_18.1.Rho.Den)])) hF hS (ex_build (cells := [(.int .i64 t_15.1), (.int .i64 t_18.1.Ratio.Num), (.int .i64 t_18.1.Ratio.Den), (.int .i64 t_18.1.Rho.Num), (.int .i64 t_18.1.Rho.Den)]) rfl (by kernel_rfl)) rfl rfl fun a hF => ?_
      refine q_do rfl fun _ hK => wp_buildSlice' (l := ([(impl_Entry.mk t_15.1 t_18.1)] : List impl_Entry)) (cells := [(.int .i64 t_15.1), (.int .i64 t_18.1.Ratio.Num), (.int .i64 t_18.1.Ratio.Den), (.int .i64 t_18.1.Rho.Num), (.int .i64 t_18.1.Rho.Den)]) hF hS Try.underlying39 inf49 rfl rfl (by kernel_rfl) rfl rfl rfl ⟨rfl, rfl⟩ rfl rfl fun a w q20 s20 hF hS h20 _ => hK _ _ ?_
      have hS : St _ _ _ _ [q7, q20, [⟨b2, [s19.v, (.int .i64 t_18.2.at_), (.int .u64 t_18.2.seed.v)], 103⟩]] := hS.sel [2, 0, 1] (by decide)
      obtain ⟨l_21, hl_21, hb1⟩ := bindS hb1
      refine q_do rfl fun _ hK => wp_append hF hS (((h7.mono hm13.le).mono hm14.le).mono hm17.le) Try.underlying39 inf49 rfl rfl rfl rfl (h20.vw hS (j := 1) rfl) rfl (by decide) hl_21 rfl fun a w q22 s22 hF hS h22 => hK _ _ ?_
      refine q_x (v := s22.v) hF hS (ex_assign rfl) rfl rfl fun a hF => ?_
      refine q_end (n_ib (n_sq ?_))
      refine q_region ?_
      refine q_x (v := (.int .i64 k_8)) hF hS (ex_move rfl) rfl rfl fun a hF => ?_
      refine q_x (v := (.int .i64 (w64 (k_8 - 1)))) hF hS (ex_ibin rfl rfl rfl) rfl rfl fun a hF => ?_
      refine q_x (v := (.int .i64 (w64 (k_8 - 1)))) hF hS (ex_assign rfl) rfl rfl fun a hF => ?_
      refine q_end ?_
      obtain rfl := someI hb1
      exact ⟨rfl, m17', q22, s22, s19, _, _, _, rfl, hF.sub ⟨rfl, rfl, rfl, trivial⟩, hS.mask [true, false, true], (((hm11.trans hm13).trans hm14).trans hm17), h22, h19⟩
  · rintro e a w ⟨m27, q24, s24, s26, l_23, t_25, rfl, rfl, hF, hS, hm27, h24, h26⟩
    refine x_ib (n_sq ?_)
    refine q_seq ?_
    refine q_seq ?_
    refine q_region ?_
    refine q_x (v := (.pointer (some ⟨b2, 0, none⟩))) hF hS (ex_move rfl) rfl rfl fun a hF => ?_
    have hS : St _ _ _ _ [[⟨b2, [s26.v, (.int .i64 t_25.at_), (.int .u64 t_25.seed.v)], 103⟩], q24] := hS.sel [1, 0] (by decide)
    have hS28 : St _ _ _ _ ([[⟨b2, [s26.v, (.int .i64 t_25.at_), (.int .u64 t_25.seed.v)], 103⟩]] ++ [q24]) := hS
    have hE28 := hS28.enter
    obtain ⟨t_29, ht_29, hr⟩ := bindS hr
    refine q_do rfl fun _ hK => wp_callX (vs := [(.pointer (some ⟨b2, 0, none⟩)), (.int .i64 16)]) hF Try.func99 (by kernel_rfl) rfl rfl rfl (c_spec_l1Cur_pick t_25 16 t_29 ht_29 _ m27 b2 s26 h26 _ hE28) fun a w _ hR hF => hK _ _ ?_
    obtain ⟨m28', s30, rfl, hm28, hR28, h30⟩ := hR
    have hS : St _ _ _ _ [[⟨b2, [s30.v, (.int .i64 t_29.2.at_), (.int .u64 t_29.2.seed.v)], 103⟩], q24] := hS28.leave hR28 hm28
    have hm28 := MLe.weakX hS28 hm28
    refine q_end (n_sq ?_)
    refine q_block ?_
    refine q_seq ?_
    refine q_region ?_
    refine q_x (v := (.bool (t_29.1 == 0))) hF hS (ex_ibin rfl rfl rfl) rfl rfl fun a hF => ?_
    refine q_x (v := (.bool (t_29.1 == 0))) hF hS (ex_assign rfl) rfl rfl fun a hF => ?_
    refine q_end (n_sq ?_)
    obtain ⟨l_60, hj3, hr⟩ := bindS hr
    refine q_join (fun a w => ∃ (m62 : Mem), ∃ (q61 : Piece), ∃ (s61 : Sl), Fr a 51 [(4, s61.v)] ∧ St [] w0 w m62 [q61] ∧ MLe [] w0.heap.size m28' m62 ∧ OwnL m62 49 q61 s61 l_60) ?_ ?_
    · rcases bcase (t_29.1 == 0) with hc4 | hc4
      · have hj3 := cond_f hc4 hj3
        refine q_cond_f hF rfl hc4 ?_
        refine q_seq ?_
        refine q_region ?_
        refine q_x (v := (.bool (t_29.1 == 1))) hF hS (ex_ibin rfl rfl rfl) rfl rfl fun a hF => ?_
        refine q_x (v := (.bool (t_29.1 == 1))) hF hS (ex_assign rfl) rfl rfl fun a hF => ?_
        refine q_end (n_sq ?_)
        obtain ⟨l_46, hj5, hj3⟩ := bindS hj3
        refine q_join (fun a w => ∃ (m48 : Mem), ∃ (q47 : Piece), ∃ (s47 : Sl), Fr a 51 [(4, s47.v)] ∧ St [] w0 w m48 [q47] ∧ MLe [] w0.heap.size m28' m48 ∧ OwnL m48 49 q47 s47 l_46) ?_ ?_
        · rcases bcase (t_29.1 == 1) with hc6 | hc6
          · have hj5 := cond_f hc6 hj5
            refine q_cond_f hF rfl hc6 ?_
            refine q_skipc (n_jn ?_)
            obtain rfl := someI hj5
            exact ⟨m28', q24, s24, hF.sub ⟨rfl, trivial⟩, hS.mask [false, true], (MLe.refl _ _), (h24.mono hm28.le)⟩
          · have hj5 := cond_t hc6 hj5
            refine q_cond_t hF rfl hc6 ?_
            refine q_block ?_
            obtain ⟨l_43, hl7, hj5⟩ := bindS hj5
            refine q_loop (fun (s : (List impl_Entry) × spec_l1Cur) a w => ∃ (m35 : Mem), ∃ (q32 : Piece), ∃ (s32 : Sl), ∃ (s34 : Sl), ∃ l_31, ∃ t_33, s = (l_31, t_33) ∧ Fr a 51 [(3, (.pointer (some ⟨b2, 0, none⟩))), (4, s32.v)] ∧ St [] w0 w m35 [q32, [⟨b2, [s34.v, (.int .i64 t_33.at_), (.int .u64 t_33.seed.v)], 103⟩]] ∧ MLe [] w0.heap.size m28' m35 ∧ OwnL m35 49 q32 s32 l_31 ∧ Rd m35 s34 t_33.code) (fun (l_43 : (List impl_Entry)) e a w => ∃ (m45 : Mem), ∃ (q44 : Piece), ∃ (s44 : Sl), e = .exit 3 ∧ Fr a 51 [(4, s44.v)] ∧ St [] w0 w m45 [q44] ∧ MLe [] w0.heap.size m28' m45 ∧ OwnL m45 49 q44 s44 l_43) hl7 ⟨m28', q24, s24, s30, _, _, rfl, hF.sub ⟨rfl, rfl, trivial⟩, hS.sel [1, 0] (by decide), (MLe.refl _ _), (h24.mono hm28.le), h30⟩ ?_ ?_
            · clear hF hS
              rintro s a w st ⟨m35, q32, s32, s34, l_31, t_33, rfl, hF, hS, hm35, h32, h34⟩ hb7
              unfold spec_DrawLedgerLoss_l2 at hb7
              refine q_seq ?_
              refine q_seq ?_
              refine q_region ?_
              refine q_x (v := s32.v) hF hS (ex_move rfl) rfl rfl fun a hF => ?_
              refine q_x (v := (.int .i64 (goLen l_31))) hF hS (ex_len Try.underlying39 rfl h32.len) rfl rfl fun a hF => ?_
              refine q_x (v := (.pointer (some ⟨b2, 0, none⟩))) hF hS (ex_move rfl) rfl rfl fun a hF => ?_
              have hS : St _ _ _ _ [[⟨b2, [s34.v, (.int .i64 t_33.at_), (.int .u64 t_33.seed.v)], 103⟩], q32] := hS.sel [1, 0] (by decide)
              have hS36 : St _ _ _ _ ([[⟨b2, [s34.v, (.int .i64 t_33.at_), (.int .u64 t_33.seed.v)], 103⟩]] ++ [q32]) := hS
              have hE36 := hS36.enter
              obtain ⟨t_37, ht_37, hb7⟩ := bindS hb7
              refine q_do rfl fun _ hK => wp_callX (vs := [(.pointer (some ⟨b2, 0, none⟩)), (.int .i64 2)]) hF Try.func99 (by kernel_rfl) rfl rfl rfl (c_spec_l1Cur_pick t_33 2 t_37 ht_37 _ m35 b2 s34 h34 _ hE36) fun a w _ hR hF => hK _ _ ?_
              obtain ⟨m36', s38, rfl, hm36, hR36, h38⟩ := hR
              have hS : St _ _ _ _ [[⟨b2, [s38.v, (.int .i64 t_37.2.at_), (.int .u64 t_37.2.seed.v)], 103⟩], q32] := hS36.leave hR36 hm36
              have hm36 := MLe.weakX hS36 hm36
              refine q_x (v := (.int .i64 (w64 (30 + t_37.1)))) hF hS (ex_ibin rfl rfl rfl) rfl rfl fun a hF => ?_
              refine q_x (v := (.bool (decide ((goLen l_31) < (w64 (30 + t_37.1)))))) hF hS (ex_ibin rfl rfl rfl) rfl rfl fun a hF => ?_
              refine q_end (n_sq ?_)
              rcases bcase (decide ((goLen l_31) < (w64 (30 + t_37.1)))) with hc8 | hc8
              · have hb7 := cond_f hc8 hb7
                refine q_cond_f hF rfl hc8 ?_
                refine q_exit (x_sq ?_)
                obtain rfl := someI hb7
                exact ⟨nofun, .inl ⟨m36', q32, s32, rfl, hF.sub ⟨rfl, trivial⟩, hS.mask [false, true], (hm35.trans hm36), (h32.mono hm36.le)⟩⟩
              · have hb7 := cond_t hc8 hb7
                refine q_cond_t hF rfl hc8 ?_
                refine q_skipc (n_sq ?_)
                refine q_block ?_
                refine q_region ?_
                refine q_x (v := s32.v) hF hS (ex_move rfl) rfl rfl fun a hF => ?_
                obtain ⟨t_39, ht_39, hb7⟩ := bindS hb7
                refine q_call (vs := []) hF hS Try.func88 (by kernel_rfl) rfl rfl rfl (c_spec_pNone  t_39 ht_39 _ m36' hS.vis) ?_
                rintro a w _ rfl hF hS
                refine q_x (v := (.agg #[(.int .i64 0), (.int .i64 t_39.Ratio.Num), (.int .i64 t_39.Ratio.Den), (.int .i64 t_39.Rho.Num), (.int .i64 t_39.Rho.Den)])) hF hS (ex_build (cells := [(.int .i64 0), (.int .i64 t_39.Ratio.Num), (.int .i64 t_39.Ratio.Den), (.int .i64 t_39.Rho.Num), (.int .i64 t_39.Rho.Den)]) rfl (by kernel_rfl)) rfl rfl fun a hF => ?_
                refine q_do rfl fun _ hK => wp_buildSlice' (l := ([(impl_Entry.mk 0 t_39)] : List impl_Entry)) (cells := [(.int .i64 0), (.int .i64 t_39.Ratio.Num), (.int .i64 t_39.Ratio.Den), (.int .i64 t_39.Rho.Num), (.int .i64 t_39.Rho.Den)]) hF hS Try.underlying39 inf49 rfl rfl (by kernel_rfl) rfl rfl rfl ⟨rfl, rfl⟩ rfl rfl fun a w q40 s40 hF hS h40 _ => hK _ _ ?_
                have hS : St _ _ _ _ [q32, q40, [⟨b2, [s38.v, (.int .i64 t_37.2.at_), (.int .u64 t_37.2.seed.v)], 103⟩]] := hS.sel [2, 0, 1] (by decide)
                obtain ⟨l_41, hl_41, hb7⟩ := bindS hb7
                refine q_do rfl fun _ hK => wp_append hF hS (h32.mono hm36.le) Try.underlying39 inf49 rfl rfl rfl rfl (h40.vw hS (j := 1) rfl) rfl (by decide) hl_41 rfl fun a w q42 s42 hF hS h42 => hK _ _ ?_
                refine q_x (v := s42.v) hF hS (ex_assign rfl) rfl rfl fun a hF => ?_
                refine q_end (n_ib ?_)
                obtain rfl := someI hb7
                exact ⟨rfl, m36', q42, s42, s38, _, _, rfl, hF.sub ⟨rfl, rfl, trivial⟩, hS.mask [true, false, true], (hm35.trans hm36), h42, h38⟩
            · rintro e a w ⟨m45, q44, s44, rfl, hF, hS, hm45, h44⟩
              refine x_ib (n_jn ?_)
              obtain rfl := someI hj5
              exact ⟨m45, q44, s44, hF.sub ⟨rfl, trivial⟩, hS, hm45, h44⟩
        · rintro a w ⟨m48, q47, s47, hF, hS, hm48, h47⟩
          refine n_jn ?_
          obtain rfl := someI hj3
          exact ⟨m48, q47, s47, hF.sub ⟨rfl, trivial⟩, hS, hm48, h47⟩
      · have hj3 := cond_t hc4 hj3
        refine q_cond_t hF rfl hc4 ?_
        refine q_region ?_
        refine q_x (v := s24.v) hF hS (ex_move rfl) rfl rfl fun a hF => ?_
        refine q_x (v := (.pointer (some ⟨b2, 0, none⟩))) hF hS (ex_move rfl) rfl rfl fun a hF => ?_
        refine q_do rfl fun _ hK => wp_buildSlice' (l := ([-2, 30, 3] : List Int)) (cells := [(.int .i64 (-2)), (.int .i64 30), (.int .i64 3)]) hF hS Try.underlying42 inf3 rfl rfl (by kernel_rfl) rfl rfl rfl ⟨rfl, rfl, rfl, rfl⟩ rfl rfl fun a w q49 s49 hF hS h49 _ => hK _ _ ?_
        obtain ⟨m50, hm50, hS, hz50⟩ := hS.freeze
        have h50 := h49.froz hm50.le hz50
        have hS51 : St _ _ _ _ ([[⟨b2, [s30.v, (.int .i64 t_29.2.at_), (.int .u64 t_29.2.seed.v)], 103⟩]] ++ [q24]) := hS
        have hE51 := hS51.enter
        obtain ⟨t_52, ht_52, hj3⟩ := bindS hj3
        refine q_do rfl fun _ hK => wp_callX (vs := [(.pointer (some ⟨b2, 0, none⟩)), s49.v]) hF Try.func100 (by kernel_rfl) rfl rfl rfl (c_spec_l1Cur_among t_29.2 ([-2, 30, 3] : List Int) t_52 ht_52 _ m50 b2 s30 (h30.mono hm50.le) s49 h50 _ hE51) fun a w _ hR hF => hK _ _ ?_
        obtain ⟨m51', s53, rfl, hm51, hR51, h53⟩ := hR
        have hS : St _ _ _ _ [[⟨b2, [s53.v, (.int .i64 t_52.2.at_), (.int .u64 t_52.2.seed.v)], 103⟩], q24] := hS51.leave hR51 hm51
        have hm51 := MLe.weakX hS51 hm51
        refine q_x (v := (.pointer (some ⟨b2, 0, none⟩))) hF hS (ex_move rfl) rfl rfl fun a hF => ?_
        have hS54 : St _ _ _ _ ([[⟨b2, [s53.v, (.int .i64 t_52.2.at_), (.int .u64 t_52.2.seed.v)], 103⟩]] ++ [q24]) := hS
        have hE54 := hS54.enter
        obtain ⟨t_55, ht_55, hj3⟩ := bindS hj3
        refine q_do rfl fun _ hK => wp_callX (vs := [(.pointer (some ⟨b2, 0, none⟩))]) hF Try.func89 (by kernel_rfl) rfl rfl rfl (c_spec_l1Cur_anyLoss t_52.2 t_55 ht_55 _ m51' b2 s53 h53 _ hE54) fun a w _ hR hF => hK _ _ ?_
        obtain ⟨m54', s56, rfl, hm54, hR54, h56⟩ := hR
        have hS : St _ _ _ _ [[⟨b2, [s56.v, (.int .i64 t_55.2.at_), (.int .u64 t_55.2.seed.v)], 103⟩], q24] := hS54.leave hR54 hm54
        have hm54 := MLe.weakX hS54 hm54
        refine q_x (v := (.agg #[(.int .i64 t_52.1), (.int .i64 t_55.1.Ratio.Num), (.int .i64 t_55.1.Ratio.Den), (.int .i64 t_55.1.Rho.Num), (.int .i64 t_55.1.Rho.Den)])) hF hS (ex_build (cells := [(.int .i64 t_52.1), (.int .i64 t_55.1.Ratio.Num), (.int .i64 t_55.1.Ratio.Den), (.int .i64 t_55.1.Rho.Num), (.int .i64 t_55.1.Rho.Den)]) rfl (by kernel_rfl)) rfl rfl fun a hF => ?_
        refine q_do rfl fun _ hK => wp_buildSlice' (l := ([(impl_Entry.mk t_52.1 t_55.1)] : List impl_Entry)) (cells := [(.int .i64 t_52.1), (.int .i64 t_55.1.Ratio.Num), (.int .i64 t_55.1.Ratio.Den), (.int .i64 t_55.1.Rho.Num), (.int .i64 t_55.1.Rho.Den)]) hF hS Try.underlying39 inf49 rfl rfl (by kernel_rfl) rfl rfl rfl ⟨rfl, rfl⟩ rfl rfl fun a w q57 s57 hF hS h57 _ => hK _ _ ?_
        have hS : St _ _ _ _ [q24, q57, [⟨b2, [s56.v, (.int .i64 t_55.2.at_), (.int .u64 t_55.2.seed.v)], 103⟩]] := hS.sel [2, 0, 1] (by decide)
        obtain ⟨l_58, hl_58, hj3⟩ := bindS hj3
        refine q_do rfl fun _ hK => wp_append hF hS ((((h24.mono hm28.le).mono hm50.le).mono hm51.le).mono hm54.le) Try.underlying39 inf49 rfl rfl rfl rfl (h57.vw hS (j := 1) rfl) rfl (by decide) hl_58 rfl fun a w q59 s59 hF hS h59 => hK _ _ ?_
        refine q_x (v := s59.v) hF hS (ex_assign rfl) rfl rfl fun a hF => ?_
        refine q_end (n_jn ?_)
        obtain rfl := someI hj3
        exact ⟨m54', q59, s59, hF.sub ⟨rfl, trivial⟩, hS.mask [true, false, false], ((hm50.trans hm51).trans hm54), h59⟩
    · rintro a w ⟨m62, q61, s61, hF, hS, hm62, h61⟩
      refine n_ib (n_sq ?_)
      refine q_seq ?_
      refine q_region ?_
      refine q_x (v := s61.v) hF hS (ex_move rfl) rfl rfl fun a hF => ?_
      refine q_x (v := s61.v) hF hS (ex_assign rfl) rfl rfl fun a hF => ?_
      refine q_end (n_sq (q_ret ?_))
      obtain rfl := someI hr
      exact ret_of hF hS rfl (.tmp rfl .nil) ⟨m62, q61, s61, rfl, (((hm3.trans hm27).trans hm28).trans hm62), hS.sel [0] (by decide), h61⟩

theorem c_spec_DrawAcceptEntries (p_code : List (K .u8)) (r : impl_Loss × (List impl_Entry)) (hr : spec_DrawAcceptEntries p_code = some r) (w0 : World) (m : Mem) (hv : Vis m w0) (s1 : Sl) (h1 : Rd m s1 p_code) :
    Ret Try.prog 18 [s1.v] w0 (fun v w => ∃ (m' : Mem) (q0' : Piece) (s0' : Sl), v = (.tuple #[(.agg #[(.int .i64 r.1.Ratio.Num), (.int .i64 r.1.Ratio.Den), (.int .i64 r.1.Rho.Num), (.int .i64 r.1.Rho.Den)]), s0'.v]) ∧ MLe [] w0.heap.size m m' ∧ St [] w0 w m' [q0'] ∧ OwnL m' 49 q0' s0' r.2) := by
  unfold spec_DrawAcceptEntries at hr
  refine ret_start Try.func18 rfl 12 rfl rfl m hv fun a hF hS => ?_
  refine q_seq ?_
  refine q_region ?_
  refine q_alloc (cs := [(.int .i64 0), (.int .i64 0), (.int .i64 0), (.int .i64 0)]) hF hS rfl rfl rfl fun a w b2 hF hS => ?_
  refine q_x (v := nilS.v) hF hS (ex_assign rfl) rfl rfl fun a hF => ?_
  refine q_end (n_sq ?_)
  refine q_seq ?_
  refine q_region ?_
  refine q_x (v := s1.v) hF hS (ex_move rfl) rfl rfl fun a hF => ?_
  refine q_x (v := (.agg #[s1.v, (.int .i64 0), (.int .u64 0)])) hF hS (ex_build (cells := [s1.v, (.int .i64 0), (.int .u64 0)]) rfl (by kernel_rfl)) rfl rfl fun a hF => ?_
  refine q_box (cs := [s1.v, (.int .i64 0), (.int .u64 0)]) hF hS rfl rfl rfl fun a w b3 hF hS => ?_
  refine q_x (v := (.pointer (some ⟨b3, 0, none⟩))) hF hS (ex_assign rfl) rfl rfl fun a hF => ?_
  refine q_end (n_sq ?_)
  refine q_seq ?_
  refine q_region ?_
  refine q_x (v := (.pointer (some ⟨b3, 0, none⟩))) hF hS (ex_move rfl) rfl rfl fun a hF => ?_
  have hS4 : St _ _ _ _ ([[⟨b3, [s1.v, (.int .i64 0), (.int .u64 0)], 103⟩]] ++ [[⟨b2, [(.int .i64 0), (.int .i64 0), (.int .i64 0), (.int .i64 0)], 26⟩]]) := hS
  have hE4 := hS4.enter
  obtain ⟨t_5, ht_5, hr⟩ := bindS hr
  refine q_do rfl fun _ hK => wp_callX (vs := [(.pointer (some ⟨b3, 0, none⟩))]) hF Try.func87 (by kernel_rfl) rfl rfl rfl (c_spec_l1Cur_budget (spec_l1Cur.mk p_code 0 (⟨0⟩ : K .u64)) t_5 ht_5 _ m b3 s1 h1 _ hE4) fun a w _ hR hF => hK _ _ ?_
  obtain ⟨m4', s6, rfl, hm4, hR4, h6⟩ := hR
  have hS : St _ _ _ _ [[⟨b3, [s6.v, (.int .i64 t_5.2.at_), (.int .u64 t_5.2.seed.v)], 103⟩], [⟨b2, [(.int .i64 0), (.int .i64 0), (.int .i64 0), (.int .i64 0)], 26⟩]] := hS4.leave hR4 hm4
  have hm4 := MLe.weakX hS4 hm4
  refine q_x (v := s1.v) hF hS (ex_move rfl) rfl rfl fun a hF => ?_
  obtain ⟨t_7, ht_7, hr⟩ := bindS hr
  refine q_call (vs := [s1.v]) hF hS Try.func21 (by kernel_rfl) rfl rfl rfl (c_spec_DrawLedgerLoss p_code t_7 ht_7 _ m4' hS.vis s1 (h1.mono hm4.le)) ?_
  have hT := hS
  rintro a w _ ⟨m8, q9, s9, rfl, hm8, hR8, h9⟩ hF hS2
  have hS : St _ _ _ _ [q9, [⟨b3, [s6.v, (.int .i64 t_5.2.at_), (.int .u64 t_5.2.seed.v)], 103⟩], [⟨b2, [(.int .i64 0), (.int .i64 0), (.int .i64 0), (.int .i64 0)], 26⟩]] := hS.join hR8 hm8
  have hm8 := MLe.weakX (O0 := []) hT hm8
  refine q_store (vs := [(.int .i64 t_5.1.Ratio.Num), (.int .i64 t_5.1.Ratio.Den), (.int .i64 t_5.1.Rho.Num), (.int .i64 t_5.1.Rho.Den)]) (cs' := [(.int .i64 t_5.1.Ratio.Num), (.int .i64 t_5.1.Ratio.Den), (.int .i64 t_5.1.Rho.Num), (.int .i64 t_5.1.Rho.Den)]) 2 0 hF hS sz26 rfl rfl rfl rfl rfl rfl rfl rfl fun a w hF hS => ?_
  refine q_x (v := s9.v) hF hS (ex_assign rfl) rfl rfl fun a hF => ?_
  refine q_end (n_sq (q_ret ?_))
  obtain rfl := someI hr
  exact ret_of hF hS rfl (.cellA (us := [(.int .i64 t_5.1.Ratio.Num), (.int .i64 t_5.1.Ratio.Den), (.int .i64 t_5.1.Rho.Num), (.int .i64 t_5.1.Rho.Den)]) 2 0 Try.underlying26 rfl sz26 rfl rfl rfl rfl (.tmp rfl .nil)) ⟨m8, q9, s9, rfl, (hm4.trans hm8), hS.sel [0] (by decide), h9⟩

theorem c_impl_gcdOf (p_a : Int) (p_b : Int) (r : Int) (hr : impl_gcdOf p_a p_b = some r) (w0 : World) (m : Mem) (hv : Vis m w0) :
    Ret Try.prog 157 [(.int .i64 p_a), (.int .i64 p_b)] w0 (fun v _ => v = (.int .i64 r)) := by
  unfold impl_gcdOf at hr
  refine ret_start Try.func157 rfl 20 rfl rfl m hv fun a hF hS => ?_
  refine q_seq ?_
  refine q_region ?_
  refine q_x (v := (.int .i64 0)) hF hS (ex_assign rfl) rfl rfl fun a hF => ?_
  refine q_end (n_sq ?_)
  refine q_seq ?_
  refine q_seq ?_
  refine q_region ?_
  refine q_x (v := (.int .i64 p_a)) hF hS (ex_move rfl) rfl rfl fun a hF => ?_
  refine q_x (v := (.bool (decide (p_a < 0)))) hF hS (ex_ibin rfl rfl rfl) rfl rfl fun a hF => ?_
  refine q_end (n_sq ?_)
  obtain ⟨a_1, hj1, hr⟩ := bindS hr
  refine q_join (fun a w => Fr a 20 [(0, (.int .i64 a_1)), (1, (.int .i64 p_b))] ∧ St [] w0 w m []) ?_ ?_
  · rcases bcase (decide (p_a < 0)) with hc2 | hc2
    · have hj1 := cond_f hc2 hj1
      refine q_cond_f hF rfl hc2 ?_
      refine q_skipc (n_jn ?_)
      obtain rfl := someI hj1
      exact ⟨hF.sub ⟨rfl, rfl, trivial⟩, hS⟩
    · have hj1 := cond_t hc2 hj1
      refine q_cond_t hF rfl hc2 ?_
      refine q_region ?_
      refine q_x (v := (.int .i64 p_a)) hF hS (ex_move rfl) rfl rfl fun a hF => ?_
      refine q_x (v := (.int .i64 (w64 (-p_a)))) hF hS (ex_neg rfl) rfl rfl fun a hF => ?_
      refine q_x (v := (.int .i64 (w64 (-p_a)))) hF hS (ex_assign rfl) rfl rfl fun a hF => ?_
      refine q_end (n_jn ?_)
      obtain rfl := someI hj1
      exact ⟨hF.sub ⟨rfl, rfl, trivial⟩, hS⟩
  · rintro a w ⟨hF, hS⟩
    refine n_sq ?_
    refine q_seq ?_
    refine q_seq ?_
    refine q_region ?_
    refine q_x (v := (.int .i64 p_b)) hF hS (ex_move rfl) rfl rfl fun a hF => ?_
    refine q_x (v := (.bool (decide (p_b < 0)))) hF hS (ex_ibin rfl rfl rfl) rfl rfl fun a hF => ?_
    refine q_end (n_sq ?_)
    obtain ⟨b_2, hj3, hr⟩ := bindS hr
    refine q_join (fun a w => Fr a 20 [(0, (.int .i64 a_1)), (1, (.int .i64 b_2))] ∧ St [] w0 w m []) ?_ ?_
    · rcases bcase (decide (p_b < 0)) with hc4 | hc4
      · have hj3 := cond_f hc4 hj3
        refine q_cond_f hF rfl hc4 ?_
        refine q_skipc (n_jn ?_)
        obtain rfl := someI hj3
        exact ⟨hF.sub ⟨rfl, rfl, trivial⟩, hS⟩
      · have hj3 := cond_t hc4 hj3
        refine q_cond_t hF rfl hc4 ?_
        refine q_region ?_
        refine q_x (v := (.int .i64 p_b)) hF hS (ex_move rfl) rfl rfl fun a hF => ?_
        refine q_x (v := (.int .i64 (w64 (-p_b)))) hF hS (ex_neg rfl) rfl rfl fun a hF => ?_
        refine q_x (v := (.int .i64 (w64 (-p_b)))) hF hS (ex_assign rfl) rfl rfl fun a hF => ?_
        refine q_end (n_jn ?_)
        obtain rfl := someI hj3
        exact ⟨hF.sub ⟨rfl, rfl, trivial⟩, hS⟩
    · rintro a w ⟨hF, hS⟩
      refine n_sq ?_
      refine q_seq ?_
      refine q_block ?_
      obtain ⟨a_6, hl5, hr⟩ := bindS hr
      refine q_loop (fun (s : Int × Int) a w => ∃ a_3, ∃ b_4, s = (a_3, b_4) ∧ Fr a 20 [(0, (.int .i64 a_3)), (1, (.int .i64 b_4))] ∧ St [] w0 w m []) (fun (a_6 : Int) e a w => e = .exit 0 ∧ Fr a 20 [(0, (.int .i64 a_6))] ∧ St [] w0 w m []) hl5 ⟨_, _, rfl, hF.sub ⟨rfl, rfl, trivial⟩, hS⟩ ?_ ?_
      · clear hF hS
        rintro s a w st ⟨a_3, b_4, rfl, hF, hS⟩ hb5
        unfold impl_gcdOf_l1 at hb5
        refine q_seq ?_
        refine q_seq ?_
        refine q_region ?_
        refine q_x (v := (.int .i64 b_4)) hF hS (ex_move rfl) rfl rfl fun a hF => ?_
        refine q_x (v := (.bool (b_4 != 0))) hF hS (ex_ibin rfl rfl rfl) rfl rfl fun a hF => ?_
        refine q_end (n_sq ?_)
        rcases bcase (b_4 != 0) with hc6 | hc6
        · have hb5 := cond_f hc6 hb5
          refine q_cond_f hF rfl hc6 ?_
          refine q_exit (x_sq ?_)
          obtain rfl := someI hb5
          exact ⟨nofun, .inl ⟨rfl, hF.sub ⟨rfl, trivial⟩, hS⟩⟩
        · have hb5 := cond_t hc6 hb5
          refine q_cond_t hF rfl hc6 ?_
          refine q_skipc (n_sq ?_)
          refine q_block ?_
          refine e_region [] mixed fun w' hw' => ?_
          have hS := hS.below hw'
          refine e_p (v := (.int .i64 b_4)) 0 hF rfl (ex_move rfl) rfl rfl (by kernel_rfl) (by kernel_rfl) (by kernel_rfl) fun a hF => ?_
          refine e_p (v := (.int .i64 a_3)) 1 hF rfl (ex_move rfl) rfl rfl (by kernel_rfl) (by kernel_rfl) (by kernel_rfl) fun a hF => ?_
          refine e_p (v := (.int .i64 b_4)) 2 hF rfl (ex_move rfl) rfl rfl (by kernel_rfl) (by kernel_rfl) (by kernel_rfl) fun a hF => ?_
          obtain ⟨t_5, ht_5, hb5⟩ := bindS hb5
          refine e_p (v := (.int .i64 t_5)) 3 hF rfl (ex_rem rfl rfl ht_5) rfl rfl (by kernel_rfl) (by kernel_rfl) (by kernel_rfl) fun a hF => ?_
          refine e_p (v := (.int .i64 b_4)) 4 hF rfl (ex_assign rfl) rfl rfl (by kernel_rfl) (by kernel_rfl) (by kernel_rfl) fun a hF => ?_
          refine e_p (v := (.int .i64 t_5)) 5 hF rfl (ex_assign rfl) rfl rfl (by kernel_rfl) (by kernel_rfl) (by kernel_rfl) fun a hF => ?_
          refine e_end (by kernel_rfl) (n_ib ?_) _
          obtain rfl := someI hb5
          exact ⟨rfl, _, _, rfl, hF.sub ⟨rfl, rfl, trivial⟩, hS⟩
      · rintro e a w ⟨rfl, hF, hS⟩
        refine x_ib (n_sq ?_)
        refine q_seq ?_
        refine q_region ?_
        refine q_x (v := (.int .i64 a_6)) hF hS (ex_move rfl) rfl rfl fun a hF => ?_
        refine q_x (v := (.int .i64 a_6)) hF hS (ex_assign rfl) rfl rfl fun a hF => ?_
        refine q_end (n_sq (q_ret ?_))
        obtain rfl := someI hr
        exact ret_of hF hS rfl (.tmp rfl .nil) rfl

theorem c_impl_IsFrac (p_f : impl_Frac) (r : Bool) (hr : impl_IsFrac p_f = some r) (w0 : World) (m : Mem) (hv : Vis m w0) :
    Ret Try.prog 94 [(.agg #[(.int .i64 p_f.Num), (.int .i64 p_f.Den)])] w0 (fun v _ => v = (.bool r)) := by
  unfold impl_IsFrac at hr
  refine ret_start Try.func94 rfl 29 rfl rfl m hv fun a hF hS => ?_
  refine q_seq ?_
  refine q_region ?_
  refine q_box (cs := [(.int .i64 p_f.Num), (.int .i64 p_f.Den)]) hF hS rfl rfl rfl fun a w b1 hF hS => ?_
  refine q_x (v := (.bool false)) hF hS (ex_assign rfl) rfl rfl fun a hF => ?_
  refine q_end (n_sq ?_)
  refine q_seq ?_
  obtain ⟨t_3, hj1, hr⟩ := bindS hr
  refine q_join (fun a w => Fr a 29 [(2, (.bool t_3))] ∧ St [] w0 w m []) ?_ ?_
  · refine q_region ?_
    refine q_x (v := (.pointer (some ⟨b1, 1, none⟩))) hF hS (ex_fieldAddr Try.underlying24 rfl sz3 rfl rfl) rfl rfl fun a hF => ?_
    refine q_x (v := (.int .i64 p_f.Den)) hF hS (ex_load1 0 0 Try.underlying3 rfl rfl rfl rfl) rfl rfl fun a hF => ?_
    refine q_x (v := (.bool (decide (1 ≤ p_f.Den)))) hF hS (ex_ibin rfl rfl rfl) rfl rfl fun a hF => ?_
    refine q_x (v := (.bool (decide (1 ≤ p_f.Den)))) hF hS (ex_move rfl) rfl rfl fun a hF => ?_
    rcases bcase (decide (1 ≤ p_f.Den)) with hc2 | hc2
    · have hj1 := cond_f hc2 hj1
      refine q_skip hF (wanted_f hF rfl rfl rfl hc2 rfl) rfl fun a hF => ?_
      refine q_skip hF (wanted_f hF rfl rfl rfl hc2 rfl) rfl fun a hF => ?_
      refine q_skip hF (wanted_f hF rfl rfl rfl hc2 rfl) rfl fun a hF => ?_
      refine q_x (v := (.bool false)) hF hS (ex_pick_f rfl rfl hc2) rfl rfl fun a hF => ?_
      refine q_x (v := (.bool false)) hF hS (ex_move rfl) rfl rfl fun a hF => ?_
      refine q_skip hF (wanted_f hF rfl rfl rfl rfl rfl) rfl fun a hF => ?_
      refine q_skip hF (wanted_f hF rfl rfl rfl rfl rfl) rfl fun a hF => ?_
      refine q_skip hF (wanted_f hF rfl rfl rfl rfl rfl) rfl fun a hF => ?_
      refine q_x (v := (.bool false)) hF hS (ex_pick_f rfl rfl rfl) rfl rfl fun a hF => ?_
      refine q_x (v := (.bool false)) hF hS (ex_move rfl) rfl rfl fun a hF => ?_
      refine q_skip hF (wanted_f hF rfl rfl rfl rfl rfl) rfl fun a hF => ?_
      refine q_skip hF (wanted_f hF rfl rfl rfl rfl rfl) rfl fun a hF => ?_
      refine q_skip hF (wanted_f hF rfl rfl rfl rfl rfl) rfl fun a hF => ?_
      refine q_x (v := (.bool false)) hF hS (ex_pick_f rfl rfl rfl) rfl rfl fun a hF => ?_
      refine q_x (v := (.bool false)) hF hS (ex_move rfl) rfl rfl fun a hF => ?_
      refine q_skip hF (wanted_f hF rfl rfl rfl rfl rfl) rfl fun a hF => ?_
      refine q_skip hF (wanted_f hF rfl rfl rfl rfl rfl) rfl fun a hF => ?_
      refine q_skip hF (wanted_f hF rfl rfl rfl rfl rfl) rfl fun a hF => ?_
      refine q_skip hF (wanted_f hF rfl rfl rfl rfl rfl) rfl fun a hF => ?_
      refine q_skip hF (wanted_f hF rfl rfl rfl rfl rfl) rfl fun a hF => ?_
      refine q_skip hF (wanted_f hF rfl rfl rfl rfl rfl) rfl fun a hF => ?_
      refine q_x (v := (.bool false)) hF hS (ex_pick_f rfl rfl rfl) rfl rfl fun a hF => ?_
      refine q_x (v := (.bool false)) hF hS (ex_assign rfl) rfl rfl fun a hF => ?_
      refine q_end (n_jn ?_)
      obtain rfl := someI hj1
      exact ⟨hF.sub ⟨rfl, trivial⟩, hS.mask [false]⟩
    · have hj1 := cond_t hc2 hj1
      refine q_xg (v := (.pointer (some ⟨b1, 1, none⟩))) hF hS (ex_fieldAddr Try.underlying24 rfl sz3 rfl rfl) (wanted_t hF rfl rfl rfl hc2) rfl fun a hF => ?_
      refine q_xg (v := (.int .i64 p_f.Den)) hF hS (ex_load1 0 0 Try.underlying3 rfl rfl rfl rfl) (wanted_t hF rfl rfl rfl hc2) rfl fun a hF => ?_
      refine q_xg (v := (.bool (decide (p_f.Den ≤ 1000000000)))) hF hS (ex_ibin rfl rfl rfl) (wanted_t hF rfl rfl rfl hc2) rfl fun a hF => ?_
      refine q_x (v := (.bool (decide (p_f.Den ≤ 1000000000)))) hF hS (ex_pick_t rfl rfl hc2) rfl rfl fun a hF => ?_
      refine q_x (v := (.bool (decide (p_f.Den ≤ 1000000000)))) hF hS (ex_move rfl) rfl rfl fun a hF => ?_
      rcases bcase (decide (p_f.Den ≤ 1000000000)) with hc3 | hc3
      · have hj1 := cond_f hc3 hj1
        refine q_skip hF (wanted_f hF rfl rfl rfl hc3 rfl) rfl fun a hF => ?_
        refine q_skip hF (wanted_f hF rfl rfl rfl hc3 rfl) rfl fun a hF => ?_
        refine q_skip hF (wanted_f hF rfl rfl rfl hc3 rfl) rfl fun a hF => ?_
        refine q_x (v := (.bool false)) hF hS (ex_pick_f rfl rfl hc3) rfl rfl fun a hF => ?_
        refine q_x (v := (.bool false)) hF hS (ex_move rfl) rfl rfl fun a hF => ?_
        refine q_skip hF (wanted_f hF rfl rfl rfl rfl rfl) rfl fun a hF => ?_
        refine q_skip hF (wanted_f hF rfl rfl rfl rfl rfl) rfl fun a hF => ?_
        refine q_skip hF (wanted_f hF rfl rfl rfl rfl rfl) rfl fun a hF => ?_
        refine q_x (v := (.bool false)) hF hS (ex_pick_f rfl rfl rfl) rfl rfl fun a hF => ?_
        refine q_x (v := (.bool false)) hF hS (ex_move rfl) rfl rfl fun a hF => ?_
        refine q_skip hF (wanted_f hF rfl rfl rfl rfl rfl) rfl fun a hF => ?_
        refine q_skip hF (wanted_f hF rfl rfl rfl rfl rfl) rfl fun a hF => ?_
        refine q_skip hF (wanted_f hF rfl rfl rfl rfl rfl) rfl fun a hF => ?_
        refine q_skip hF (wanted_f hF rfl rfl rfl rfl rfl) rfl fun a hF => ?_
        refine q_skip hF (wanted_f hF rfl rfl rfl rfl rfl) rfl fun a hF => ?_
        refine q_skip hF (wanted_f hF rfl rfl rfl rfl rfl) rfl fun a hF => ?_
        refine q_x (v := (.bool false)) hF hS (ex_pick_f rfl rfl rfl) rfl rfl fun a hF => ?_
        refine q_x (v := (.bool false)) hF hS (ex_assign rfl) rfl rfl fun a hF => ?_
        refine q_end (n_jn ?_)
        obtain rfl := someI hj1
        exact ⟨hF.sub ⟨rfl, trivial⟩, hS.mask [false]⟩
      · have hj1 := cond_t hc3 hj1
        refine q_xg (v := (.pointer (some ⟨b1, 0, none⟩))) hF hS (ex_fieldAddr Try.underlying24 rfl sz3 rfl rfl) (wanted_t hF rfl rfl rfl hc3) rfl fun a hF => ?_
        refine q_xg (v := (.int .i64 p_f.Num)) hF hS (ex_load1 0 0 Try.underlying3 rfl rfl rfl rfl) (wanted_t hF rfl rfl rfl hc3) rfl fun a hF => ?_
        refine q_xg (v := (.bool (decide ((-1000000000) ≤ p_f.Num)))) hF hS (ex_ibin rfl rfl rfl) (wanted_t hF rfl rfl rfl hc3) rfl fun a hF => ?_
        refine q_x (v := (.bool (decide ((-1000000000) ≤ p_f.Num)))) hF hS (ex_pick_t rfl rfl hc3) rfl rfl fun a hF => ?_
        refine q_x (v := (.bool (decide ((-1000000000) ≤ p_f.Num)))) hF hS (ex_move rfl) rfl rfl fun a hF => ?_
        rcases bcase (decide ((-1000000000) ≤ p_f.Num)) with hc4 | hc4
        · have hj1 := cond_f hc4 hj1
          refine q_skip hF (wanted_f hF rfl rfl rfl hc4 rfl) rfl fun a hF => ?_
          refine q_skip hF (wanted_f hF rfl rfl rfl hc4 rfl) rfl fun a hF => ?_
          refine q_skip hF (wanted_f hF rfl rfl rfl hc4 rfl) rfl fun a hF => ?_
          refine q_x (v := (.bool false)) hF hS (ex_pick_f rfl rfl hc4) rfl rfl fun a hF => ?_
          refine q_x (v := (.bool false)) hF hS (ex_move rfl) rfl rfl fun a hF => ?_
          refine q_skip hF (wanted_f hF rfl rfl rfl rfl rfl) rfl fun a hF => ?_
          refine q_skip hF (wanted_f hF rfl rfl rfl rfl rfl) rfl fun a hF => ?_
          refine q_skip hF (wanted_f hF rfl rfl rfl rfl rfl) rfl fun a hF => ?_
          refine q_skip hF (wanted_f hF rfl rfl rfl rfl rfl) rfl fun a hF => ?_
          refine q_skip hF (wanted_f hF rfl rfl rfl rfl rfl) rfl fun a hF => ?_
          refine q_skip hF (wanted_f hF rfl rfl rfl rfl rfl) rfl fun a hF => ?_
          refine q_x (v := (.bool false)) hF hS (ex_pick_f rfl rfl rfl) rfl rfl fun a hF => ?_
          refine q_x (v := (.bool false)) hF hS (ex_assign rfl) rfl rfl fun a hF => ?_
          refine q_end (n_jn ?_)
          obtain rfl := someI hj1
          exact ⟨hF.sub ⟨rfl, trivial⟩, hS.mask [false]⟩
        · have hj1 := cond_t hc4 hj1
          refine q_xg (v := (.pointer (some ⟨b1, 0, none⟩))) hF hS (ex_fieldAddr Try.underlying24 rfl sz3 rfl rfl) (wanted_t hF rfl rfl rfl hc4) rfl fun a hF => ?_
          refine q_xg (v := (.int .i64 p_f.Num)) hF hS (ex_load1 0 0 Try.underlying3 rfl rfl rfl rfl) (wanted_t hF rfl rfl rfl hc4) rfl fun a hF => ?_
          refine q_xg (v := (.bool (decide (p_f.Num ≤ 1000000000)))) hF hS (ex_ibin rfl rfl rfl) (wanted_t hF rfl rfl rfl hc4) rfl fun a hF => ?_
          refine q_x (v := (.bool (decide (p_f.Num ≤ 1000000000)))) hF hS (ex_pick_t rfl rfl hc4) rfl rfl fun a hF => ?_
          refine q_x (v := (.bool (decide (p_f.Num ≤ 1000000000)))) hF hS (ex_move rfl) rfl rfl fun a hF => ?_
          rcases bcase (decide (p_f.Num ≤ 1000000000)) with hc5 | hc5
          · have hj1 := cond_f hc5 hj1
            refine q_skip hF (wanted_f hF rfl rfl rfl hc5 rfl) rfl fun a hF => ?_
            refine q_skip hF (wanted_f hF rfl rfl rfl hc5 rfl) rfl fun a hF => ?_
            refine q_skip hF (wanted_f hF rfl rfl rfl hc5 rfl) rfl fun a hF => ?_
            refine q_skip hF (wanted_f hF rfl rfl rfl hc5 rfl) rfl fun a hF => ?_
            refine q_skip hF (wanted_f hF rfl rfl rfl hc5 rfl) rfl fun a hF => ?_
            refine q_skip hF (wanted_f hF rfl rfl rfl hc5 rfl) rfl fun a hF => ?_
            refine q_x (v := (.bool false)) hF hS (ex_pick_f rfl rfl hc5) rfl rfl fun a hF => ?_
            refine q_x (v := (.bool false)) hF hS (ex_assign rfl) rfl rfl fun a hF => ?_
            refine q_end (n_jn ?_)
            obtain rfl := someI hj1
            exact ⟨hF.sub ⟨rfl, trivial⟩, hS.mask [false]⟩
          · have hj1 := cond_t hc5 hj1
            refine q_xg (v := (.pointer (some ⟨b1, 0, none⟩))) hF hS (ex_fieldAddr Try.underlying24 rfl sz3 rfl rfl) (wanted_t hF rfl rfl rfl hc5) rfl fun a hF => ?_
            refine q_xg (v := (.int .i64 p_f.Num)) hF hS (ex_load1 0 0 Try.underlying3 rfl rfl rfl rfl) (wanted_t hF rfl rfl rfl hc5) rfl fun a hF => ?_
            refine q_xg (v := (.pointer (some ⟨b1, 1, none⟩))) hF hS (ex_fieldAddr Try.underlying24 rfl sz3 rfl rfl) (wanted_t hF rfl rfl rfl hc5) rfl fun a hF => ?_
            refine q_xg (v := (.int .i64 p_f.Den)) hF hS (ex_load1 0 0 Try.underlying3 rfl rfl rfl rfl) (wanted_t hF rfl rfl rfl hc5) rfl fun a hF => ?_
            obtain ⟨t_2, ht_2, hj1⟩ := bindS hj1
            refine q_callg (vs := [(.int .i64 p_f.Num), (.int .i64 p_f.Den)]) hF hS (wanted_t hF rfl rfl rfl hc5) Try.func157 (by kernel_rfl) rfl rfl rfl (c_impl_gcdOf p_f.Num p_f.Den t_2 ht_2 _ m hS.vis) ?_
            rintro a w _ rfl hF hS
            refine q_xg (v := (.bool (t_2 == 1))) hF hS (ex_ibin rfl rfl rfl) (wanted_t hF rfl rfl rfl hc5) rfl fun a hF => ?_
            refine q_x (v := (.bool (t_2 == 1))) hF hS (ex_pick_t rfl rfl hc5) rfl rfl fun a hF => ?_
            refine q_x (v := (.bool (t_2 == 1))) hF hS (ex_assign rfl) rfl rfl fun a hF => ?_
            refine q_end (n_jn ?_)
            obtain rfl := someI hj1
            exact ⟨hF.sub ⟨rfl, trivial⟩, hS.mask [false]⟩
  · rintro a w ⟨hF, hS⟩
    refine n_sq (q_ret ?_)
    obtain rfl := someI hr
    exact ret_of hF hS rfl (.tmp rfl .nil) rfl

theorem c_impl_IsLoss (p_x : impl_Loss) (r : Bool) (hr : impl_IsLoss p_x = some r) (w0 : World) (m : Mem) (hv : Vis m w0) :
    Ret Try.prog 17 [(.agg #[(.int .i64 p_x.Ratio.Num), (.int .i64 p_x.Ratio.Den), (.int .i64 p_x.Rho.Num), (.int .i64 p_x.Rho.Den)])] w0 (fun v _ => v = (.bool r)) := by
  unfold impl_IsLoss at hr
  refine ret_start Try.func17 rfl 26 rfl rfl m hv fun a hF hS => ?_
  refine q_seq ?_
  refine q_region ?_
  refine q_box (cs := [(.int .i64 p_x.Ratio.Num), (.int .i64 p_x.Ratio.Den), (.int .i64 p_x.Rho.Num), (.int .i64 p_x.Rho.Den)]) hF hS rfl rfl rfl fun a w b1 hF hS => ?_
  refine q_x (v := (.bool false)) hF hS (ex_assign rfl) rfl rfl fun a hF => ?_
  refine q_end (n_sq ?_)
  refine q_seq ?_
  obtain ⟨t_4, hj1, hr⟩ := bindS hr
  refine q_join (fun a w => Fr a 26 [(2, (.bool t_4))] ∧ St [] w0 w m []) ?_ ?_
  · refine q_region ?_
    refine q_x (v := (.pointer (some ⟨b1, 0, none⟩))) hF hS (ex_fieldAddr Try.underlying26 rfl sz24 rfl rfl) rfl rfl fun a hF => ?_
    refine q_x (v := (.agg #[(.int .i64 p_x.Ratio.Num), (.int .i64 p_x.Ratio.Den)])) hF hS (ex_loadA (vs := [(.int .i64 p_x.Ratio.Num), (.int .i64 p_x.Ratio.Den)]) 0 0 Try.underlying24 rfl sz24 rfl rfl rfl rfl) rfl rfl fun a hF => ?_
    obtain ⟨t_2, ht_2, hj1⟩ := bindS hj1
    refine q_call (vs := [(.agg #[(.int .i64 p_x.Ratio.Num), (.int .i64 p_x.Ratio.Den)])]) hF hS Try.func94 (by kernel_rfl) rfl rfl rfl (c_impl_IsFrac p_x.Ratio t_2 ht_2 _ m hS.vis) ?_
    rintro a w _ rfl hF hS
    refine q_x (v := (.bool t_2)) hF hS (ex_move rfl) rfl rfl fun a hF => ?_
    rcases bcase (t_2) with hc2 | hc2
    · have hj1 := cond_f hc2 hj1
      refine q_skip hF (wanted_f hF rfl rfl rfl hc2 rfl) rfl fun a hF => ?_
      refine q_skip hF (wanted_f hF rfl rfl rfl hc2 rfl) rfl fun a hF => ?_
      refine q_skip hF (wanted_f hF rfl rfl rfl hc2 rfl) rfl fun a hF => ?_
      refine q_x (v := (.bool false)) hF hS (ex_pick_f rfl rfl hc2) rfl rfl fun a hF => ?_
      refine q_x (v := (.bool false)) hF hS (ex_move rfl) rfl rfl fun a hF => ?_
      refine q_skip hF (wanted_f hF rfl rfl rfl rfl rfl) rfl fun a hF => ?_
      refine q_skip hF (wanted_f hF rfl rfl rfl rfl rfl) rfl fun a hF => ?_
      refine q_skip hF (wanted_f hF rfl rfl rfl rfl rfl) rfl fun a hF => ?_
      refine q_skip hF (wanted_f hF rfl rfl rfl rfl rfl) rfl fun a hF => ?_
      refine q_skip hF (wanted_f hF rfl rfl rfl rfl rfl) rfl fun a hF => ?_
      refine q_skip hF (wanted_f hF rfl rfl rfl rfl rfl) rfl fun a hF => ?_
      refine q_skip hF (wanted_f hF rfl rfl rfl rfl rfl) rfl fun a hF => ?_
      refine q_x (v := (.bool false)) hF hS (ex_pick_f rfl rfl rfl) rfl rfl fun a hF => ?_
      refine q_x (v := (.bool false)) hF hS (ex_move rfl) rfl rfl fun a hF => ?_
      refine q_skip hF (wanted_f hF rfl rfl rfl rfl rfl) rfl fun a hF => ?_
      refine q_skip hF (wanted_f hF rfl rfl rfl rfl rfl) rfl fun a hF => ?_
      refine q_skip hF (wanted_f hF rfl rfl rfl rfl rfl) rfl fun a hF => ?_
      refine q_skip hF (wanted_f hF rfl rfl rfl rfl rfl) rfl fun a hF => ?_
      refine q_x (v := (.bool false)) hF hS (ex_pick_f rfl rfl rfl) rfl rfl fun a hF => ?_
      refine q_x (v := (.bool false)) hF hS (ex_assign rfl) rfl rfl fun a hF => ?_
      refine q_end (n_jn ?_)
      obtain rfl := someI hj1
      exact ⟨hF.sub ⟨rfl, trivial⟩, hS.mask [false]⟩
    · have hj1 := cond_t hc2 hj1
      refine q_xg (v := (.pointer (some ⟨b1, 2, none⟩))) hF hS (ex_fieldAddr Try.underlying26 rfl sz24 rfl rfl) (wanted_t hF rfl rfl rfl hc2) rfl fun a hF => ?_
      refine q_xg (v := (.agg #[(.int .i64 p_x.Rho.Num), (.int .i64 p_x.Rho.Den)])) hF hS (ex_loadA (vs := [(.int .i64 p_x.Rho.Num), (.int .i64 p_x.Rho.Den)]) 0 0 Try.underlying24 rfl sz24 rfl rfl rfl rfl) (wanted_t hF rfl rfl rfl hc2) rfl fun a hF => ?_
      obtain ⟨t_3, ht_3, hj1⟩ := bindS hj1
      refine q_callg (vs := [(.agg #[(.int .i64 p_x.Rho.Num), (.int .i64 p_x.Rho.Den)])]) hF hS (wanted_t hF rfl rfl rfl hc2) Try.func94 (by kernel_rfl) rfl rfl rfl (c_impl_IsFrac p_x.Rho t_3 ht_3 _ m hS.vis) ?_
      rintro a w _ rfl hF hS
      refine q_x (v := (.bool t_3)) hF hS (ex_pick_t rfl rfl hc2) rfl rfl fun a hF => ?_
      refine q_x (v := (.bool t_3)) hF hS (ex_move rfl) rfl rfl fun a hF => ?_
      rcases bcase (t_3) with hc3 | hc3
      · have hj1 := cond_f hc3 hj1
        refine q_skip hF (wanted_f hF rfl rfl rfl hc3 rfl) rfl fun a hF => ?_
        refine q_skip hF (wanted_f hF rfl rfl rfl hc3 rfl) rfl fun a hF => ?_
        refine q_skip hF (wanted_f hF rfl rfl rfl hc3 rfl) rfl fun a hF => ?_
        refine q_skip hF (wanted_f hF rfl rfl rfl hc3 rfl) rfl fun a hF => ?_
        refine q_skip hF (wanted_f hF rfl rfl rfl hc3 rfl) rfl fun a hF => ?_
        refine q_skip hF (wanted_f hF rfl rfl rfl hc3 rfl) rfl fun a hF => ?_
        refine q_skip hF (wanted_f hF rfl rfl rfl hc3 rfl) rfl fun a hF => ?_
        refine q_x (v := (.bool false)) hF hS (ex_pick_f rfl rfl hc3) rfl rfl fun a hF => ?_
        refine q_x (v := (.bool false)) hF hS (ex_move rfl) rfl rfl fun a hF => ?_
        refine q_skip hF (wanted_f hF rfl rfl rfl rfl rfl) rfl fun a hF => ?_
        refine q_skip hF (wanted_f hF rfl rfl rfl rfl rfl) rfl fun a hF => ?_
        refine q_skip hF (wanted_f hF rfl rfl rfl rfl rfl) rfl fun a hF => ?_
        refine q_skip hF (wanted_f hF rfl rfl rfl rfl rfl) rfl fun a hF => ?_
        refine q_x (v := (.bool false)) hF hS (ex_pick_f rfl rfl rfl) rfl rfl fun a hF => ?_
        refine q_x (v := (.bool false)) hF hS (ex_assign rfl) rfl rfl fun a hF => ?_
        refine q_end (n_jn ?_)
        obtain rfl := someI hj1
        exact ⟨hF.sub ⟨rfl, trivial⟩, hS.mask [false]⟩
      · have hj1 := cond_t hc3 hj1
        refine q_xg (v := (.pointer (some ⟨b1, 0, none⟩))) hF hS (ex_fieldAddr Try.underlying26 rfl sz24 rfl rfl) (wanted_t hF rfl rfl rfl hc3) rfl fun a hF => ?_
        refine q_xg (v := (.pointer (some ⟨b1, 0, none⟩))) hF hS (ex_fieldAddr Try.underlying24 rfl sz3 rfl rfl) (wanted_t hF rfl rfl rfl hc3) rfl fun a hF => ?_
        refine q_xg (v := (.int .i64 p_x.Ratio.Num)) hF hS (ex_load1 0 0 Try.underlying3 rfl rfl rfl rfl) (wanted_t hF rfl rfl rfl hc3) rfl fun a hF => ?_
        refine q_xg (v := (.pointer (some ⟨b1, 0, none⟩))) hF hS (ex_fieldAddr Try.underlying26 rfl sz24 rfl rfl) (wanted_t hF rfl rfl rfl hc3) rfl fun a hF => ?_
        refine q_xg (v := (.pointer (some ⟨b1, 1, none⟩))) hF hS (ex_fieldAddr Try.underlying24 rfl sz3 rfl rfl) (wanted_t hF rfl rfl rfl hc3) rfl fun a hF => ?_
        refine q_xg (v := (.int .i64 p_x.Ratio.Den)) hF hS (ex_load1 0 0 Try.underlying3 rfl rfl rfl rfl) (wanted_t hF rfl rfl rfl hc3) rfl fun a hF => ?_
        refine q_xg (v := (.bool (decide (p_x.Ratio.Den ≤ p_x.Ratio.Num)))) hF hS (ex_ibin rfl rfl rfl) (wanted_t hF rfl rfl rfl hc3) rfl fun a hF => ?_
        refine q_x (v := (.bool (decide (p_x.Ratio.Den ≤ p_x.Ratio.Num)))) hF hS (ex_pick_t rfl rfl hc3) rfl rfl fun a hF => ?_
        refine q_x (v := (.bool (decide (p_x.Ratio.Den ≤ p_x.Ratio.Num)))) hF hS (ex_move rfl) rfl rfl fun a hF => ?_
        rcases bcase (decide (p_x.Ratio.Den ≤ p_x.Ratio.Num)) with hc4 | hc4
        · have hj1 := cond_f hc4 hj1
          refine q_skip hF (wanted_f hF rfl rfl rfl hc4 rfl) rfl fun a hF => ?_
          refine q_skip hF (wanted_f hF rfl rfl rfl hc4 rfl) rfl fun a hF => ?_
          refine q_skip hF (wanted_f hF rfl rfl rfl hc4 rfl) rfl fun a hF => ?_
          refine q_skip hF (wanted_f hF rfl rfl rfl hc4 rfl) rfl fun a hF => ?_
          refine q_x (v := (.bool false)) hF hS (ex_pick_f rfl rfl hc4) rfl rfl fun a hF => ?_
          refine q_x (v := (.bool false)) hF hS (ex_assign rfl) rfl rfl fun a hF => ?_
          refine q_end (n_jn ?_)
          obtain rfl := someI hj1
          exact ⟨hF.sub ⟨rfl, trivial⟩, hS.mask [false]⟩
        · have hj1 := cond_t hc4 hj1
          refine q_xg (v := (.pointer (some ⟨b1, 2, none⟩))) hF hS (ex_fieldAddr Try.underlying26 rfl sz24 rfl rfl) (wanted_t hF rfl rfl rfl hc4) rfl fun a hF => ?_
          refine q_xg (v := (.pointer (some ⟨b1, 2, none⟩))) hF hS (ex_fieldAddr Try.underlying24 rfl sz3 rfl rfl) (wanted_t hF rfl rfl rfl hc4) rfl fun a hF => ?_
          refine q_xg (v := (.int .i64 p_x.Rho.Num)) hF hS (ex_load1 0 0 Try.underlying3 rfl rfl rfl rfl) (wanted_t hF rfl rfl rfl hc4) rfl fun a hF => ?_
          refine q_xg (v := (.bool (decide (0 ≤ p_x.Rho.Num)))) hF hS (ex_ibin rfl rfl rfl) (wanted_t hF rfl rfl rfl hc4) rfl fun a hF => ?_
          refine q_x (v := (.bool (decide (0 ≤ p_x.Rho.Num)))) hF hS (ex_pick_t rfl rfl hc4) rfl rfl fun a hF => ?_
          refine q_x (v := (.bool (decide (0 ≤ p_x.Rho.Num)))) hF hS (ex_assign rfl) rfl rfl fun a hF => ?_
          refine q_end (n_jn ?_)
          obtain rfl := someI hj1
          exact ⟨hF.sub ⟨rfl, trivial⟩, hS.mask [false]⟩
  · rintro a w ⟨hF, hS⟩
    refine n_sq (q_ret ?_)
    obtain rfl := someI hr
    exact ret_of hF hS rfl (.tmp rfl .nil) rfl

theorem c_impl_areEntries (p_l : List impl_Entry) (r : Bool) (hr : impl_areEntries p_l = some r) (w0 : World) (m : Mem) (hv : Vis m w0) (s1 : Sl) (h1 : Rd m s1 p_l) :
    Ret Try.prog 95 [s1.v] w0 (fun v _ => v = (.bool r)) := by
  unfold impl_areEntries at hr
  refine ret_start Try.func95 rfl 29 rfl rfl m hv fun a hF hS => ?_
  refine q_seq ?_
  refine q_region ?_
  refine q_x (v := (.bool false)) hF hS (ex_assign rfl) rfl rfl fun a hF => ?_
  refine q_end (n_sq ?_)
  refine q_seq ?_
  refine q_seq ?_
  refine q_region ?_
  refine q_x (v := s1.v) hF hS (ex_move rfl) rfl rfl fun a hF => ?_
  refine q_x (v := (.int .i64 (goLen p_l))) hF hS (ex_len Try.underlying39 rfl h1.len) rfl rfl fun a hF => ?_
  refine q_x (v := (.bool (decide (30 < (goLen p_l))))) hF hS (ex_ibin rfl rfl rfl) rfl rfl fun a hF => ?_
  refine q_end (n_sq ?_)
  rcases bcase (decide (30 < (goLen p_l))) with hc1 | hc1
  · have hr := cond_f hc1 hr
    refine q_cond_f hF rfl hc1 ?_
    refine q_skipc (n_sq ?_)
    refine q_seq ?_
    refine q_seq ?_
    refine q_region ?_
    refine q_x (v := s1.v) hF hS (ex_move rfl) rfl rfl fun a hF => ?_
    refine q_x (v := (.int .i64 (goLen p_l))) hF hS (ex_len Try.underlying39 rfl h1.len) rfl rfl fun a hF => ?_
    refine q_x (v := (.int .i64 0)) hF hS (ex_move rfl) rfl rfl fun a hF => ?_
    refine q_end (n_sq ?_)
    refine q_block ?_
    obtain ⟨o2, hl2, hr⟩ := bindS hr
    refine q_loop (fun (t_2 : Int) a w => Fr a 29 [(8, s1.v), (9, (.int .i64 (goLen p_l))), (10, (.int .i64 t_2))] ∧ St [] w0 w m []) (fun (o : (Unit) ⊕ (Bool)) e a w => o = .inl () ∧ e = .exit 0 ∧ Fr a 29 [] ∧ St [] w0 w m []) hl2 ⟨hF.sub ⟨rfl, rfl, rfl, trivial⟩, hS⟩ ?_ ?_
    · clear hF hS
      rintro t_2 a w st ⟨hF, hS⟩ hb2
      unfold impl_areEntries_l1 at hb2
      refine q_seq ?_
      refine q_region ?_
      refine q_x (v := (.bool (decide (t_2 < (goLen p_l))))) hF hS (ex_ibin rfl rfl rfl) rfl rfl fun a hF => ?_
      refine q_end (n_sq ?_)
      refine q_seq ?_
      rcases bcase (decide (t_2 < (goLen p_l))) with hc3 | hc3
      · have hb2 := cond_f hc3 hb2
        refine q_cond_f hF rfl hc3 ?_
        refine q_exit (x_sq ?_)
        obtain rfl := someI hb2
        exact ⟨nofun, .inl ⟨rfl, rfl, hF.sub trivial, hS⟩⟩
      · have hb2 := cond_t hc3 hb2
        refine q_cond_t hF rfl hc3 ?_
        refine q_skipc (n_sq ?_)
        refine q_seq ?_
        refine q_block ?_
        refine q_seq ?_
        refine q_region ?_
        obtain ⟨e_3, he_3, hb2⟩ := bindS hb2
        obtain ⟨vs4, at4, d4⟩ := h1.at he_3 5 rfl
        obtain rfl : vs4 = [(.int .i64 e_3.Scope), (.int .i64 e_3.Loss.Ratio.Num), (.int .i64 e_3.Loss.Ratio.Den), (.int .i64 e_3.Loss.Rho.Num), (.int .i64 e_3.Loss.Rho.Den)] := d4
        refine q_x (v := (elP s1 (t_2.toNat * 5))) hF hS (ex_indexAddr Try.underlying39 sz49 rfl rfl (h1.idx he_3)) rfl rfl fun a hF => ?_
        refine q_x (v := (.agg #[(.int .i64 e_3.Scope), (.int .i64 e_3.Loss.Ratio.Num), (.int .i64 e_3.Loss.Ratio.Den), (.int .i64 e_3.Loss.Rho.Num), (.int .i64 e_3.Loss.Rho.Den)])) hF hS (ex_loadEA (us := [(.int .i64 e_3.Scope), (.int .i64 e_3.Loss.Ratio.Num), (.int .i64 e_3.Loss.Ratio.Den), (.int .i64 e_3.Loss.Rho.Num), (.int .i64 e_3.Loss.Rho.Den)]) 0 Try.underlying49 rfl sz49 rfl ((at4).at) rfl rfl rfl) rfl rfl fun a hF => ?_
        refine q_alloc (cs := [(.int .i64 0), (.int .i64 0), (.int .i64 0), (.int .i64 0), (.int .i64 0)]) hF hS rfl rfl rfl fun a w b5 hF hS => ?_
        refine q_store (vs := [(.int .i64 e_3.Scope), (.int .i64 e_3.Loss.Ratio.Num), (.int .i64 e_3.Loss.Ratio.Den), (.int .i64 e_3.Loss.Rho.Num), (.int .i64 e_3.Loss.Rho.Den)]) (cs' := [(.int .i64 e_3.Scope), (.int .i64 e_3.Loss.Ratio.Num), (.int .i64 e_3.Loss.Ratio.Den), (.int .i64 e_3.Loss.Rho.Num), (.int .i64 e_3.Loss.Rho.Den)]) 0 0 hF hS sz49 rfl rfl rfl rfl rfl rfl rfl rfl fun a w hF hS => ?_
        refine q_end (n_sq ?_)
        refine q_seq ?_
        obtain ⟨t_7, hj4, hb2⟩ := bindS hb2
        refine q_join (fun a w => Fr a 29 [(8, s1.v), (9, (.int .i64 (goLen p_l))), (10, (.int .i64 t_2)), (27, (.bool t_7))] ∧ St [] w0 w m []) ?_ ?_
        · refine q_region ?_
          refine q_x (v := (.pointer (some ⟨b5, 0, none⟩))) hF hS (ex_fieldAddr Try.underlying49 rfl sz3 rfl rfl) rfl rfl fun a hF => ?_
          refine q_x (v := (.int .i64 e_3.Scope)) hF hS (ex_load1 0 0 Try.underlying3 rfl rfl rfl rfl) rfl rfl fun a hF => ?_
          refine q_x (v := (.bool (decide (e_3.Scope < (-1))))) hF hS (ex_ibin rfl rfl rfl) rfl rfl fun a hF => ?_
          refine q_x (v := (.bool (decide (e_3.Scope < (-1))))) hF hS (ex_move rfl) rfl rfl fun a hF => ?_
          rcases bcase (decide (e_3.Scope < (-1))) with hc5 | hc5
          · have hj4 := cond_f hc5 hj4
            refine q_xg (v := (.pointer (some ⟨b5, 0, none⟩))) hF hS (ex_fieldAddr Try.underlying49 rfl sz3 rfl rfl) (wanted_t hF rfl rfl rfl hc5) rfl fun a hF => ?_
            refine q_xg (v := (.int .i64 e_3.Scope)) hF hS (ex_load1 0 0 Try.underlying3 rfl rfl rfl rfl) (wanted_t hF rfl rfl rfl hc5) rfl fun a hF => ?_
            refine q_xg (v := (.bool (decide (29 < e_3.Scope)))) hF hS (ex_ibin rfl rfl rfl) (wanted_t hF rfl rfl rfl hc5) rfl fun a hF => ?_
            refine q_x (v := (.bool (decide (29 < e_3.Scope)))) hF hS (ex_pick_f rfl rfl hc5) rfl rfl fun a hF => ?_
            refine q_x (v := (.bool (decide (29 < e_3.Scope)))) hF hS (ex_move rfl) rfl rfl fun a hF => ?_
            rcases bcase (decide (29 < e_3.Scope)) with hc6 | hc6
            · have hj4 := cond_f hc6 hj4
              refine q_xg (v := (.pointer (some ⟨b5, 1, none⟩))) hF hS (ex_fieldAddr Try.underlying49 rfl sz26 rfl rfl) (wanted_t hF rfl rfl rfl hc6) rfl fun a hF => ?_
              refine q_xg (v := (.agg #[(.int .i64 e_3.Loss.Ratio.Num), (.int .i64 e_3.Loss.Ratio.Den), (.int .i64 e_3.Loss.Rho.Num), (.int .i64 e_3.Loss.Rho.Den)])) hF hS (ex_loadA (vs := [(.int .i64 e_3.Loss.Ratio.Num), (.int .i64 e_3.Loss.Ratio.Den), (.int .i64 e_3.Loss.Rho.Num), (.int .i64 e_3.Loss.Rho.Den)]) 0 0 Try.underlying26 rfl sz26 rfl rfl rfl rfl) (wanted_t hF rfl rfl rfl hc6) rfl fun a hF => ?_
              obtain ⟨t_6, ht_6, hj4⟩ := bindS hj4
              refine q_callg (vs := [(.agg #[(.int .i64 e_3.Loss.Ratio.Num), (.int .i64 e_3.Loss.Ratio.Den), (.int .i64 e_3.Loss.Rho.Num), (.int .i64 e_3.Loss.Rho.Den)])]) hF hS (wanted_t hF rfl rfl rfl hc6) Try.func17 (by kernel_rfl) rfl rfl rfl (c_impl_IsLoss e_3.Loss t_6 ht_6 _ m hS.vis) ?_
              rintro a w _ rfl hF hS
              refine q_xg (v := (.bool (!t_6))) hF hS (ex_not rfl) (wanted_t hF rfl rfl rfl hc6) rfl fun a hF => ?_
              refine q_x (v := (.bool (!t_6))) hF hS (ex_pick_f rfl rfl hc6) rfl rfl fun a hF => ?_
              refine q_end (n_jn ?_)
              obtain rfl := someI hj4
              exact ⟨hF.sub ⟨rfl, rfl, rfl, rfl, trivial⟩, hS.mask [false]⟩
            · have hj4 := cond_t hc6 hj4
              refine q_skip hF (wanted_f hF rfl rfl rfl hc6 rfl) rfl fun a hF => ?_
              refine q_skip hF (wanted_f hF rfl rfl rfl hc6 rfl) rfl fun a hF => ?_
              refine q_skip hF (wanted_f hF rfl rfl rfl hc6 rfl) rfl fun a hF => ?_
              refine q_skip hF (wanted_f hF rfl rfl rfl hc6 rfl) rfl fun a hF => ?_
              refine q_x (v := (.bool true)) hF hS (ex_pick_t rfl rfl hc6) rfl rfl fun a hF => ?_
              refine q_end (n_jn ?_)
              obtain rfl := someI hj4
              exact ⟨hF.sub ⟨rfl, rfl, rfl, rfl, trivial⟩, hS.mask [false]⟩
          · have hj4 := cond_t hc5 hj4
            refine q_skip hF (wanted_f hF rfl rfl rfl hc5 rfl) rfl fun a hF => ?_
            refine q_skip hF (wanted_f hF rfl rfl rfl hc5 rfl) rfl fun a hF => ?_
            refine q_skip hF (wanted_f hF rfl rfl rfl hc5 rfl) rfl fun a hF => ?_
            refine q_x (v := (.bool true)) hF hS (ex_pick_t rfl rfl hc5) rfl rfl fun a hF => ?_
            refine q_x (v := (.bool true)) hF hS (ex_move rfl) rfl rfl fun a hF => ?_
            refine q_skip hF (wanted_f hF rfl rfl rfl rfl rfl) rfl fun a hF => ?_
            refine q_skip hF (wanted_f hF rfl rfl rfl rfl rfl) rfl fun a hF => ?_
            refine q_skip hF (wanted_f hF rfl rfl rfl rfl rfl) rfl fun a hF => ?_
            refine q_skip hF (wanted_f hF rfl rfl rfl rfl rfl) rfl fun a hF => ?_
            refine q_x (v := (.bool true)) hF hS (ex_pick_t rfl rfl rfl) rfl rfl fun a hF => ?_
            refine q_end (n_jn ?_)
            obtain rfl := someI hj4
            exact ⟨hF.sub ⟨rfl, rfl, rfl, rfl, trivial⟩, hS.mask [false]⟩
        · rintro a w ⟨hF, hS⟩
          refine n_sq ?_
          rcases bcase (t_7) with hc7 | hc7
          · have hb2 := cond_f hc7 hb2
            refine q_cond_f hF rfl hc7 ?_
            refine q_skipc (n_ib (n_sq ?_))
            refine q_region ?_
            refine q_x (v := (.int .i64 (w64 (t_2 + 1)))) hF hS (ex_ibin rfl rfl rfl) rfl rfl fun a hF => ?_
            refine q_x (v := (.int .i64 (w64 (t_2 + 1)))) hF hS (ex_move rfl) rfl rfl fun a hF => ?_
            refine q_end ?_
            obtain rfl := someI hb2
            exact ⟨rfl, hF.sub ⟨rfl, rfl, rfl, trivial⟩, hS⟩
          · have hb2 := cond_t hc7 hb2
            refine q_cond_t hF rfl hc7 ?_
            refine q_seq ?_
            refine q_region ?_
            refine q_x (v := (.bool false)) hF hS (ex_assign rfl) rfl rfl fun a hF => ?_
            refine q_end (n_sq (q_ret (r_ib (r_sq ?_))))
            obtain rfl := someI hb2
            refine ⟨nofun, .inr fun ho => ?_⟩
            subst ho
            refine r_ib (r_sq ?_)
            obtain rfl := someI hr
            exact ret_of hF hS rfl (.tmp rfl .nil) rfl
    · rintro e a w ⟨rfl, rfl, hF, hS⟩
      refine x_ib (n_sq ?_)
      refine q_seq ?_
      refine q_region ?_
      refine q_x (v := (.bool true)) hF hS (ex_assign rfl) rfl rfl fun a hF => ?_
      refine q_end (n_sq (q_ret ?_))
      obtain rfl := someI hr
      exact ret_of hF hS rfl (.tmp rfl .nil) rfl
  · have hr := cond_t hc1 hr
    refine q_cond_t hF rfl hc1 ?_
    refine q_seq ?_
    refine q_region ?_
    refine q_x (v := (.bool false)) hF hS (ex_assign rfl) rfl rfl fun a hF => ?_
    refine q_end (n_sq (q_ret (r_sq ?_)))
    obtain rfl := someI hr
    exact ret_of hF hS rfl (.tmp rfl .nil) rfl

theorem c_impl_NoLoss  (r : impl_Loss) (hr : impl_NoLoss = some r) (w0 : World) (m : Mem) (hv : Vis m w0) :
    Ret Try.prog 36 [] w0 (fun v _ => v = (.agg #[(.int .i64 r.Ratio.Num), (.int .i64 r.Ratio.Den), (.int .i64 r.Rho.Num), (.int .i64 r.Rho.Den)])) := by
  unfold impl_NoLoss at hr
  refine ret_start Try.func36 rfl 4 rfl rfl m hv fun a hF hS => ?_
  refine q_seq ?_
  refine q_region ?_
  refine q_alloc (cs := [(.int .i64 0), (.int .i64 0), (.int .i64 0), (.int .i64 0)]) hF hS rfl rfl rfl fun a w b1 hF hS => ?_
  refine q_end (n_sq ?_)
  refine q_seq ?_
  refine q_region ?_
  refine q_x (v := (.agg #[(.int .i64 1), (.int .i64 1)])) hF hS (ex_build (cells := [(.int .i64 1), (.int .i64 1)]) rfl (by kernel_rfl)) rfl rfl fun a hF => ?_
  refine q_x (v := (.agg #[(.int .i64 0), (.int .i64 1)])) hF hS (ex_build (cells := [(.int .i64 0), (.int .i64 1)]) rfl (by kernel_rfl)) rfl rfl fun a hF => ?_
  refine q_x (v := (.agg #[(.int .i64 1), (.int .i64 1), (.int .i64 0), (.int .i64 1)])) hF hS (ex_build (cells := [(.int .i64 1), (.int .i64 1), (.int .i64 0), (.int .i64 1)]) rfl (by kernel_rfl)) rfl rfl fun a hF => ?_
  refine q_store (vs := [(.int .i64 1), (.int .i64 1), (.int .i64 0), (.int .i64 1)]) (cs' := [(.int .i64 1), (.int .i64 1), (.int .i64 0), (.int .i64 1)]) 0 0 hF hS sz26 rfl rfl rfl rfl rfl rfl rfl rfl fun a w hF hS => ?_
  refine q_end (n_sq (q_ret ?_))
  obtain rfl := someI hr
  exact ret_of hF hS rfl (.cellA (us := [(.int .i64 1), (.int .i64 1), (.int .i64 0), (.int .i64 1)]) 0 0 Try.underlying26 rfl sz26 rfl rfl rfl rfl .nil) rfl

theorem c_impl_reduced (p_n : Int) (p_d : Int) (r : impl_Frac × Bool) (hr : impl_reduced p_n p_d = some r) (w0 : World) (m : Mem) (hv : Vis m w0) :
    Ret Try.prog 114 [(.int .i64 p_n), (.int .i64 p_d)] w0 (fun v _ => v = (.tuple #[(.agg #[(.int .i64 r.1.Num), (.int .i64 r.1.Den)]), (.bool r.2)])) := by
  unfold impl_reduced at hr
  refine ret_start Try.func114 rfl 36 rfl rfl m hv fun a hF hS => ?_
  refine q_seq ?_
  refine q_region ?_
  refine q_alloc (cs := [(.int .i64 0), (.int .i64 0)]) hF hS rfl rfl rfl fun a w b1 hF hS => ?_
  refine q_x (v := (.bool false)) hF hS (ex_assign rfl) rfl rfl fun a hF => ?_
  refine q_end (n_sq ?_)
  refine q_seq ?_
  refine q_region ?_
  refine q_x (v := (.int .i64 p_n)) hF hS (ex_move rfl) rfl rfl fun a hF => ?_
  refine q_x (v := (.int .i64 p_d)) hF hS (ex_move rfl) rfl rfl fun a hF => ?_
  obtain ⟨t_2, ht_2, hr⟩ := bindS hr
  refine q_call (vs := [(.int .i64 p_n), (.int .i64 p_d)]) hF hS Try.func157 (by kernel_rfl) rfl rfl rfl (c_impl_gcdOf p_n p_d t_2 ht_2 _ m hS.vis) ?_
  rintro a w _ rfl hF hS
  refine q_x (v := (.int .i64 t_2)) hF hS (ex_assign rfl) rfl rfl fun a hF => ?_
  refine q_end (n_sq ?_)
  refine q_seq ?_
  refine e_region [] mixed fun w' hw' => ?_
  have hS := hS.below hw'
  refine e_p (v := (.int .i64 p_n)) 0 hF rfl (ex_move rfl) rfl rfl (by kernel_rfl) (by kernel_rfl) (by kernel_rfl) fun a hF => ?_
  refine e_p (v := (.int .i64 t_2)) 1 hF rfl (ex_move rfl) rfl rfl (by kernel_rfl) (by kernel_rfl) (by kernel_rfl) fun a hF => ?_
  obtain ⟨t_3, ht_3, hr⟩ := bindS hr
  refine e_p (v := (.int .i64 t_3)) 2 hF rfl (ex_quo rfl rfl ht_3) rfl rfl (by kernel_rfl) (by kernel_rfl) (by kernel_rfl) fun a hF => ?_
  refine e_p (v := (.int .i64 p_d)) 3 hF rfl (ex_move rfl) rfl rfl (by kernel_rfl) (by kernel_rfl) (by kernel_rfl) fun a hF => ?_
  refine e_p (v := (.int .i64 t_2)) 4 hF rfl (ex_move rfl) rfl rfl (by kernel_rfl) (by kernel_rfl) (by kernel_rfl) fun a hF => ?_
  obtain ⟨t_4, ht_4, hr⟩ := bindS hr
  refine e_p (v := (.int .i64 t_4)) 5 hF rfl (ex_quo rfl rfl ht_4) rfl rfl (by kernel_rfl) (by kernel_rfl) (by kernel_rfl) fun a hF => ?_
  refine e_p (v := (.int .i64 t_3)) 6 hF rfl (ex_assign rfl) rfl rfl (by kernel_rfl) (by kernel_rfl) (by kernel_rfl) fun a hF => ?_
  refine e_p (v := (.int .i64 t_4)) 7 hF rfl (ex_assign rfl) rfl rfl (by kernel_rfl) (by kernel_rfl) (by kernel_rfl) fun a hF => ?_
  refine e_end (by kernel_rfl) (n_sq ?_) _
  refine q_seq ?_
  refine q_seq ?_
  refine q_region ?_
  refine q_x (v := (.int .i64 t_4)) hF hS (ex_move rfl) rfl rfl fun a hF => ?_
  refine q_x (v := (.bool (decide (t_4 < 0)))) hF hS (ex_ibin rfl rfl rfl) rfl rfl fun a hF => ?_
  refine q_end (n_sq ?_)
  obtain ⟨j1, hj1, hr⟩ := bindS hr
  refine q_join (fun a w => ∃ n_5, ∃ d_6, j1 = (n_5, d_6) ∧ Fr a 36 [(0, (.int .i64 n_5)), (1, (.int .i64 d_6)), (4, (.pointer (some ⟨b1, 0, none⟩)))] ∧ St [] w0 w m [[⟨b1, [(.int .i64 0), (.int .i64 0)], 24⟩]]) ?_ ?_
  · rcases bcase (decide (t_4 < 0)) with hc2 | hc2
    · have hj1 := cond_f hc2 hj1
      refine q_cond_f hF rfl hc2 ?_
      refine q_skipc (n_jn ?_)
      obtain rfl := someI hj1
      exact ⟨_, _, rfl, hF.sub ⟨rfl, rfl, rfl, trivial⟩, hS⟩
    · have hj1 := cond_t hc2 hj1
      refine q_cond_t hF rfl hc2 ?_
      refine q_region ?_
      refine q_x (v := (.int .i64 t_3)) hF hS (ex_move rfl) rfl rfl fun a hF => ?_
      refine q_x (v := (.int .i64 (w64 (-t_3)))) hF hS (ex_neg rfl) rfl rfl fun a hF => ?_
      refine q_x (v := (.int .i64 t_4)) hF hS (ex_move rfl) rfl rfl fun a hF => ?_
      refine q_x (v := (.int .i64 (w64 (-t_4)))) hF hS (ex_neg rfl) rfl rfl fun a hF => ?_
      refine q_x (v := (.int .i64 (w64 (-t_3)))) hF hS (ex_assign rfl) rfl rfl fun a hF => ?_
      refine q_x (v := (.int .i64 (w64 (-t_4)))) hF hS (ex_assign rfl) rfl rfl fun a hF => ?_
      refine q_end (n_jn ?_)
      obtain rfl := someI hj1
      exact ⟨_, _, rfl, hF.sub ⟨rfl, rfl, rfl, trivial⟩, hS⟩
  · rintro a w ⟨n_5, d_6, rfl, hF, hS⟩
    refine n_sq ?_
    refine q_seq ?_
    refine q_seq ?_
    obtain ⟨t_7, hj3, hr⟩ := bindS hr
    refine q_join (fun a w => Fr a 36 [(0, (.int .i64 n_5)), (1, (.int .i64 d_6)), (4, (.pointer (some ⟨b1, 0, none⟩))), (31, (.bool t_7))] ∧ St [] w0 w m [[⟨b1, [(.int .i64 0), (.int .i64 0)], 24⟩]]) ?_ ?_
    · refine q_region ?_
      refine q_x (v := (.int .i64 n_5)) hF hS (ex_move rfl) rfl rfl fun a hF => ?_
      refine q_x (v := (.bool (decide (1000000000 < n_5)))) hF hS (ex_ibin rfl rfl rfl) rfl rfl fun a hF => ?_
      refine q_x (v := (.bool (decide (1000000000 < n_5)))) hF hS (ex_move rfl) rfl rfl fun a hF => ?_
      rcases bcase (decide (1000000000 < n_5)) with hc4 | hc4
      · have hj3 := cond_f hc4 hj3
        refine q_xg (v := (.int .i64 n_5)) hF hS (ex_move rfl) (wanted_t hF rfl rfl rfl hc4) rfl fun a hF => ?_
        refine q_xg (v := (.bool (decide (n_5 < (-1000000000))))) hF hS (ex_ibin rfl rfl rfl) (wanted_t hF rfl rfl rfl hc4) rfl fun a hF => ?_
        refine q_x (v := (.bool (decide (n_5 < (-1000000000))))) hF hS (ex_pick_f rfl rfl hc4) rfl rfl fun a hF => ?_
        refine q_x (v := (.bool (decide (n_5 < (-1000000000))))) hF hS (ex_move rfl) rfl rfl fun a hF => ?_
        rcases bcase (decide (n_5 < (-1000000000))) with hc5 | hc5
        · have hj3 := cond_f hc5 hj3
          refine q_xg (v := (.int .i64 d_6)) hF hS (ex_move rfl) (wanted_t hF rfl rfl rfl hc5) rfl fun a hF => ?_
          refine q_xg (v := (.bool (decide (1000000000 < d_6)))) hF hS (ex_ibin rfl rfl rfl) (wanted_t hF rfl rfl rfl hc5) rfl fun a hF => ?_
          refine q_x (v := (.bool (decide (1000000000 < d_6)))) hF hS (ex_pick_f rfl rfl hc5) rfl rfl fun a hF => ?_
          refine q_end (n_jn ?_)
          obtain rfl := someI hj3
          exact ⟨hF.sub ⟨rfl, rfl, rfl, rfl, trivial⟩, hS⟩
        · have hj3 := cond_t hc5 hj3
          refine q_skip hF (wanted_f hF rfl rfl rfl hc5 rfl) rfl fun a hF => ?_
          refine q_skip hF (wanted_f hF rfl rfl rfl hc5 rfl) rfl fun a hF => ?_
          refine q_x (v := (.bool true)) hF hS (ex_pick_t rfl rfl hc5) rfl rfl fun a hF => ?_
          refine q_end (n_jn ?_)
          obtain rfl := someI hj3
          exact ⟨hF.sub ⟨rfl, rfl, rfl, rfl, trivial⟩, hS⟩
      · have hj3 := cond_t hc4 hj3
        refine q_skip hF (wanted_f hF rfl rfl rfl hc4 rfl) rfl fun a hF => ?_
        refine q_skip hF (wanted_f hF rfl rfl rfl hc4 rfl) rfl fun a hF => ?_
        refine q_x (v := (.bool true)) hF hS (ex_pick_t rfl rfl hc4) rfl rfl fun a hF => ?_
        refine q_x (v := (.bool true)) hF hS (ex_move rfl) rfl rfl fun a hF => ?_
        refine q_skip hF (wanted_f hF rfl rfl rfl rfl rfl) rfl fun a hF => ?_
        refine q_skip hF (wanted_f hF rfl rfl rfl rfl rfl) rfl fun a hF => ?_
        refine q_x (v := (.bool true)) hF hS (ex_pick_t rfl rfl rfl) rfl rfl fun a hF => ?_
        refine q_end (n_jn ?_)
        obtain rfl := someI hj3
        exact ⟨hF.sub ⟨rfl, rfl, rfl, rfl, trivial⟩, hS⟩
    · rintro a w ⟨hF, hS⟩
      refine n_sq ?_
      rcases bcase (t_7) with hc6 | hc6
      · have hr := cond_f hc6 hr
        refine q_cond_f hF rfl hc6 ?_
        refine q_skipc (n_sq ?_)
        refine q_seq ?_
        refine q_region ?_
        refine q_x (v := (.int .i64 n_5)) hF hS (ex_move rfl) rfl rfl fun a hF => ?_
        refine q_x (v := (.int .i64 d_6)) hF hS (ex_move rfl) rfl rfl fun a hF => ?_
        refine q_x (v := (.agg #[(.int .i64 n_5), (.int .i64 d_6)])) hF hS (ex_build (cells := [(.int .i64 n_5), (.int .i64 d_6)]) rfl (by kernel_rfl)) rfl rfl fun a hF => ?_
        refine q_store (vs := [(.int .i64 n_5), (.int .i64 d_6)]) (cs' := [(.int .i64 n_5), (.int .i64 d_6)]) 0 0 hF hS sz24 rfl rfl rfl rfl rfl rfl rfl rfl fun a w hF hS => ?_
        refine q_x (v := (.bool true)) hF hS (ex_assign rfl) rfl rfl fun a hF => ?_
        refine q_end (n_sq (q_ret ?_))
        obtain rfl := someI hr
        exact ret_of hF hS rfl (.cellA (us := [(.int .i64 n_5), (.int .i64 d_6)]) 0 0 Try.underlying24 rfl sz24 rfl rfl rfl rfl (.tmp rfl .nil)) rfl
      · have hr := cond_t hc6 hr
        refine q_cond_t hF rfl hc6 ?_
        refine q_seq ?_
        refine q_region ?_
        refine q_x (v := (.agg #[(.int .i64 0), (.int .i64 0)])) hF hS (ex_build (cells := [(.int .i64 0), (.int .i64 0)]) rfl (by kernel_rfl)) rfl rfl fun a hF => ?_
        refine q_store (vs := [(.int .i64 0), (.int .i64 0)]) (cs' := [(.int .i64 0), (.int .i64 0)]) 0 0 hF hS sz24 rfl rfl rfl rfl rfl rfl rfl rfl fun a w hF hS => ?_
        refine q_x (v := (.bool false)) hF hS (ex_assign rfl) rfl rfl fun a hF => ?_
        refine q_end (n_sq (q_ret (r_sq ?_)))
        obtain rfl := someI hr
        exact ret_of hF hS rfl (.cellA (us := [(.int .i64 0), (.int .i64 0)]) 0 0 Try.underlying24 rfl sz24 rfl rfl rfl rfl (.tmp rfl .nil)) rfl

theorem c_impl_MulFrac (p_a : impl_Frac) (p_b : impl_Frac) (r : impl_Frac × Bool) (hr : impl_MulFrac p_a p_b = some r) (w0 : World) (m : Mem) (hv : Vis m w0) :
    Ret Try.prog 103 [(.agg #[(.int .i64 p_a.Num), (.int .i64 p_a.Den)]), (.agg #[(.int .i64 p_b.Num), (.int .i64 p_b.Den)])] w0 (fun v _ => v = (.tuple #[(.agg #[(.int .i64 r.1.Num), (.int .i64 r.1.Den)]), (.bool r.2)])) := by
  unfold impl_MulFrac at hr
  refine ret_start Try.func103 rfl 28 rfl rfl m hv fun a hF hS => ?_
  refine q_seq ?_
  refine q_region ?_
  refine q_box (cs := [(.int .i64 p_a.Num), (.int .i64 p_a.Den)]) hF hS rfl rfl rfl fun a w b1 hF hS => ?_
  refine q_box (cs := [(.int .i64 p_b.Num), (.int .i64 p_b.Den)]) hF hS rfl rfl rfl fun a w b2 hF hS => ?_
  refine q_alloc (cs := [(.int .i64 0), (.int .i64 0)]) hF hS rfl rfl rfl fun a w b3 hF hS => ?_
  refine q_x (v := (.bool false)) hF hS (ex_assign rfl) rfl rfl fun a hF => ?_
  refine q_end (n_sq ?_)
  refine q_seq ?_
  refine q_seq ?_
  obtain ⟨t_6, hj1, hr⟩ := bindS hr
  refine q_join (fun a w => Fr a 28 [(2, (.pointer (some ⟨b1, 0, none⟩))), (3, (.pointer (some ⟨b2, 0, none⟩))), (4, (.pointer (some ⟨b3, 0, none⟩))), (13, (.bool t_6))] ∧ St [] w0 w m [[⟨b3, [(.int .i64 0), (.int .i64 0)], 24⟩], [⟨b2, [(.int .i64 p_b.Num), (.int .i64 p_b.Den)], 24⟩], [⟨b1, [(.int .i64 p_a.Num), (.int .i64 p_a.Den)], 24⟩]]) ?_ ?_
  · refine q_region ?_
    refine q_x (v := (.agg #[(.int .i64 p_a.Num), (.int .i64 p_a.Den)])) hF hS (ex_loadA (vs := [(.int .i64 p_a.Num), (.int .i64 p_a.Den)]) 2 0 Try.underlying24 rfl sz24 rfl rfl rfl rfl) rfl rfl fun a hF => ?_
    obtain ⟨t_4, ht_4, hj1⟩ := bindS hj1
    refine q_call (vs := [(.agg #[(.int .i64 p_a.Num), (.int .i64 p_a.Den)])]) hF hS Try.func94 (by kernel_rfl) rfl rfl rfl (c_impl_IsFrac p_a t_4 ht_4 _ m hS.vis) ?_
    rintro a w _ rfl hF hS
    refine q_x (v := (.bool (!t_4))) hF hS (ex_not rfl) rfl rfl fun a hF => ?_
    refine q_x (v := (.bool (!t_4))) hF hS (ex_move rfl) rfl rfl fun a hF => ?_
    rcases bcase (!t_4) with hc2 | hc2
    · have hj1 := cond_f hc2 hj1
      refine q_xg (v := (.agg #[(.int .i64 p_b.Num), (.int .i64 p_b.Den)])) hF hS (ex_loadA (vs := [(.int .i64 p_b.Num), (.int .i64 p_b.Den)]) 1 0 Try.underlying24 rfl sz24 rfl rfl rfl rfl) (wanted_t hF rfl rfl rfl hc2) rfl fun a hF => ?_
      obtain ⟨t_5, ht_5, hj1⟩ := bindS hj1
      refine q_callg (vs := [(.agg #[(.int .i64 p_b.Num), (.int .i64 p_b.Den)])]) hF hS (wanted_t hF rfl rfl rfl hc2) Try.func94 (by kernel_rfl) rfl rfl rfl (c_impl_IsFrac p_b t_5 ht_5 _ m hS.vis) ?_
      rintro a w _ rfl hF hS
      refine q_xg (v := (.bool (!t_5))) hF hS (ex_not rfl) (wanted_t hF rfl rfl rfl hc2) rfl fun a hF => ?_
      refine q_x (v := (.bool (!t_5))) hF hS (ex_pick_f rfl rfl hc2) rfl rfl fun a hF => ?_
      refine q_end (n_jn ?_)
      obtain rfl := someI hj1
      exact ⟨hF.sub ⟨rfl, rfl, rfl, rfl, trivial⟩, hS⟩
    · have hj1 := cond_t hc2 hj1
      refine q_skip hF (wanted_f hF rfl rfl rfl hc2 rfl) rfl fun a hF => ?_
      refine q_skip hF (wanted_f hF rfl rfl rfl hc2 rfl) rfl fun a hF => ?_
      refine q_skip hF (wanted_f hF rfl rfl rfl hc2 rfl) rfl fun a hF => ?_
      refine q_x (v := (.bool true)) hF hS (ex_pick_t rfl rfl hc2) rfl rfl fun a hF => ?_
      refine q_end (n_jn ?_)
      obtain rfl := someI hj1
      exact ⟨hF.sub ⟨rfl, rfl, rfl, rfl, trivial⟩, hS⟩
  · rintro a w ⟨hF, hS⟩
    refine n_sq ?_
    rcases bcase (t_6) with hc3 | hc3
    · have hr := cond_f hc3 hr
      refine q_cond_f hF rfl hc3 ?_
      refine q_skipc (n_sq ?_)
      refine q_seq ?_
      refine q_region ?_
      refine q_x (v := (.pointer (some ⟨b1, 0, none⟩))) hF hS (ex_fieldAddr Try.underlying24 rfl sz3 rfl rfl) rfl rfl fun a hF => ?_
      refine q_x (v := (.int .i64 p_a.Num)) hF hS (ex_load1 2 0 Try.underlying3 rfl rfl rfl rfl) rfl rfl fun a hF => ?_
      refine q_x (v := (.pointer (some ⟨b2, 0, none⟩))) hF hS (ex_fieldAddr Try.underlying24 rfl sz3 rfl rfl) rfl rfl fun a hF => ?_
      refine q_x (v := (.int .i64 p_b.Num)) hF hS (ex_load1 1 0 Try.underlying3 rfl rfl rfl rfl) rfl rfl fun a hF => ?_
      refine q_x (v := (.int .i64 (w64 (p_a.Num * p_b.Num)))) hF hS (ex_ibin rfl rfl rfl) rfl rfl fun a hF => ?_
      refine q_x (v := (.pointer (some ⟨b1, 1, none⟩))) hF hS (ex_fieldAddr Try.underlying24 rfl sz3 rfl rfl) rfl rfl fun a hF => ?_
      refine q_x (v := (.int .i64 p_a.Den)) hF hS (ex_load1 2 0 Try.underlying3 rfl rfl rfl rfl) rfl rfl fun a hF => ?_
      refine q_x (v := (.pointer (some ⟨b2, 1, none⟩))) hF hS (ex_fieldAddr Try.underlying24 rfl sz3 rfl rfl) rfl rfl fun a hF => ?_
      refine q_x (v := (.int .i64 p_b.Den)) hF hS (ex_load1 1 0 Try.underlying3 rfl rfl rfl rfl) rfl rfl fun a hF => ?_
      refine q_x (v := (.int .i64 (w64 (p_a.Den * p_b.Den)))) hF hS (ex_ibin rfl rfl rfl) rfl rfl fun a hF => ?_
      obtain ⟨t_7, ht_7, hr⟩ := bindS hr
      refine q_call (vs := [(.int .i64 (w64 (p_a.Num * p_b.Num))), (.int .i64 (w64 (p_a.Den * p_b.Den)))]) hF hS Try.func114 (by kernel_rfl) rfl rfl rfl (c_impl_reduced (w64 (p_a.Num * p_b.Num)) (w64 (p_a.Den * p_b.Den)) t_7 ht_7 _ m hS.vis) ?_
      rintro a w _ rfl hF hS
      refine q_x (v := (.agg #[(.int .i64 t_7.1.Num), (.int .i64 t_7.1.Den)])) hF hS (ex_extract rfl rfl) rfl rfl fun a hF => ?_
      refine q_x (v := (.bool t_7.2)) hF hS (ex_extract rfl rfl) rfl rfl fun a hF => ?_
      refine q_store (vs := [(.int .i64 t_7.1.Num), (.int .i64 t_7.1.Den)]) (cs' := [(.int .i64 t_7.1.Num), (.int .i64 t_7.1.Den)]) 0 0 hF hS sz24 rfl rfl rfl rfl rfl rfl rfl rfl fun a w hF hS => ?_
      refine q_x (v := (.bool t_7.2)) hF hS (ex_assign rfl) rfl rfl fun a hF => ?_
      refine q_end (n_sq (q_ret ?_))
      obtain rfl := someI hr
      exact ret_of hF hS rfl (.cellA (us := [(.int .i64 t_7.1.Num), (.int .i64 t_7.1.Den)]) 0 0 Try.underlying24 rfl sz24 rfl rfl rfl rfl (.tmp rfl .nil)) rfl
    · have hr := cond_t hc3 hr
      refine q_cond_t hF rfl hc3 ?_
      refine q_seq ?_
      refine q_region ?_
      refine q_x (v := (.agg #[(.int .i64 0), (.int .i64 0)])) hF hS (ex_build (cells := [(.int .i64 0), (.int .i64 0)]) rfl (by kernel_rfl)) rfl rfl fun a hF => ?_
      refine q_store (vs := [(.int .i64 0), (.int .i64 0)]) (cs' := [(.int .i64 0), (.int .i64 0)]) 0 0 hF hS sz24 rfl rfl rfl rfl rfl rfl rfl rfl fun a w hF hS => ?_
      refine q_x (v := (.bool false)) hF hS (ex_assign rfl) rfl rfl fun a hF => ?_
      refine q_end (n_sq (q_ret (r_sq ?_)))
      obtain rfl := someI hr
      exact ret_of hF hS rfl (.cellA (us := [(.int .i64 0), (.int .i64 0)]) 0 0 Try.underlying24 rfl sz24 rfl rfl rfl rfl (.tmp rfl .nil)) rfl

theorem c_impl_AddFrac (p_a : impl_Frac) (p_b : impl_Frac) (r : impl_Frac × Bool) (hr : impl_AddFrac p_a p_b = some r) (w0 : World) (m : Mem) (hv : Vis m w0) :
    Ret Try.prog 118 [(.agg #[(.int .i64 p_a.Num), (.int .i64 p_a.Den)]), (.agg #[(.int .i64 p_b.Num), (.int .i64 p_b.Den)])] w0 (fun v _ => v = (.tuple #[(.agg #[(.int .i64 r.1.Num), (.int .i64 r.1.Den)]), (.bool r.2)])) := by
  unfold impl_AddFrac at hr
  refine ret_start Try.func118 rfl 34 rfl rfl m hv fun a hF hS => ?_
  refine q_seq ?_
  refine q_region ?_
  refine q_box (cs := [(.int .i64 p_a.Num), (.int .i64 p_a.Den)]) hF hS rfl rfl rfl fun a w b1 hF hS => ?_
  refine q_box (cs := [(.int .i64 p_b.Num), (.int .i64 p_b.Den)]) hF hS rfl rfl rfl fun a w b2 hF hS => ?_
  refine q_alloc (cs := [(.int .i64 0), (.int .i64 0)]) hF hS rfl rfl rfl fun a w b3 hF hS => ?_
  refine q_x (v := (.bool false)) hF hS (ex_assign rfl) rfl rfl fun a hF => ?_
  refine q_end (n_sq ?_)
  refine q_seq ?_
  refine q_seq ?_
  obtain ⟨t_6, hj1, hr⟩ := bindS hr
  refine q_join (fun a w => Fr a 34 [(2, (.pointer (some ⟨b1, 0, none⟩))), (3, (.pointer (some ⟨b2, 0, none⟩))), (4, (.pointer (some ⟨b3, 0, none⟩))), (13, (.bool t_6))] ∧ St [] w0 w m [[⟨b3, [(.int .i64 0), (.int .i64 0)], 24⟩], [⟨b2, [(.int .i64 p_b.Num), (.int .i64 p_b.Den)], 24⟩], [⟨b1, [(.int .i64 p_a.Num), (.int .i64 p_a.Den)], 24⟩]]) ?_ ?_
  · refine q_region ?_
    refine q_x (v := (.agg #[(.int .i64 p_a.Num), (.int .i64 p_a.Den)])) hF hS (ex_loadA (vs := [(.int .i64 p_a.Num), (.int .i64 p_a.Den)]) 2 0 Try.underlying24 rfl sz24 rfl rfl rfl rfl) rfl rfl fun a hF => ?_
    obtain ⟨t_4, ht_4, hj1⟩ := bindS hj1
    refine q_call (vs := [(.agg #[(.int .i64 p_a.Num), (.int .i64 p_a.Den)])]) hF hS Try.func94 (by kernel_rfl) rfl rfl rfl (c_impl_IsFrac p_a t_4 ht_4 _ m hS.vis) ?_
    rintro a w _ rfl hF hS
    refine q_x (v := (.bool (!t_4))) hF hS (ex_not rfl) rfl rfl fun a hF => ?_
    refine q_x (v := (.bool (!t_4))) hF hS (ex_move rfl) rfl rfl fun a hF => ?_
    rcases bcase (!t_4) with hc2 | hc2
    · have hj1 := cond_f hc2 hj1
      refine q_xg (v := (.agg #[(.int .i64 p_b.Num), (.int .i64 p_b.Den)])) hF hS (ex_loadA (vs := [(.int .i64 p_b.Num), (.int .i64 p_b.Den)]) 1 0 Try.underlying24 rfl sz24 rfl rfl rfl rfl) (wanted_t hF rfl rfl rfl hc2) rfl fun a hF => ?_
      obtain ⟨t_5, ht_5, hj1⟩ := bindS hj1
      refine q_callg (vs := [(.agg #[(.int .i64 p_b.Num), (.int .i64 p_b.Den)])]) hF hS (wanted_t hF rfl rfl rfl hc2) Try.func94 (by kernel_rfl) rfl rfl rfl (c_impl_IsFrac p_b t_5 ht_5 _ m hS.vis) ?_
      rintro a w _ rfl hF hS
      refine q_xg (v := (.bool (!t_5))) hF hS (ex_not rfl) (wanted_t hF rfl rfl rfl hc2) rfl fun a hF => ?_
      refine q_x (v := (.bool (!t_5))) hF hS (ex_pick_f rfl rfl hc2) rfl rfl fun a hF => ?_
      refine q_end (n_jn ?_)
      obtain rfl := someI hj1
      exact ⟨hF.sub ⟨rfl, rfl, rfl, rfl, trivial⟩, hS⟩
    · have hj1 := cond_t hc2 hj1
      refine q_skip hF (wanted_f hF rfl rfl rfl hc2 rfl) rfl fun a hF => ?_
      refine q_skip hF (wanted_f hF rfl rfl rfl hc2 rfl) rfl fun a hF => ?_
      refine q_skip hF (wanted_f hF rfl rfl rfl hc2 rfl) rfl fun a hF => ?_
      refine q_x (v := (.bool true)) hF hS (ex_pick_t rfl rfl hc2) rfl rfl fun a hF => ?_
      refine q_end (n_jn ?_)
      obtain rfl := someI hj1
      exact ⟨hF.sub ⟨rfl, rfl, rfl, rfl, trivial⟩, hS⟩
  · rintro a w ⟨hF, hS⟩
    refine n_sq ?_
    rcases bcase (t_6) with hc3 | hc3
    · have hr := cond_f hc3 hr
      refine q_cond_f hF rfl hc3 ?_
      refine q_skipc (n_sq ?_)
      refine q_seq ?_
      refine q_region ?_
      refine q_x (v := (.pointer (some ⟨b1, 0, none⟩))) hF hS (ex_fieldAddr Try.underlying24 rfl sz3 rfl rfl) rfl rfl fun a hF => ?_
      refine q_x (v := (.int .i64 p_a.Num)) hF hS (ex_load1 2 0 Try.underlying3 rfl rfl rfl rfl) rfl rfl fun a hF => ?_
      refine q_x (v := (.pointer (some ⟨b2, 1, none⟩))) hF hS (ex_fieldAddr Try.underlying24 rfl sz3 rfl rfl) rfl rfl fun a hF => ?_
      refine q_x (v := (.int .i64 p_b.Den)) hF hS (ex_load1 1 0 Try.underlying3 rfl rfl rfl rfl) rfl rfl fun a hF => ?_
      refine q_x (v := (.int .i64 (w64 (p_a.Num * p_b.Den)))) hF hS (ex_ibin rfl rfl rfl) rfl rfl fun a hF => ?_
      refine q_x (v := (.pointer (some ⟨b2, 0, none⟩))) hF hS (ex_fieldAddr Try.underlying24 rfl sz3 rfl rfl) rfl rfl fun a hF => ?_
      refine q_x (v := (.int .i64 p_b.Num)) hF hS (ex_load1 1 0 Try.underlying3 rfl rfl rfl rfl) rfl rfl fun a hF => ?_
      refine q_x (v := (.pointer (some ⟨b1, 1, none⟩))) hF hS (ex_fieldAddr Try.underlying24 rfl sz3 rfl rfl) rfl rfl fun a hF => ?_
      refine q_x (v := (.int .i64 p_a.Den)) hF hS (ex_load1 2 0 Try.underlying3 rfl rfl rfl rfl) rfl rfl fun a hF => ?_
      refine q_x (v := (.int .i64 (w64 (p_b.Num * p_a.Den)))) hF hS (ex_ibin rfl rfl rfl) rfl rfl fun a hF => ?_
      refine q_x (v := (.int .i64 (w64 ((w64 (p_a.Num * p_b.Den)) + (w64 (p_b.Num * p_a.Den)))))) hF hS (ex_ibin rfl rfl rfl) rfl rfl fun a hF => ?_
      refine q_x (v := (.pointer (some ⟨b1, 1, none⟩))) hF hS (ex_fieldAddr Try.underlying24 rfl sz3 rfl rfl) rfl rfl fun a hF => ?_
      refine q_x (v := (.int .i64 p_a.Den)) hF hS (ex_load1 2 0 Try.underlying3 rfl rfl rfl rfl) rfl rfl fun a hF => ?_
      refine q_x (v := (.pointer (some ⟨b2, 1, none⟩))) hF hS (ex_fieldAddr Try.underlying24 rfl sz3 rfl rfl) rfl rfl fun a hF => ?_
      refine q_x (v := (.int .i64 p_b.Den)) hF hS (ex_load1 1 0 Try.underlying3 rfl rfl rfl rfl) rfl rfl fun a hF => ?_
      refine q_x (v := (.int .i64 (w64 (p_a.Den * p_b.Den)))) hF hS (ex_ibin rfl rfl rfl) rfl rfl fun a hF => ?_
      obtain ⟨t_7, ht_7, hr⟩ := bindS hr
      refine q_call (vs := [(.int .i64 (w64 ((w64 (p_a.Num * p_b.Den)) + (w64 (p_b.Num * p_a.Den))))), (.int .i64 (w64 (p_a.Den * p_b.Den)))]) hF hS Try.func114 (by kernel_rfl) rfl rfl rfl (c_impl_reduced (w64 ((w64 (p_a.Num * p_b.Den)) + (w64 (p_b.Num * p_a.Den)))) (w64 (p_a.Den * p_b.Den)) t_7 ht_7 _ m hS.vis) ?_
      rintro a w _ rfl hF hS
      refine q_x (v := (.agg #[(.int .i64 t_7.1.Num), (.int .i64 t_7.1.Den)])) hF hS (ex_extract rfl rfl) rfl rfl fun a hF => ?_
      refine q_x (v := (.bool t_7.2)) hF hS (ex_extract rfl rfl) rfl rfl fun a hF => ?_
      refine q_store (vs := [(.int .i64 t_7.1.Num), (.int .i64 t_7.1.Den)]) (cs' := [(.int .i64 t_7.1.Num), (.int .i64 t_7.1.Den)]) 0 0 hF hS sz24 rfl rfl rfl rfl rfl rfl rfl rfl fun a w hF hS => ?_
      refine q_x (v := (.bool t_7.2)) hF hS (ex_assign rfl) rfl rfl fun a hF => ?_
      refine q_end (n_sq (q_ret ?_))
      obtain rfl := someI hr
      exact ret_of hF hS rfl (.cellA (us := [(.int .i64 t_7.1.Num), (.int .i64 t_7.1.Den)]) 0 0 Try.underlying24 rfl sz24 rfl rfl rfl rfl (.tmp rfl .nil)) rfl
    · have hr := cond_t hc3 hr
      refine q_cond_t hF rfl hc3 ?_
      refine q_seq ?_
      refine q_region ?_
      refine q_x (v := (.agg #[(.int .i64 0), (.int .i64 0)])) hF hS (ex_build (cells := [(.int .i64 0), (.int .i64 0)]) rfl (by kernel_rfl)) rfl rfl fun a hF => ?_
      refine q_store (vs := [(.int .i64 0), (.int .i64 0)]) (cs' := [(.int .i64 0), (.int .i64 0)]) 0 0 hF hS sz24 rfl rfl rfl rfl rfl rfl rfl rfl fun a w hF hS => ?_
      refine q_x (v := (.bool false)) hF hS (ex_assign rfl) rfl rfl fun a hF => ?_
      refine q_end (n_sq (q_ret (r_sq ?_)))
      obtain rfl := someI hr
      exact ret_of hF hS rfl (.cellA (us := [(.int .i64 0), (.int .i64 0)]) 0 0 Try.underlying24 rfl sz24 rfl rfl rfl rfl (.tmp rfl .nil)) rfl

theorem c_impl_composed (p_a : impl_Loss) (p_b : impl_Loss) (r : impl_Loss × Bool) (hr : impl_composed p_a p_b = some r) (w0 : World) (m : Mem) (hv : Vis m w0) :
    Ret Try.prog 93 [(.agg #[(.int .i64 p_a.Ratio.Num), (.int .i64 p_a.Ratio.Den), (.int .i64 p_a.Rho.Num), (.int .i64 p_a.Rho.Den)]), (.agg #[(.int .i64 p_b.Ratio.Num), (.int .i64 p_b.Ratio.Den), (.int .i64 p_b.Rho.Num), (.int .i64 p_b.Rho.Den)])] w0 (fun v _ => v = (.tuple #[(.agg #[(.int .i64 r.1.Ratio.Num), (.int .i64 r.1.Ratio.Den), (.int .i64 r.1.Rho.Num), (.int .i64 r.1.Rho.Den)]), (.bool r.2)])) := by
  unfold impl_composed at hr
  refine ret_start Try.func93 rfl 34 rfl rfl m hv fun a hF hS => ?_
  refine q_seq ?_
  refine q_region ?_
  refine q_box (cs := [(.int .i64 p_a.Ratio.Num), (.int .i64 p_a.Ratio.Den), (.int .i64 p_a.Rho.Num), (.int .i64 p_a.Rho.Den)]) hF hS rfl rfl rfl fun a w b1 hF hS => ?_
  refine q_box (cs := [(.int .i64 p_b.Ratio.Num), (.int .i64 p_b.Ratio.Den), (.int .i64 p_b.Rho.Num), (.int .i64 p_b.Rho.Den)]) hF hS rfl rfl rfl fun a w b2 hF hS => ?_
  refine q_alloc (cs := [(.int .i64 0), (.int .i64 0), (.int .i64 0), (.int .i64 0)]) hF hS rfl rfl rfl fun a w b3 hF hS => ?_
  refine q_x (v := (.bool false)) hF hS (ex_assign rfl) rfl rfl fun a hF => ?_
  refine q_end (n_sq ?_)
  refine q_seq ?_
  refine q_region ?_
  refine q_x (v := (.pointer (some ⟨b1, 0, none⟩))) hF hS (ex_fieldAddr Try.underlying26 rfl sz24 rfl rfl) rfl rfl fun a hF => ?_
  refine q_x (v := (.agg #[(.int .i64 p_a.Ratio.Num), (.int .i64 p_a.Ratio.Den)])) hF hS (ex_loadA (vs := [(.int .i64 p_a.Ratio.Num), (.int .i64 p_a.Ratio.Den)]) 2 0 Try.underlying24 rfl sz24 rfl rfl rfl rfl) rfl rfl fun a hF => ?_
  refine q_x (v := (.pointer (some ⟨b2, 0, none⟩))) hF hS (ex_fieldAddr Try.underlying26 rfl sz24 rfl rfl) rfl rfl fun a hF => ?_
  refine q_x (v := (.agg #[(.int .i64 p_b.Ratio.Num), (.int .i64 p_b.Ratio.Den)])) hF hS (ex_loadA (vs := [(.int .i64 p_b.Ratio.Num), (.int .i64 p_b.Ratio.Den)]) 1 0 Try.underlying24 rfl sz24 rfl rfl rfl rfl) rfl rfl fun a hF => ?_
  obtain ⟨t_4, ht_4, hr⟩ := bindS hr
  refine q_call (vs := [(.agg #[(.int .i64 p_a.Ratio.Num), (.int .i64 p_a.Ratio.Den)]), (.agg #[(.int .i64 p_b.Ratio.Num), (.int .i64 p_b.Ratio.Den)])]) hF hS Try.func103 (by kernel_rfl) rfl rfl rfl (c_impl_MulFrac p_a.Ratio p_b.Ratio t_4 ht_4 _ m hS.vis) ?_
  rintro a w _ rfl hF hS
  refine q_x (v := (.tuple #[(.agg #[(.int .i64 t_4.1.Num), (.int .i64 t_4.1.Den)]), (.bool t_4.2)])) hF hS (ex_move rfl) rfl rfl fun a hF => ?_
  refine q_x (v := (.agg #[(.int .i64 t_4.1.Num), (.int .i64 t_4.1.Den)])) hF hS (ex_extract rfl rfl) rfl rfl fun a hF => ?_
  refine q_x (v := (.bool t_4.2)) hF hS (ex_extract rfl rfl) rfl rfl fun a hF => ?_
  refine q_alloc (cs := [(.int .i64 0), (.int .i64 0)]) hF hS rfl rfl rfl fun a w b5 hF hS => ?_
  refine q_store (vs := [(.int .i64 t_4.1.Num), (.int .i64 t_4.1.Den)]) (cs' := [(.int .i64 t_4.1.Num), (.int .i64 t_4.1.Den)]) 0 0 hF hS sz24 rfl rfl rfl rfl rfl rfl rfl rfl fun a w hF hS => ?_
  refine q_x (v := (.bool t_4.2)) hF hS (ex_assign rfl) rfl rfl fun a hF => ?_
  refine q_end (n_sq ?_)
  refine q_seq ?_
  refine q_seq ?_
  refine q_region ?_
  refine q_x (v := (.bool t_4.2)) hF hS (ex_move rfl) rfl rfl fun a hF => ?_
  refine q_x (v := (.bool (!t_4.2))) hF hS (ex_not rfl) rfl rfl fun a hF => ?_
  refine q_end (n_sq ?_)
  rcases bcase (!t_4.2) with hc1 | hc1
  · have hr := cond_f hc1 hr
    refine q_cond_f hF rfl hc1 ?_
    refine q_skipc (n_sq ?_)
    refine q_seq ?_
    refine q_region ?_
    refine q_x (v := (.pointer (some ⟨b1, 2, none⟩))) hF hS (ex_fieldAddr Try.underlying26 rfl sz24 rfl rfl) rfl rfl fun a hF => ?_
    refine q_x (v := (.agg #[(.int .i64 p_a.Rho.Num), (.int .i64 p_a.Rho.Den)])) hF hS (ex_loadA (vs := [(.int .i64 p_a.Rho.Num), (.int .i64 p_a.Rho.Den)]) 3 0 Try.underlying24 rfl sz24 rfl rfl rfl rfl) rfl rfl fun a hF => ?_
    refine q_x (v := (.pointer (some ⟨b2, 2, none⟩))) hF hS (ex_fieldAddr Try.underlying26 rfl sz24 rfl rfl) rfl rfl fun a hF => ?_
    refine q_x (v := (.agg #[(.int .i64 p_b.Rho.Num), (.int .i64 p_b.Rho.Den)])) hF hS (ex_loadA (vs := [(.int .i64 p_b.Rho.Num), (.int .i64 p_b.Rho.Den)]) 2 0 Try.underlying24 rfl sz24 rfl rfl rfl rfl) rfl rfl fun a hF => ?_
    obtain ⟨t_6, ht_6, hr⟩ := bindS hr
    refine q_call (vs := [(.agg #[(.int .i64 p_a.Rho.Num), (.int .i64 p_a.Rho.Den)]), (.agg #[(.int .i64 p_b.Rho.Num), (.int .i64 p_b.Rho.Den)])]) hF hS Try.func118 (by kernel_rfl) rfl rfl rfl (c_impl_AddFrac p_a.Rho p_b.Rho t_6 ht_6 _ m hS.vis) ?_
    rintro a w _ rfl hF hS
    refine q_x (v := (.tuple #[(.agg #[(.int .i64 t_6.1.Num), (.int .i64 t_6.1.Den)]), (.bool t_6.2)])) hF hS (ex_move rfl) rfl rfl fun a hF => ?_
    refine q_x (v := (.agg #[(.int .i64 t_6.1.Num), (.int .i64 t_6.1.Den)])) hF hS (ex_extract rfl rfl) rfl rfl fun a hF => ?_
    refine q_x (v := (.bool t_6.2)) hF hS (ex_extract rfl rfl) rfl rfl fun a hF => ?_
    refine q_alloc (cs := [(.int .i64 0), (.int .i64 0)]) hF hS rfl rfl rfl fun a w b7 hF hS => ?_
    refine q_store (vs := [(.int .i64 t_6.1.Num), (.int .i64 t_6.1.Den)]) (cs' := [(.int .i64 t_6.1.Num), (.int .i64 t_6.1.Den)]) 0 0 hF hS sz24 rfl rfl rfl rfl rfl rfl rfl rfl fun a w hF hS => ?_
    refine q_x (v := (.bool t_6.2)) hF hS (ex_assign rfl) rfl rfl fun a hF => ?_
    refine q_end (n_sq ?_)
    refine q_seq ?_
    refine q_seq ?_
    refine q_region ?_
    refine q_x (v := (.bool t_6.2)) hF hS (ex_move rfl) rfl rfl fun a hF => ?_
    refine q_x (v := (.bool (!t_6.2))) hF hS (ex_not rfl) rfl rfl fun a hF => ?_
    refine q_end (n_sq ?_)
    rcases bcase (!t_6.2) with hc2 | hc2
    · have hr := cond_f hc2 hr
      refine q_cond_f hF rfl hc2 ?_
      refine q_skipc (n_sq ?_)
      refine q_seq ?_
      refine q_region ?_
      refine q_x (v := (.agg #[(.int .i64 t_4.1.Num), (.int .i64 t_4.1.Den)])) hF hS (ex_loadA (vs := [(.int .i64 t_4.1.Num), (.int .i64 t_4.1.Den)]) 1 0 Try.underlying24 rfl sz24 rfl rfl rfl rfl) rfl rfl fun a hF => ?_
      refine q_x (v := (.agg #[(.int .i64 t_6.1.Num), (.int .i64 t_6.1.Den)])) hF hS (ex_loadA (vs := [(.int .i64 t_6.1.Num), (.int .i64 t_6.1.Den)]) 0 0 Try.underlying24 rfl sz24 rfl rfl rfl rfl) rfl rfl fun a hF => ?_
      refine q_x (v := (.agg #[(.int .i64 t_4.1.Num), (.int .i64 t_4.1.Den), (.int .i64 t_6.1.Num), (.int .i64 t_6.1.Den)])) hF hS (ex_build (cells := [(.int .i64 t_4.1.Num), (.int .i64 t_4.1.Den), (.int .i64 t_6.1.Num), (.int .i64 t_6.1.Den)]) rfl (by kernel_rfl)) rfl rfl fun a hF => ?_
      refine q_store (vs := [(.int .i64 t_4.1.Num), (.int .i64 t_4.1.Den), (.int .i64 t_6.1.Num), (.int .i64 t_6.1.Den)]) (cs' := [(.int .i64 t_4.1.Num), (.int .i64 t_4.1.Den), (.int .i64 t_6.1.Num), (.int .i64 t_6.1.Den)]) 2 0 hF hS sz26 rfl rfl rfl rfl rfl rfl rfl rfl fun a w hF hS => ?_
      refine q_x (v := (.bool true)) hF hS (ex_assign rfl) rfl rfl fun a hF => ?_
      refine q_end (n_sq (q_ret ?_))
      obtain rfl := someI hr
      exact ret_of hF hS rfl (.cellA (us := [(.int .i64 t_4.1.Num), (.int .i64 t_4.1.Den), (.int .i64 t_6.1.Num), (.int .i64 t_6.1.Den)]) 2 0 Try.underlying26 rfl sz26 rfl rfl rfl rfl (.tmp rfl .nil)) rfl
    · have hr := cond_t hc2 hr
      refine q_cond_t hF rfl hc2 ?_
      refine q_seq ?_
      refine q_region ?_
      refine q_x (v := (.agg #[(.int .i64 0), (.int .i64 0), (.int .i64 0), (.int .i64 0)])) hF hS (ex_build (cells := [(.int .i64 0), (.int .i64 0), (.int .i64 0), (.int .i64 0)]) rfl (by kernel_rfl)) rfl rfl fun a hF => ?_
      refine q_store (vs := [(.int .i64 0), (.int .i64 0), (.int .i64 0), (.int .i64 0)]) (cs' := [(.int .i64 0), (.int .i64 0), (.int .i64 0), (.int .i64 0)]) 2 0 hF hS sz26 rfl rfl rfl rfl rfl rfl rfl rfl fun a w hF hS => ?_
      refine q_x (v := (.bool false)) hF hS (ex_assign rfl) rfl rfl fun a hF => ?_
      refine q_end (n_sq (q_ret (r_sq ?_)))
      obtain rfl := someI hr
      exact ret_of hF hS rfl (.cellA (us := [(.int .i64 0), (.int .i64 0), (.int .i64 0), (.int .i64 0)]) 2 0 Try.underlying26 rfl sz26 rfl rfl rfl rfl (.tmp rfl .nil)) rfl
  · have hr := cond_t hc1 hr
    refine q_cond_t hF rfl hc1 ?_
    refine q_seq ?_
    refine q_region ?_
    refine q_x (v := (.agg #[(.int .i64 0), (.int .i64 0), (.int .i64 0), (.int .i64 0)])) hF hS (ex_build (cells := [(.int .i64 0), (.int .i64 0), (.int .i64 0), (.int .i64 0)]) rfl (by kernel_rfl)) rfl rfl fun a hF => ?_
    refine q_store (vs := [(.int .i64 0), (.int .i64 0), (.int .i64 0), (.int .i64 0)]) (cs' := [(.int .i64 0), (.int .i64 0), (.int .i64 0), (.int .i64 0)]) 1 0 hF hS sz26 rfl rfl rfl rfl rfl rfl rfl rfl fun a w hF hS => ?_
    refine q_x (v := (.bool false)) hF hS (ex_assign rfl) rfl rfl fun a hF => ?_
    refine q_end (n_sq (q_ret (r_sq ?_)))
    obtain rfl := someI hr
    exact ret_of hF hS rfl (.cellA (us := [(.int .i64 0), (.int .i64 0), (.int .i64 0), (.int .i64 0)]) 1 0 Try.underlying26 rfl sz26 rfl rfl rfl rfl (.tmp rfl .nil)) rfl

theorem c_impl_scopeBefore (p_l : List impl_Entry) (p_scope : Int) (r : Bool) (hr : impl_scopeBefore p_l p_scope = some r) (w0 : World) (m : Mem) (hv : Vis m w0) (s1 : Sl) (h1 : Rd m s1 p_l) :
    Ret Try.prog 158 [s1.v, (.int .i64 p_scope)] w0 (fun v _ => v = (.bool r)) := by
  unfold impl_scopeBefore at hr
  refine ret_start Try.func158 rfl 18 rfl rfl m hv fun a hF hS => ?_
  refine q_seq ?_
  refine q_region ?_
  refine q_x (v := (.bool false)) hF hS (ex_assign rfl) rfl rfl fun a hF => ?_
  refine q_end (n_sq ?_)
  refine q_seq ?_
  refine q_seq ?_
  refine q_region ?_
  refine q_x (v := s1.v) hF hS (ex_move rfl) rfl rfl fun a hF => ?_
  refine q_x (v := (.int .i64 (goLen p_l))) hF hS (ex_len Try.underlying39 rfl h1.len) rfl rfl fun a hF => ?_
  refine q_x (v := (.int .i64 0)) hF hS (ex_move rfl) rfl rfl fun a hF => ?_
  refine q_end (n_sq ?_)
  refine q_block ?_
  obtain ⟨o1, hl1, hr⟩ := bindS hr
  refine q_loop (fun (t_2 : Int) a w => Fr a 18 [(1, (.int .i64 p_scope)), (7, s1.v), (8, (.int .i64 (goLen p_l))), (9, (.int .i64 t_2))] ∧ St [] w0 w m []) (fun (o : (Unit) ⊕ (Bool)) e a w => o = .inl () ∧ e = .exit 0 ∧ Fr a 18 [] ∧ St [] w0 w m []) hl1 ⟨hF.sub ⟨rfl, rfl, rfl, rfl, trivial⟩, hS⟩ ?_ ?_
  · clear hF hS
    rintro t_2 a w st ⟨hF, hS⟩ hb1
    unfold impl_scopeBefore_l1 at hb1
    refine q_seq ?_
    refine q_region ?_
    refine q_x (v := (.bool (decide (t_2 < (goLen p_l))))) hF hS (ex_ibin rfl rfl rfl) rfl rfl fun a hF => ?_
    refine q_end (n_sq ?_)
    refine q_seq ?_
    rcases bcase (decide (t_2 < (goLen p_l))) with hc2 | hc2
    · have hb1 := cond_f hc2 hb1
      refine q_cond_f hF rfl hc2 ?_
      refine q_exit (x_sq ?_)
      obtain rfl := someI hb1
      exact ⟨nofun, .inl ⟨rfl, rfl, hF.sub trivial, hS⟩⟩
    · have hb1 := cond_t hc2 hb1
      refine q_cond_t hF rfl hc2 ?_
      refine q_skipc (n_sq ?_)
      refine q_seq ?_
      refine q_block ?_
      refine q_seq ?_
      refine q_region ?_
      obtain ⟨e_3, he_3, hb1⟩ := bindS hb1
      obtain ⟨vs4, at4, d4⟩ := h1.at he_3 5 rfl
      obtain rfl : vs4 = [(.int .i64 e_3.Scope), (.int .i64 e_3.Loss.Ratio.Num), (.int .i64 e_3.Loss.Ratio.Den), (.int .i64 e_3.Loss.Rho.Num), (.int .i64 e_3.Loss.Rho.Den)] := d4
      refine q_x (v := (elP s1 (t_2.toNat * 5))) hF hS (ex_indexAddr Try.underlying39 sz49 rfl rfl (h1.idx he_3)) rfl rfl fun a hF => ?_
      refine q_x (v := (.agg #[(.int .i64 e_3.Scope), (.int .i64 e_3.Loss.Ratio.Num), (.int .i64 e_3.Loss.Ratio.Den), (.int .i64 e_3.Loss.Rho.Num), (.int .i64 e_3.Loss.Rho.Den)])) hF hS (ex_loadEA (us := [(.int .i64 e_3.Scope), (.int .i64 e_3.Loss.Ratio.Num), (.int .i64 e_3.Loss.Ratio.Den), (.int .i64 e_3.Loss.Rho.Num), (.int .i64 e_3.Loss.Rho.Den)]) 0 Try.underlying49 rfl sz49 rfl ((at4).at) rfl rfl rfl) rfl rfl fun a hF => ?_
      refine q_alloc (cs := [(.int .i64 0), (.int .i64 0), (.int .i64 0), (.int .i64 0), (.int .i64 0)]) hF hS rfl rfl rfl fun a w b5 hF hS => ?_
      refine q_store (vs := [(.int .i64 e_3.Scope), (.int .i64 e_3.Loss.Ratio.Num), (.int .i64 e_3.Loss.Ratio.Den), (.int .i64 e_3.Loss.Rho.Num), (.int .i64 e_3.Loss.Rho.Den)]) (cs' := [(.int .i64 e_3.Scope), (.int .i64 e_3.Loss.Ratio.Num), (.int .i64 e_3.Loss.Ratio.Den), (.int .i64 e_3.Loss.Rho.Num), (.int .i64 e_3.Loss.Rho.Den)]) 0 0 hF hS sz49 rfl rfl rfl rfl rfl rfl rfl rfl fun a w hF hS => ?_
      refine q_end (n_sq ?_)
      refine q_seq ?_
      refine q_region ?_
      refine q_x (v := (.pointer (some ⟨b5, 0, none⟩))) hF hS (ex_fieldAddr Try.underlying49 rfl sz3 rfl rfl) rfl rfl fun a hF => ?_
      refine q_x (v := (.int .i64 e_3.Scope)) hF hS (ex_load1 0 0 Try.underlying3 rfl rfl rfl rfl) rfl rfl fun a hF => ?_
      refine q_x (v := (.int .i64 p_scope)) hF hS (ex_move rfl) rfl rfl fun a hF => ?_
      refine q_x (v := (.bool (e_3.Scope == p_scope))) hF hS (ex_ibin rfl rfl rfl) rfl rfl fun a hF => ?_
      refine q_end (n_sq ?_)
      rcases bcase (e_3.Scope == p_scope) with hc3 | hc3
      · have hb1 := cond_f hc3 hb1
        refine q_cond_f hF rfl hc3 ?_
        refine q_skipc (n_ib (n_sq ?_))
        refine q_region ?_
        refine q_x (v := (.int .i64 (w64 (t_2 + 1)))) hF hS (ex_ibin rfl rfl rfl) rfl rfl fun a hF => ?_
        refine q_x (v := (.int .i64 (w64 (t_2 + 1)))) hF hS (ex_move rfl) rfl rfl fun a hF => ?_
        refine q_end ?_
        obtain rfl := someI hb1
        exact ⟨rfl, hF.sub ⟨rfl, rfl, rfl, rfl, trivial⟩, hS.mask [false]⟩
      · have hb1 := cond_t hc3 hb1
        refine q_cond_t hF rfl hc3 ?_
        refine q_seq ?_
        refine q_region ?_
        refine q_x (v := (.bool true)) hF hS (ex_assign rfl) rfl rfl fun a hF => ?_
        refine q_end (n_sq (q_ret (r_ib (r_sq ?_))))
        obtain rfl := someI hb1
        refine ⟨nofun, .inr fun ho => ?_⟩
        subst ho
        refine r_ib (r_sq ?_)
        obtain rfl := someI hr
        exact ret_of hF hS rfl (.tmp rfl .nil) rfl
  · rintro e a w ⟨rfl, rfl, hF, hS⟩
    refine x_ib (n_sq ?_)
    refine q_seq ?_
    refine q_region ?_
    refine q_x (v := (.bool false)) hF hS (ex_assign rfl) rfl rfl fun a hF => ?_
    refine q_end (n_sq (q_ret ?_))
    obtain rfl := someI hr
    exact ret_of hF hS rfl (.tmp rfl .nil) rfl

theorem c_impl_cmpFrac (p_a : impl_Frac) (p_b : impl_Frac) (r : Int) (hr : impl_cmpFrac p_a p_b = some r) (w0 : World) (m : Mem) (hv : Vis m w0) :
    Ret Try.prog 126 [(.agg #[(.int .i64 p_a.Num), (.int .i64 p_a.Den)]), (.agg #[(.int .i64 p_b.Num), (.int .i64 p_b.Den)])] w0 (fun v _ => v = (.int .i64 r)) := by
  unfold impl_cmpFrac at hr
  refine ret_start Try.func126 rfl 25 rfl rfl m hv fun a hF hS => ?_
  refine q_seq ?_
  refine q_region ?_
  refine q_box (cs := [(.int .i64 p_a.Num), (.int .i64 p_a.Den)]) hF hS rfl rfl rfl fun a w b1 hF hS => ?_
  refine q_box (cs := [(.int .i64 p_b.Num), (.int .i64 p_b.Den)]) hF hS rfl rfl rfl fun a w b2 hF hS => ?_
  refine q_x (v := (.int .i64 0)) hF hS (ex_assign rfl) rfl rfl fun a hF => ?_
  refine q_end (n_sq ?_)
  refine q_seq ?_
  refine e_region [] mixed fun w' hw' => ?_
  have hS := hS.below hw'
  refine e_p (v := (.pointer (some ⟨b1, 0, none⟩))) 0 hF rfl (ex_fieldAddr Try.underlying24 rfl sz3 rfl rfl) rfl rfl (by kernel_rfl) (by kernel_rfl) (by kernel_rfl) fun a hF => ?_
  refine e_x (v := (.int .i64 p_a.Num)) 1 hF hS rfl (ex_load1 1 0 Try.underlying3 rfl rfl rfl rfl) rfl rfl (by kernel_rfl) (by kernel_rfl) (by kernel_rfl) (by kernel_rfl) fun a hF => ?_
  refine e_p (v := (.pointer (some ⟨b2, 1, none⟩))) 2 hF rfl (ex_fieldAddr Try.underlying24 rfl sz3 rfl rfl) rfl rfl (by kernel_rfl) (by kernel_rfl) (by kernel_rfl) fun a hF => ?_
  refine e_x (v := (.int .i64 p_b.Den)) 3 hF hS rfl (ex_load1 0 0 Try.underlying3 rfl rfl rfl rfl) rfl rfl (by kernel_rfl) (by kernel_rfl) (by kernel_rfl) (by kernel_rfl) fun a hF => ?_
  refine e_p (v := (.int .i64 (w64 (p_a.Num * p_b.Den)))) 4 hF rfl (ex_ibin rfl rfl rfl) rfl rfl (by kernel_rfl) (by kernel_rfl) (by kernel_rfl) fun a hF => ?_
  refine e_p (v := (.pointer (some ⟨b2, 0, none⟩))) 5 hF rfl (ex_fieldAddr Try.underlying24 rfl sz3 rfl rfl) rfl rfl (by kernel_rfl) (by kernel_rfl) (by kernel_rfl) fun a hF => ?_
  refine e_x (v := (.int .i64 p_b.Num)) 6 hF hS rfl (ex_load1 0 0 Try.underlying3 rfl rfl rfl rfl) rfl rfl (by kernel_rfl) (by kernel_rfl) (by kernel_rfl) (by kernel_rfl) fun a hF => ?_
  refine e_p (v := (.pointer (some ⟨b1, 1, none⟩))) 7 hF rfl (ex_fieldAddr Try.underlying24 rfl sz3 rfl rfl) rfl rfl (by kernel_rfl) (by kernel_rfl) (by kernel_rfl) fun a hF => ?_
  refine e_x (v := (.int .i64 p_a.Den)) 8 hF hS rfl (ex_load1 1 0 Try.underlying3 rfl rfl rfl rfl) rfl rfl (by kernel_rfl) (by kernel_rfl) (by kernel_rfl) (by kernel_rfl) fun a hF => ?_
  refine e_p (v := (.int .i64 (w64 (p_b.Num * p_a.Den)))) 9 hF rfl (ex_ibin rfl rfl rfl) rfl rfl (by kernel_rfl) (by kernel_rfl) (by kernel_rfl) fun a hF => ?_
  refine e_p (v := (.int .i64 (w64 (p_a.Num * p_b.Den)))) 10 hF rfl (ex_assign rfl) rfl rfl (by kernel_rfl) (by kernel_rfl) (by kernel_rfl) fun a hF => ?_
  refine e_p (v := (.int .i64 (w64 (p_b.Num * p_a.Den)))) 11 hF rfl (ex_assign rfl) rfl rfl (by kernel_rfl) (by kernel_rfl) (by kernel_rfl) fun a hF => ?_
  refine e_end (by kernel_rfl) (n_sq ?_) _
  refine q_seq ?_
  refine q_block ?_
  refine q_seq ?_
  refine q_region ?_
  refine q_x (v := (.int .i64 (w64 (p_a.Num * p_b.Den)))) hF hS (ex_move rfl) rfl rfl fun a hF => ?_
  refine q_x (v := (.int .i64 (w64 (p_b.Num * p_a.Den)))) hF hS (ex_move rfl) rfl rfl fun a hF => ?_
  refine q_x (v := (.bool (decide ((w64 (p_a.Num * p_b.Den)) < (w64 (p_b.Num * p_a.Den)))))) hF hS (ex_ibin rfl rfl rfl) rfl rfl fun a hF => ?_
  refine q_x (v := (.bool (decide ((w64 (p_a.Num * p_b.Den)) < (w64 (p_b.Num * p_a.Den)))))) hF hS (ex_assign rfl) rfl rfl fun a hF => ?_
  refine q_end (n_sq ?_)
  rcases bcase (decide ((w64 (p_a.Num * p_b.Den)) < (w64 (p_b.Num * p_a.Den)))) with hc1 | hc1
  · have hr := cond_f hc1 hr
    refine q_cond_f hF rfl hc1 ?_
    refine q_seq ?_
    refine q_region ?_
    refine q_x (v := (.int .i64 (w64 (p_a.Num * p_b.Den)))) hF hS (ex_move rfl) rfl rfl fun a hF => ?_
    refine q_x (v := (.int .i64 (w64 (p_b.Num * p_a.Den)))) hF hS (ex_move rfl) rfl rfl fun a hF => ?_
    refine q_x (v := (.bool (decide ((w64 (p_b.Num * p_a.Den)) < (w64 (p_a.Num * p_b.Den)))))) hF hS (ex_ibin rfl rfl rfl) rfl rfl fun a hF => ?_
    refine q_x (v := (.bool (decide ((w64 (p_b.Num * p_a.Den)) < (w64 (p_a.Num * p_b.Den)))))) hF hS (ex_assign rfl) rfl rfl fun a hF => ?_
    refine q_end (n_sq ?_)
    rcases bcase (decide ((w64 (p_b.Num * p_a.Den)) < (w64 (p_a.Num * p_b.Den)))) with hc2 | hc2
    · have hr := cond_f hc2 hr
      refine q_cond_f hF rfl hc2 ?_
      refine q_skipc (n_ib (n_sq ?_))
      refine q_seq ?_
      refine q_region ?_
      refine q_x (v := (.int .i64 0)) hF hS (ex_assign rfl) rfl rfl fun a hF => ?_
      refine q_end (n_sq (q_ret ?_))
      obtain rfl := someI hr
      exact ret_of hF hS rfl (.tmp rfl .nil) rfl
    · have hr := cond_t hc2 hr
      refine q_cond_t hF rfl hc2 ?_
      refine q_seq ?_
      refine q_region ?_
      refine q_x (v := (.int .i64 1)) hF hS (ex_assign rfl) rfl rfl fun a hF => ?_
      refine q_end (n_sq (q_ret (r_ib (r_sq ?_))))
      obtain rfl := someI hr
      exact ret_of hF hS rfl (.tmp rfl .nil) rfl
  · have hr := cond_t hc1 hr
    refine q_cond_t hF rfl hc1 ?_
    refine q_seq ?_
    refine q_region ?_
    refine q_x (v := (.int .i64 (-1))) hF hS (ex_assign rfl) rfl rfl fun a hF => ?_
    refine q_end (n_sq (q_ret (r_ib (r_sq ?_))))
    obtain rfl := someI hr
    exact ret_of hF hS rfl (.tmp rfl .nil) rfl

theorem c_impl_greatest (p_a : impl_Loss) (p_b : impl_Loss) (r : impl_Loss) (hr : impl_greatest p_a p_b = some r) (w0 : World) (m : Mem) (hv : Vis m w0) :
    Ret Try.prog 109 [(.agg #[(.int .i64 p_a.Ratio.Num), (.int .i64 p_a.Ratio.Den), (.int .i64 p_a.Rho.Num), (.int .i64 p_a.Rho.Den)]), (.agg #[(.int .i64 p_b.Ratio.Num), (.int .i64 p_b.Ratio.Den), (.int .i64 p_b.Rho.Num), (.int .i64 p_b.Rho.Den)])] w0 (fun v _ => v = (.agg #[(.int .i64 r.Ratio.Num), (.int .i64 r.Ratio.Den), (.int .i64 r.Rho.Num), (.int .i64 r.Rho.Den)])) := by
  unfold impl_greatest at hr
  refine ret_start Try.func109 rfl 24 rfl rfl m hv fun a hF hS => ?_
  refine q_seq ?_
  refine q_region ?_
  refine q_box (cs := [(.int .i64 p_a.Ratio.Num), (.int .i64 p_a.Ratio.Den), (.int .i64 p_a.Rho.Num), (.int .i64 p_a.Rho.Den)]) hF hS rfl rfl rfl fun a w b1 hF hS => ?_
  refine q_box (cs := [(.int .i64 p_b.Ratio.Num), (.int .i64 p_b.Ratio.Den), (.int .i64 p_b.Rho.Num), (.int .i64 p_b.Rho.Den)]) hF hS rfl rfl rfl fun a w b2 hF hS => ?_
  refine q_alloc (cs := [(.int .i64 0), (.int .i64 0), (.int .i64 0), (.int .i64 0)]) hF hS rfl rfl rfl fun a w b3 hF hS => ?_
  refine q_end (n_sq ?_)
  refine q_seq ?_
  refine q_seq ?_
  refine q_region ?_
  refine q_x (v := (.pointer (some ⟨b2, 0, none⟩))) hF hS (ex_fieldAddr Try.underlying26 rfl sz24 rfl rfl) rfl rfl fun a hF => ?_
  refine q_x (v := (.agg #[(.int .i64 p_b.Ratio.Num), (.int .i64 p_b.Ratio.Den)])) hF hS (ex_loadA (vs := [(.int .i64 p_b.Ratio.Num), (.int .i64 p_b.Ratio.Den)]) 1 0 Try.underlying24 rfl sz24 rfl rfl rfl rfl) rfl rfl fun a hF => ?_
  refine q_x (v := (.pointer (some ⟨b1, 0, none⟩))) hF hS (ex_fieldAddr Try.underlying26 rfl sz24 rfl rfl) rfl rfl fun a hF => ?_
  refine q_x (v := (.agg #[(.int .i64 p_a.Ratio.Num), (.int .i64 p_a.Ratio.Den)])) hF hS (ex_loadA (vs := [(.int .i64 p_a.Ratio.Num), (.int .i64 p_a.Ratio.Den)]) 2 0 Try.underlying24 rfl sz24 rfl rfl rfl rfl) rfl rfl fun a hF => ?_
  obtain ⟨t_4, ht_4, hr⟩ := bindS hr
  refine q_call (vs := [(.agg #[(.int .i64 p_b.Ratio.Num), (.int .i64 p_b.Ratio.Den)]), (.agg #[(.int .i64 p_a.Ratio.Num), (.int .i64 p_a.Ratio.Den)])]) hF hS Try.func126 (by kernel_rfl) rfl rfl rfl (c_impl_cmpFrac p_b.Ratio p_a.Ratio t_4 ht_4 _ m hS.vis) ?_
  rintro a w _ rfl hF hS
  refine q_x (v := (.bool (decide (0 < t_4)))) hF hS (ex_ibin rfl rfl rfl) rfl rfl fun a hF => ?_
  refine q_end (n_sq ?_)
  obtain ⟨a_5, hj1, hr⟩ := bindS hr
  refine q_join (fun a w => Fr a 24 [(2, (.pointer (some ⟨b1, 0, none⟩))), (3, (.pointer (some ⟨b2, 0, none⟩))), (4, (.pointer (some ⟨b3, 0, none⟩)))] ∧ St [] w0 w m [[⟨b3, [(.int .i64 0), (.int .i64 0), (.int .i64 0), (.int .i64 0)], 26⟩], [⟨b2, [(.int .i64 p_b.Ratio.Num), (.int .i64 p_b.Ratio.Den), (.int .i64 p_b.Rho.Num), (.int .i64 p_b.Rho.Den)], 26⟩], [⟨b1, [(.int .i64 a_5.Ratio.Num), (.int .i64 a_5.Ratio.Den), (.int .i64 a_5.Rho.Num), (.int .i64 a_5.Rho.Den)], 26⟩]]) ?_ ?_
  · rcases bcase (decide (0 < t_4)) with hc2 | hc2
    · have hj1 := cond_f hc2 hj1
      refine q_cond_f hF rfl hc2 ?_
      refine q_skipc (n_jn ?_)
      obtain rfl := someI hj1
      exact ⟨hF.sub ⟨rfl, rfl, rfl, trivial⟩, hS⟩
    · have hj1 := cond_t hc2 hj1
      refine q_cond_t hF rfl hc2 ?_
      refine q_region ?_
      refine q_x (v := (.pointer (some ⟨b2, 0, none⟩))) hF hS (ex_fieldAddr Try.underlying26 rfl sz24 rfl rfl) rfl rfl fun a hF => ?_
      refine q_x (v := (.agg #[(.int .i64 p_b.Ratio.Num), (.int .i64 p_b.Ratio.Den)])) hF hS (ex_loadA (vs := [(.int .i64 p_b.Ratio.Num), (.int .i64 p_b.Ratio.Den)]) 1 0 Try.underlying24 rfl sz24 rfl rfl rfl rfl) rfl rfl fun a hF => ?_
      refine q_x (v := (.pointer (some ⟨b1, 0, none⟩))) hF hS (ex_fieldAddr Try.underlying26 rfl sz24 rfl rfl) rfl rfl fun a hF => ?_
      refine q_store (vs := [(.int .i64 p_b.Ratio.Num), (.int .i64 p_b.Ratio.Den)]) (cs' := [(.int .i64 p_b.Ratio.Num), (.int .i64 p_b.Ratio.Den), (.int .i64 p_a.Rho.Num), (.int .i64 p_a.Rho.Den)]) 2 0 hF hS sz24 rfl rfl rfl rfl rfl rfl rfl rfl fun a w hF hS => ?_
      refine q_end (n_jn ?_)
      obtain rfl := someI hj1
      exact ⟨hF.sub ⟨rfl, rfl, rfl, trivial⟩, hS⟩
  · rintro a w ⟨hF, hS⟩
    refine n_sq ?_
    refine q_seq ?_
    refine q_seq ?_
    refine q_region ?_
    refine q_x (v := (.pointer (some ⟨b2, 2, none⟩))) hF hS (ex_fieldAddr Try.underlying26 rfl sz24 rfl rfl) rfl rfl fun a hF => ?_
    refine q_x (v := (.agg #[(.int .i64 p_b.Rho.Num), (.int .i64 p_b.Rho.Den)])) hF hS (ex_loadA (vs := [(.int .i64 p_b.Rho.Num), (.int .i64 p_b.Rho.Den)]) 1 0 Try.underlying24 rfl sz24 rfl rfl rfl rfl) rfl rfl fun a hF => ?_
    refine q_x (v := (.pointer (some ⟨b1, 2, none⟩))) hF hS (ex_fieldAddr Try.underlying26 rfl sz24 rfl rfl) rfl rfl fun a hF => ?_
    refine q_x (v := (.agg #[(.int .i64 a_5.Rho.Num), (.int .i64 a_5.Rho.Den)])) hF hS (ex_loadA (vs := [(.int .i64 a_5.Rho.Num), (.int .i64 a_5.Rho.Den)]) 2 0 Try.underlying24 rfl sz24 rfl rfl rfl rfl) rfl rfl fun a hF => ?_
    obtain ⟨t_6, ht_6, hr⟩ := bindS hr
    refine q_call (vs := [(.agg #[(.int .i64 p_b.Rho.Num), (.int .i64 p_b.Rho.Den)]), (.agg #[(.int .i64 a_5.Rho.Num), (.int .i64 a_5.Rho.Den)])]) hF hS Try.func126 (by kernel_rfl) rfl rfl rfl (c_impl_cmpFrac p_b.Rho a_5.Rho t_6 ht_6 _ m hS.vis) ?_
    rintro a w _ rfl hF hS
    refine q_x (v := (.bool (decide (0 < t_6)))) hF hS (ex_ibin rfl rfl rfl) rfl rfl fun a hF => ?_
    refine q_end (n_sq ?_)
    obtain ⟨a_7, hj3, hr⟩ := bindS hr
    refine q_join (fun a w => Fr a 24 [(2, (.pointer (some ⟨b1, 0, none⟩))), (4, (.pointer (some ⟨b3, 0, none⟩)))] ∧ St [] w0 w m [[⟨b3, [(.int .i64 0), (.int .i64 0), (.int .i64 0), (.int .i64 0)], 26⟩], [⟨b1, [(.int .i64 a_7.Ratio.Num), (.int .i64 a_7.Ratio.Den), (.int .i64 a_7.Rho.Num), (.int .i64 a_7.Rho.Den)], 26⟩]]) ?_ ?_
    · rcases bcase (decide (0 < t_6)) with hc4 | hc4
      · have hj3 := cond_f hc4 hj3
        refine q_cond_f hF rfl hc4 ?_
        refine q_skipc (n_jn ?_)
        obtain rfl := someI hj3
        exact ⟨hF.sub ⟨rfl, rfl, trivial⟩, hS.mask [true, false, true]⟩
      · have hj3 := cond_t hc4 hj3
        refine q_cond_t hF rfl hc4 ?_
        refine q_region ?_
        refine q_x (v := (.pointer (some ⟨b2, 2, none⟩))) hF hS (ex_fieldAddr Try.underlying26 rfl sz24 rfl rfl) rfl rfl fun a hF => ?_
        refine q_x (v := (.agg #[(.int .i64 p_b.Rho.Num), (.int .i64 p_b.Rho.Den)])) hF hS (ex_loadA (vs := [(.int .i64 p_b.Rho.Num), (.int .i64 p_b.Rho.Den)]) 1 0 Try.underlying24 rfl sz24 rfl rfl rfl rfl) rfl rfl fun a hF => ?_
        refine q_x (v := (.pointer (some ⟨b1, 2, none⟩))) hF hS (ex_fieldAddr Try.underlying26 rfl sz24 rfl rfl) rfl rfl fun a hF => ?_
        refine q_store (vs := [(.int .i64 p_b.Rho.Num), (.int .i64 p_b.Rho.Den)]) (cs' := [(.int .i64 a_5.Ratio.Num), (.int .i64 a_5.Ratio.Den), (.int .i64 p_b.Rho.Num), (.int .i64 p_b.Rho.Den)]) 2 0 hF hS sz24 rfl rfl rfl rfl rfl rfl rfl rfl fun a w hF hS => ?_
        refine q_end (n_jn ?_)
        obtain rfl := someI hj3
        exact ⟨hF.sub ⟨rfl, rfl, trivial⟩, hS.mask [true, false, true]⟩
    · rintro a w ⟨hF, hS⟩
      refine n_sq ?_
      refine q_seq ?_
      refine q_region ?_
      refine q_x (v := (.agg #[(.int .i64 a_7.Ratio.Num), (.int .i64 a_7.Ratio.Den), (.int .i64 a_7.Rho.Num), (.int .i64 a_7.Rho.Den)])) hF hS (ex_loadA (vs := [(.int .i64 a_7.Ratio.Num), (.int .i64 a_7.Ratio.Den), (.int .i64 a_7.Rho.Num), (.int .i64 a_7.Rho.Den)]) 1 0 Try.underlying26 rfl sz26 rfl rfl rfl rfl) rfl rfl fun a hF => ?_
      refine q_store (vs := [(.int .i64 a_7.Ratio.Num), (.int .i64 a_7.Ratio.Den), (.int .i64 a_7.Rho.Num), (.int .i64 a_7.Rho.Den)]) (cs' := [(.int .i64 a_7.Ratio.Num), (.int .i64 a_7.Ratio.Den), (.int .i64 a_7.Rho.Num), (.int .i64 a_7.Rho.Den)]) 0 0 hF hS sz26 rfl rfl rfl rfl rfl rfl rfl rfl fun a w hF hS => ?_
      refine q_end (n_sq (q_ret ?_))
      obtain rfl := someI hr
      exact ret_of hF hS rfl (.cellA (us := [(.int .i64 a_7.Ratio.Num), (.int .i64 a_7.Ratio.Den), (.int .i64 a_7.Rho.Num), (.int .i64 a_7.Rho.Den)]) 0 0 Try.underlying26 rfl sz26 rfl rfl rfl rfl .nil) rfl

end Go.Proofs.Ytdbgmkfniichdaa
