/- The walks of the functions: each returns what its plain function says. -/
import Derived.Test.YtdbgmkfniichdaaEDefs
import Derived.Test.YtdbgmkfniichdaaRows
namespace Go.Proofs.Ytdbgmkfniichdaa
open Go.Gx Go.Gx.F Go.RowKit
set_option linter.all false
set_option maxRecDepth 10000

theorem mixed : Try.prog.follows .mixedOrders = true := by kernel_rfl
theorem inf3 : inf Try.prog 3 = some (1, 8, [(.int .i64 0)]) := by kernel_rfl
theorem inf24 : inf Try.prog 24 = some (2, 16, [(.int .i64 0), (.int .i64 0)]) := by kernel_rfl
theorem sz3 : szOf Try.prog 3 = some 1 := by kernel_rfl
theorem sz5 : szOf Try.prog 5 = some 1 := by kernel_rfl
theorem sz22 : szOf Try.prog 22 = some 1 := by kernel_rfl
theorem sz24 : szOf Try.prog 24 = some 2 := by kernel_rfl
theorem sz101 : szOf Try.prog 101 = some 1 := by kernel_rfl
theorem sz119 : szOf Try.prog 119 = some 4 := by kernel_rfl

theorem c_laws_big (p_code : List (K .u8)) (p_more : List (K .u8)) (r : Bool) (hr : laws_big p_code p_more = some r) (w0 : World) (m : Mem) (hv : Vis m w0) (s1 : Sl) (h1 : Rd m s1 p_code) (s2 : Sl) (h2 : Rd m s2 p_more) :
    Ret Try.prog 37 [s1.v, s2.v] w0 (fun v _ => v = (.bool r)) := by
  unfold laws_big at hr
  refine ret_start Try.func37 rfl 16 rfl rfl m hv fun a hF hS => ?_
  refine q_seq ?_
  refine q_region ?_
  refine q_x (v := (.bool false)) hF hS (ex_assign rfl) rfl rfl fun a hF => ?_
  refine q_end (n_sq ?_)
  refine q_seq ?_
  obtain ⟨t_3, hj1, hr⟩ := bindS hr
  refine q_join (fun a w => Fr a 16 [(4, (.bool t_3))] ∧ St [] w0 w m []) ?_ ?_
  · refine q_region ?_
    refine q_x (v := s1.v) hF hS (ex_move rfl) rfl rfl fun a hF => ?_
    refine q_x (v := (.int .i64 (goLen p_code))) hF hS (ex_len Try.underlying22 rfl h1.len) rfl rfl fun a hF => ?_
    refine q_x (v := (.bool (decide (1048576 < (goLen p_code))))) hF hS (ex_ibin rfl rfl rfl) rfl rfl fun a hF => ?_
    refine q_x (v := (.bool (decide (1048576 < (goLen p_code))))) hF hS (ex_move rfl) rfl rfl fun a hF => ?_
    rcases bcase (decide (1048576 < (goLen p_code))) with hc2 | hc2
    · have hj1 := cond_f hc2 hj1
      refine q_xg (v := s2.v) hF hS (ex_move rfl) (wanted_t hF rfl rfl rfl hc2) rfl fun a hF => ?_
      refine q_xg (v := (.int .i64 (goLen p_more))) hF hS (ex_len Try.underlying22 rfl h2.len) (wanted_t hF rfl rfl rfl hc2) rfl fun a hF => ?_
      refine q_xg (v := s1.v) hF hS (ex_move rfl) (wanted_t hF rfl rfl rfl hc2) rfl fun a hF => ?_
      refine q_xg (v := (.int .i64 (goLen p_code))) hF hS (ex_len Try.underlying22 rfl h1.len) (wanted_t hF rfl rfl rfl hc2) rfl fun a hF => ?_
      refine q_xg (v := (.int .i64 (w64 (1048576 - (goLen p_code))))) hF hS (ex_ibin rfl rfl rfl) (wanted_t hF rfl rfl rfl hc2) rfl fun a hF => ?_
      refine q_xg (v := (.bool (decide ((w64 (1048576 - (goLen p_code))) < (goLen p_more))))) hF hS (ex_ibin rfl rfl rfl) (wanted_t hF rfl rfl rfl hc2) rfl fun a hF => ?_
      refine q_x (v := (.bool (decide ((w64 (1048576 - (goLen p_code))) < (goLen p_more))))) hF hS (ex_pick_f rfl rfl hc2) rfl rfl fun a hF => ?_
      refine q_x (v := (.bool (decide ((w64 (1048576 - (goLen p_code))) < (goLen p_more))))) hF hS (ex_assign rfl) rfl rfl fun a hF => ?_
      refine q_end (n_jn ?_)
      obtain rfl := someI hj1
      exact ⟨hF.sub ⟨rfl, trivial⟩, hS⟩
    · have hj1 := cond_t hc2 hj1
      refine q_skip hF (wanted_f hF rfl rfl rfl hc2 rfl) rfl fun a hF => ?_
      refine q_skip hF (wanted_f hF rfl rfl rfl hc2 rfl) rfl fun a hF => ?_
      refine q_skip hF (wanted_f hF rfl rfl rfl hc2 rfl) rfl fun a hF => ?_
      refine q_skip hF (wanted_f hF rfl rfl rfl hc2 rfl) rfl fun a hF => ?_
      refine q_skip hF (wanted_f hF rfl rfl rfl hc2 rfl) rfl fun a hF => ?_
      refine q_skip hF (wanted_f hF rfl rfl rfl hc2 rfl) rfl fun a hF => ?_
      refine q_x (v := (.bool true)) hF hS (ex_pick_t rfl rfl hc2) rfl rfl fun a hF => ?_
      refine q_x (v := (.bool true)) hF hS (ex_assign rfl) rfl rfl fun a hF => ?_
      refine q_end (n_jn ?_)
      obtain rfl := someI hj1
      exact ⟨hF.sub ⟨rfl, trivial⟩, hS⟩
  · rintro a w ⟨hF, hS⟩
    refine n_sq (q_ret ?_)
    obtain rfl := someI hr
    exact ret_of hF hS rfl (.tmp rfl .nil) rfl

theorem c_spec_l1Cur_next (p_c : spec_l1Cur) (r : Int × spec_l1Cur) (hr : spec_l1Cur_next p_c = some r) (w0 : World) (m : Mem) (b_p_c : Nat) (s1 : Sl) (h1 : Rd m s1 p_c.code) (X : List Nat) (hS : St X w0 w0 m [[⟨b_p_c, [s1.v, (.int .i64 p_c.at_), (.int .u64 p_c.seed.v)], 103⟩]]) :
    RetX Try.prog 160 [(.pointer (some ⟨b_p_c, 0, none⟩))] w0 (fun v w => v = (.int .i64 r.1) ∧ St X w0 w m [[⟨b_p_c, [s1.v, (.int .i64 r.2.at_), (.int .u64 r.2.seed.v)], 103⟩]] ∧ r.2.code = p_c.code) := by
  unfold spec_l1Cur_next at hr
  refine ret_startX Try.func160 rfl 62 rfl rfl fun a hF => ?_
  refine q_seq ?_
  refine q_region ?_
  refine q_x (v := (.int .i64 0)) hF hS (ex_assign rfl) rfl rfl fun a hF => ?_
  refine q_end (n_sq ?_)
  refine q_seq ?_
  refine q_region ?_
  refine q_x (v := (.int .i64 0)) hF hS (ex_assign rfl) rfl rfl fun a hF => ?_
  refine q_end (n_sq ?_)
  refine q_seq ?_
  refine q_seq ?_
  refine e_region [] mixed fun w' hw' => ?_
  have hS := hS.below hw'
  refine e_p (v := (.pointer (some ⟨b_p_c, 0, none⟩))) 0 hF rfl (ex_move rfl) rfl rfl (by kernel_rfl) (by kernel_rfl) (by kernel_rfl) fun a hF => ?_
  refine e_p (v := (.pointer (some ⟨b_p_c, 0, none⟩))) 1 hF rfl (ex_nilCheck rfl) rfl rfl (by kernel_rfl) (by kernel_rfl) (by kernel_rfl) fun a hF => ?_
  refine e_p (v := (.pointer (some ⟨b_p_c, 1, none⟩))) 2 hF rfl (ex_fieldAddr Try.underlying103 rfl sz3 rfl rfl) rfl rfl (by kernel_rfl) (by kernel_rfl) (by kernel_rfl) fun a hF => ?_
  refine e_x (v := (.int .i64 p_c.at_)) 3 hF hS rfl (ex_load1 0 0 Try.underlying3 rfl rfl rfl rfl) rfl rfl (by kernel_rfl) (by kernel_rfl) (by kernel_rfl) (by kernel_rfl) fun a hF => ?_
  refine e_p (v := (.pointer (some ⟨b_p_c, 0, none⟩))) 4 hF rfl (ex_move rfl) rfl rfl (by kernel_rfl) (by kernel_rfl) (by kernel_rfl) fun a hF => ?_
  refine e_p (v := (.pointer (some ⟨b_p_c, 0, none⟩))) 5 hF rfl (ex_nilCheck rfl) rfl rfl (by kernel_rfl) (by kernel_rfl) (by kernel_rfl) fun a hF => ?_
  refine e_p (v := (.pointer (some ⟨b_p_c, 0, none⟩))) 6 hF rfl (ex_fieldAddr Try.underlying103 rfl sz22 rfl rfl) rfl rfl (by kernel_rfl) (by kernel_rfl) (by kernel_rfl) fun a hF => ?_
  refine e_x (v := s1.v) 7 hF hS rfl (ex_load1 0 0 Try.underlying22 rfl rfl rfl rfl) rfl rfl (by kernel_rfl) (by kernel_rfl) (by kernel_rfl) (by kernel_rfl) fun a hF => ?_
  refine e_p (v := (.int .i64 (goLen p_c.code))) 8 hF rfl (ex_len Try.underlying22 rfl h1.len) rfl rfl (by kernel_rfl) (by kernel_rfl) (by kernel_rfl) fun a hF => ?_
  refine e_p (v := (.bool (decide (p_c.at_ < (goLen p_c.code))))) 9 hF rfl (ex_ibin rfl rfl rfl) rfl rfl (by kernel_rfl) (by kernel_rfl) (by kernel_rfl) fun a hF => ?_
  refine e_end (by kernel_rfl) (n_sq ?_) _
  obtain ⟨b_4, hj1, hr⟩ := bindS hr
  refine q_join (fun a w => Fr a 62 [(0, (.pointer (some ⟨b_p_c, 0, none⟩))), (3, (.int .i64 b_4))] ∧ St X w0 w m [[⟨b_p_c, [s1.v, (.int .i64 p_c.at_), (.int .u64 p_c.seed.v)], 103⟩]]) ?_ ?_
  · rcases bcase (decide (p_c.at_ < (goLen p_c.code))) with hc2 | hc2
    · have hj1 := cond_f hc2 hj1
      refine q_cond_f hF rfl hc2 ?_
      refine q_skipc (n_jn ?_)
      obtain rfl := someI hj1
      exact ⟨hF.sub ⟨rfl, rfl, trivial⟩, hS⟩
    · have hj1 := cond_t hc2 hj1
      refine q_cond_t hF rfl hc2 ?_
      refine e_region [] mixed fun w' hw' => ?_
      have hS := hS.below hw'
      refine e_p (v := (.pointer (some ⟨b_p_c, 0, none⟩))) 0 hF rfl (ex_move rfl) rfl rfl (by kernel_rfl) (by kernel_rfl) (by kernel_rfl) fun a hF => ?_
      refine e_p (v := (.pointer (some ⟨b_p_c, 0, none⟩))) 1 hF rfl (ex_nilCheck rfl) rfl rfl (by kernel_rfl) (by kernel_rfl) (by kernel_rfl) fun a hF => ?_
      refine e_p (v := (.pointer (some ⟨b_p_c, 0, none⟩))) 2 hF rfl (ex_fieldAddr Try.underlying103 rfl sz22 rfl rfl) rfl rfl (by kernel_rfl) (by kernel_rfl) (by kernel_rfl) fun a hF => ?_
      refine e_x (v := s1.v) 3 hF hS rfl (ex_load1 0 0 Try.underlying22 rfl rfl rfl rfl) rfl rfl (by kernel_rfl) (by kernel_rfl) (by kernel_rfl) (by kernel_rfl) fun a hF => ?_
      refine e_p (v := (.pointer (some ⟨b_p_c, 0, none⟩))) 4 hF rfl (ex_move rfl) rfl rfl (by kernel_rfl) (by kernel_rfl) (by kernel_rfl) fun a hF => ?_
      refine e_p (v := (.pointer (some ⟨b_p_c, 0, none⟩))) 5 hF rfl (ex_nilCheck rfl) rfl rfl (by kernel_rfl) (by kernel_rfl) (by kernel_rfl) fun a hF => ?_
      refine e_p (v := (.pointer (some ⟨b_p_c, 1, none⟩))) 6 hF rfl (ex_fieldAddr Try.underlying103 rfl sz3 rfl rfl) rfl rfl (by kernel_rfl) (by kernel_rfl) (by kernel_rfl) fun a hF => ?_
      refine e_x (v := (.int .i64 p_c.at_)) 7 hF hS rfl (ex_load1 0 0 Try.underlying3 rfl rfl rfl rfl) rfl rfl (by kernel_rfl) (by kernel_rfl) (by kernel_rfl) (by kernel_rfl) fun a hF => ?_
      obtain ⟨e_2, he_2, hj1⟩ := bindS hj1
      obtain ⟨vs3, at3, d3⟩ := h1.at he_2 1 rfl
      obtain rfl : vs3 = [(.int .u8 e_2.v)] := d3
      refine e_p (v := (elP s1 (p_c.at_.toNat * 1))) 8 hF rfl (ex_indexAddr Try.underlying22 sz5 rfl rfl (h1.idx he_2)) rfl rfl (by kernel_rfl) (by kernel_rfl) (by kernel_rfl) fun a hF => ?_
      refine e_x (v := (.int .u8 e_2.v)) 9 hF hS rfl (ex_loadE1 0 Try.underlying5 rfl rfl ((at3).at) rfl rfl) rfl rfl (by kernel_rfl) (by kernel_rfl) (by kernel_rfl) (by kernel_rfl) fun a hF => ?_
      refine e_p (v := (.int .i64 (w64 e_2.v))) 10 hF rfl (ex_conv Try.underlying5 Try.underlying3 rfl) rfl rfl (by kernel_rfl) (by kernel_rfl) (by kernel_rfl) fun a hF => ?_
      refine e_p (v := (.int .i64 (w64 e_2.v))) 11 hF rfl (ex_assign rfl) rfl rfl (by kernel_rfl) (by kernel_rfl) (by kernel_rfl) fun a hF => ?_
      refine e_end (by kernel_rfl) (n_jn ?_) _
      obtain rfl := someI hj1
      exact ⟨hF.sub ⟨rfl, rfl, trivial⟩, hS⟩
  · rintro a w ⟨hF, hS⟩
    refine n_sq ?_
    refine q_seq ?_
    refine q_region ?_
    refine q_x (v := (.pointer (some ⟨b_p_c, 0, none⟩))) hF hS (ex_move rfl) rfl rfl fun a hF => ?_
    refine q_x (v := (.pointer (some ⟨b_p_c, 0, none⟩))) hF hS (ex_nilCheck rfl) rfl rfl fun a hF => ?_
    refine q_x (v := (.pointer (some ⟨b_p_c, 1, none⟩))) hF hS (ex_fieldAddr Try.underlying103 rfl sz3 rfl rfl) rfl rfl fun a hF => ?_
    refine q_x (v := (.int .i64 p_c.at_)) hF hS (ex_load1 0 0 Try.underlying3 rfl rfl rfl rfl) rfl rfl fun a hF => ?_
    refine q_x (v := (.int .i64 (w64 (p_c.at_ + 1)))) hF hS (ex_ibin rfl rfl rfl) rfl rfl fun a hF => ?_
    refine q_x (v := (.pointer (some ⟨b_p_c, 0, none⟩))) hF hS (ex_nilCheck rfl) rfl rfl fun a hF => ?_
    refine q_x (v := (.pointer (some ⟨b_p_c, 1, none⟩))) hF hS (ex_fieldAddr Try.underlying103 rfl sz3 rfl rfl) rfl rfl fun a hF => ?_
    refine q_store (vs := [(.int .i64 (w64 (p_c.at_ + 1)))]) (cs' := [s1.v, (.int .i64 (w64 (p_c.at_ + 1))), (.int .u64 p_c.seed.v)]) 0 0 hF hS sz3 rfl rfl rfl rfl rfl rfl rfl rfl fun a w hF hS => ?_
    refine q_end (n_sq ?_)
    refine q_seq ?_
    refine q_region ?_
    refine q_x (v := (.pointer (some ⟨b_p_c, 0, none⟩))) hF hS (ex_move rfl) rfl rfl fun a hF => ?_
    refine q_x (v := (.pointer (some ⟨b_p_c, 0, none⟩))) hF hS (ex_move rfl) rfl rfl fun a hF => ?_
    refine q_x (v := (.pointer (some ⟨b_p_c, 0, none⟩))) hF hS (ex_nilCheck rfl) rfl rfl fun a hF => ?_
    refine q_x (v := (.pointer (some ⟨b_p_c, 2, none⟩))) hF hS (ex_fieldAddr Try.underlying103 rfl sz101 rfl rfl) rfl rfl fun a hF => ?_
    refine q_x (v := (.int .u64 p_c.seed.v)) hF hS (ex_load1 0 0 Try.underlying101 rfl rfl rfl rfl) rfl rfl fun a hF => ?_
    refine q_x (v := (.int .u64 (IntKind.wrap .u64 (p_c.seed.v * 6364136223846793005)))) hF hS (ex_ibin rfl rfl rfl) rfl rfl fun a hF => ?_
    refine q_x (v := (.int .i64 b_4)) hF hS (ex_move rfl) rfl rfl fun a hF => ?_
    refine q_x (v := (.int .u64 (IntKind.wrap .u64 b_4))) hF hS (ex_conv Try.underlying3 Try.underlying101 rfl) rfl rfl fun a hF => ?_
    refine q_x (v := (.int .u64 (IntKind.wrap .u64 ((IntKind.wrap .u64 (p_c.seed.v * 6364136223846793005)) + (IntKind.wrap .u64 b_4))))) hF hS (ex_ibin rfl rfl rfl) rfl rfl fun a hF => ?_
    refine q_x (v := (.int .u64 (IntKind.wrap .u64 ((IntKind.wrap .u64 ((IntKind.wrap .u64 (p_c.seed.v * 6364136223846793005)) + (IntKind.wrap .u64 b_4))) + 1442695040888963407)))) hF hS (ex_ibin rfl rfl rfl) rfl rfl fun a hF => ?_
    refine q_x (v := (.pointer (some ⟨b_p_c, 0, none⟩))) hF hS (ex_nilCheck rfl) rfl rfl fun a hF => ?_
    refine q_x (v := (.pointer (some ⟨b_p_c, 2, none⟩))) hF hS (ex_fieldAddr Try.underlying103 rfl sz101 rfl rfl) rfl rfl fun a hF => ?_
    refine q_store (vs := [(.int .u64 (IntKind.wrap .u64 ((IntKind.wrap .u64 ((IntKind.wrap .u64 (p_c.seed.v * 6364136223846793005)) + (IntKind.wrap .u64 b_4))) + 1442695040888963407)))]) (cs' := [s1.v, (.int .i64 (w64 (p_c.at_ + 1))), (.int .u64 (IntKind.wrap .u64 ((IntKind.wrap .u64 ((IntKind.wrap .u64 (p_c.seed.v * 6364136223846793005)) + (IntKind.wrap .u64 b_4))) + 1442695040888963407)))]) 0 0 hF hS sz101 rfl rfl rfl rfl rfl rfl rfl rfl fun a w hF hS => ?_
    refine q_end (n_sq ?_)
    refine q_seq ?_
    refine q_seq ?_
    refine e_region [] mixed fun w' hw' => ?_
    have hS := hS.below hw'
    refine e_p (v := (.pointer (some ⟨b_p_c, 0, none⟩))) 0 hF rfl (ex_move rfl) rfl rfl (by kernel_rfl) (by kernel_rfl) (by kernel_rfl) fun a hF => ?_
    refine e_p (v := (.pointer (some ⟨b_p_c, 0, none⟩))) 1 hF rfl (ex_nilCheck rfl) rfl rfl (by kernel_rfl) (by kernel_rfl) (by kernel_rfl) fun a hF => ?_
    refine e_p (v := (.pointer (some ⟨b_p_c, 1, none⟩))) 2 hF rfl (ex_fieldAddr Try.underlying103 rfl sz3 rfl rfl) rfl rfl (by kernel_rfl) (by kernel_rfl) (by kernel_rfl) fun a hF => ?_
    refine e_x (v := (.int .i64 (w64 (p_c.at_ + 1)))) 3 hF hS rfl (ex_load1 0 0 Try.underlying3 rfl rfl rfl rfl) rfl rfl (by kernel_rfl) (by kernel_rfl) (by kernel_rfl) (by kernel_rfl) fun a hF => ?_
    refine e_p (v := (.pointer (some ⟨b_p_c, 0, none⟩))) 4 hF rfl (ex_move rfl) rfl rfl (by kernel_rfl) (by kernel_rfl) (by kernel_rfl) fun a hF => ?_
    refine e_p (v := (.pointer (some ⟨b_p_c, 0, none⟩))) 5 hF rfl (ex_nilCheck rfl) rfl rfl (by kernel_rfl) (by kernel_rfl) (by kernel_rfl) fun a hF => ?_
    refine e_p (v := (.pointer (some ⟨b_p_c, 0, none⟩))) 6 hF rfl (ex_fieldAddr Try.underlying103 rfl sz22 rfl rfl) rfl rfl (by kernel_rfl) (by kernel_rfl) (by kernel_rfl) fun a hF => ?_
    refine e_x (v := s1.v) 7 hF hS rfl (ex_load1 0 0 Try.underlying22 rfl rfl rfl rfl) rfl rfl (by kernel_rfl) (by kernel_rfl) (by kernel_rfl) (by kernel_rfl) fun a hF => ?_
    refine e_p (v := (.int .i64 (goLen p_c.code))) 8 hF rfl (ex_len Try.underlying22 rfl h1.len) rfl rfl (by kernel_rfl) (by kernel_rfl) (by kernel_rfl) fun a hF => ?_
    refine e_p (v := (.bool (decide ((w64 (p_c.at_ + 1)) ≤ (goLen p_c.code))))) 9 hF rfl (ex_ibin rfl rfl rfl) rfl rfl (by kernel_rfl) (by kernel_rfl) (by kernel_rfl) fun a hF => ?_
    refine e_end (by kernel_rfl) (n_sq ?_) _
    rcases bcase (decide ((w64 (p_c.at_ + 1)) ≤ (goLen p_c.code))) with hc3 | hc3
    · have hr := cond_f hc3 hr
      refine q_cond_f hF rfl hc3 ?_
      refine q_skipc (n_sq ?_)
      refine q_seq ?_
      refine q_region ?_
      refine q_x (v := (.pointer (some ⟨b_p_c, 0, none⟩))) hF hS (ex_move rfl) rfl rfl fun a hF => ?_
      refine q_x (v := (.pointer (some ⟨b_p_c, 0, none⟩))) hF hS (ex_nilCheck rfl) rfl rfl fun a hF => ?_
      refine q_x (v := (.pointer (some ⟨b_p_c, 2, none⟩))) hF hS (ex_fieldAddr Try.underlying103 rfl sz101 rfl rfl) rfl rfl fun a hF => ?_
      refine q_x (v := (.int .u64 (IntKind.wrap .u64 ((IntKind.wrap .u64 ((IntKind.wrap .u64 (p_c.seed.v * 6364136223846793005)) + (IntKind.wrap .u64 b_4))) + 1442695040888963407)))) hF hS (ex_load1 0 0 Try.underlying101 rfl rfl rfl rfl) rfl rfl fun a hF => ?_
      obtain ⟨t_5, ht_5, hr⟩ := bindS hr
      refine q_x (v := (.int .u64 t_5)) hF hS (ex_shr rfl rfl ht_5) rfl rfl fun a hF => ?_
      refine q_x (v := (.int .u64 (goBits .and .u64 t_5 255))) hF hS (ex_bits rfl rfl rfl) rfl rfl fun a hF => ?_
      refine q_x (v := (.int .i64 (w64 (goBits .and .u64 t_5 255)))) hF hS (ex_conv Try.underlying101 Try.underlying3 rfl) rfl rfl fun a hF => ?_
      refine q_x (v := (.int .i64 (w64 (goBits .and .u64 t_5 255)))) hF hS (ex_assign rfl) rfl rfl fun a hF => ?_
      refine q_end (n_sq (q_ret ?_))
      obtain rfl := someI hr
      exact ret_ofX hF hS rfl (.tmp rfl .nil) ⟨rfl, hS.sel [0] (by decide), rfl⟩
    · have hr := cond_t hc3 hr
      refine q_cond_t hF rfl hc3 ?_
      refine q_seq ?_
      refine q_region ?_
      refine q_x (v := (.int .i64 b_4)) hF hS (ex_move rfl) rfl rfl fun a hF => ?_
      refine q_x (v := (.int .i64 b_4)) hF hS (ex_assign rfl) rfl rfl fun a hF => ?_
      refine q_end (n_sq (q_ret (r_sq ?_)))
      obtain rfl := someI hr
      exact ret_ofX hF hS rfl (.tmp rfl .nil) ⟨rfl, hS.sel [0] (by decide), rfl⟩

theorem c_spec_l1Cur_pick (p_c : spec_l1Cur) (p_n : Int) (r : Int × spec_l1Cur) (hr : spec_l1Cur_pick p_c p_n = some r) (w0 : World) (m : Mem) (b_p_c : Nat) (s1 : Sl) (h1 : Rd m s1 p_c.code) (X : List Nat) (hS : St X w0 w0 m [[⟨b_p_c, [s1.v, (.int .i64 p_c.at_), (.int .u64 p_c.seed.v)], 103⟩]]) :
    RetX Try.prog 99 [(.pointer (some ⟨b_p_c, 0, none⟩)), (.int .i64 p_n)] w0 (fun v w => ∃ (m' : Mem) (s0' : Sl), v = (.int .i64 r.1) ∧ MLe X w0.heap.size m m' ∧ St X w0 w m' [[⟨b_p_c, [s0'.v, (.int .i64 r.2.at_), (.int .u64 r.2.seed.v)], 103⟩]] ∧ Rd m' s0' r.2.code) := by
  unfold spec_l1Cur_pick at hr
  refine ret_startX Try.func99 rfl 20 rfl rfl fun a hF => ?_
  refine q_seq ?_
  refine q_region ?_
  refine q_x (v := (.int .i64 0)) hF hS (ex_assign rfl) rfl rfl fun a hF => ?_
  refine q_end (n_sq ?_)
  refine q_seq ?_
  refine q_seq ?_
  refine q_region ?_
  refine q_x (v := (.int .i64 p_n)) hF hS (ex_move rfl) rfl rfl fun a hF => ?_
  refine q_x (v := (.bool (decide (p_n ≤ 1)))) hF hS (ex_ibin rfl rfl rfl) rfl rfl fun a hF => ?_
  refine q_end (n_sq ?_)
  rcases bcase (decide (p_n ≤ 1)) with hc1 | hc1
  · have hr := cond_f hc1 hr
    refine q_cond_f hF rfl hc1 ?_
    refine q_skipc (n_sq ?_)
    refine q_seq ?_
    refine q_region ?_
    refine q_x (v := (.pointer (some ⟨b_p_c, 0, none⟩))) hF hS (ex_move rfl) rfl rfl fun a hF => ?_
    have hS2 : St _ _ _ _ ([[⟨b_p_c, [s1.v, (.int .i64 p_c.at_), (.int .u64 p_c.seed.v)], 103⟩]] ++ []) := hS
    have hE2 := hS2.enter
    obtain ⟨t_3, ht_3, hr⟩ := bindS hr
    refine q_do rfl fun _ hK => wp_callX (vs := [(.pointer (some ⟨b_p_c, 0, none⟩))]) hF Try.func160 (by kernel_rfl) rfl rfl rfl (c_spec_l1Cur_next p_c t_3 ht_3 _ m b_p_c s1 h1 _ hE2) fun a w _ hR hF => hK _ _ ?_
    obtain ⟨rfl, hR2, hk4⟩ := hR
    have hS : St _ _ _ _ [[⟨b_p_c, [s1.v, (.int .i64 t_3.2.at_), (.int .u64 t_3.2.seed.v)], 103⟩]] := hS2.leaveF hR2
    have h4 : Rd m s1 t_3.2.code := by rw [hk4]; exact h1
    refine q_x (v := (.int .i64 t_3.1)) hF hS (ex_assign rfl) rfl rfl fun a hF => ?_
    refine q_end (n_sq ?_)
    refine q_seq ?_
    refine q_seq ?_
    refine q_region ?_
    refine q_x (v := (.int .i64 p_n)) hF hS (ex_move rfl) rfl rfl fun a hF => ?_
    refine q_x (v := (.bool (decide (200 < p_n)))) hF hS (ex_ibin rfl rfl rfl) rfl rfl fun a hF => ?_
    refine q_end (n_sq ?_)
    obtain ⟨j2, hj2, hr⟩ := bindS hr
    refine q_join (fun a w => ∃ x_8, ∃ p_c_9, j2 = (x_8, p_c_9) ∧ Fr a 20 [(1, (.int .i64 p_n)), (5, (.int .i64 x_8))] ∧ St X w0 w m [[⟨b_p_c, [s1.v, (.int .i64 p_c_9.at_), (.int .u64 p_c_9.seed.v)], 103⟩]] ∧ Rd m s1 p_c_9.code) ?_ ?_
    · rcases bcase (decide (200 < p_n)) with hc3 | hc3
      · have hj2 := cond_f hc3 hj2
        refine q_cond_f hF rfl hc3 ?_
        refine q_skipc (n_jn ?_)
        obtain rfl := someI hj2
        exact ⟨_, _, rfl, hF.sub ⟨rfl, rfl, trivial⟩, hS, h4⟩
      · have hj2 := cond_t hc3 hj2
        refine q_cond_t hF rfl hc3 ?_
        refine q_region ?_
        refine q_x (v := (.int .i64 t_3.1)) hF hS (ex_move rfl) rfl rfl fun a hF => ?_
        refine q_x (v := (.int .i64 (w64 (t_3.1 * 256)))) hF hS (ex_ibin rfl rfl rfl) rfl rfl fun a hF => ?_
        refine q_x (v := (.pointer (some ⟨b_p_c, 0, none⟩))) hF hS (ex_move rfl) rfl rfl fun a hF => ?_
        have hS5 : St _ _ _ _ ([[⟨b_p_c, [s1.v, (.int .i64 t_3.2.at_), (.int .u64 t_3.2.seed.v)], 103⟩]] ++ []) := hS
        have hE5 := hS5.enter
        obtain ⟨t_6, ht_6, hj2⟩ := bindS hj2
        refine q_do rfl fun _ hK => wp_callX (vs := [(.pointer (some ⟨b_p_c, 0, none⟩))]) hF Try.func160 (by kernel_rfl) rfl rfl rfl (c_spec_l1Cur_next t_3.2 t_6 ht_6 _ m b_p_c s1 h4 _ hE5) fun a w _ hR hF => hK _ _ ?_
        obtain ⟨rfl, hR5, hk7⟩ := hR
        have hS : St _ _ _ _ [[⟨b_p_c, [s1.v, (.int .i64 t_6.2.at_), (.int .u64 t_6.2.seed.v)], 103⟩]] := hS5.leaveF hR5
        have h7 : Rd m s1 t_6.2.code := by rw [hk7]; exact h4
        refine q_x (v := (.int .i64 (w64 ((w64 (t_3.1 * 256)) + t_6.1)))) hF hS (ex_ibin rfl rfl rfl) rfl rfl fun a hF => ?_
        refine q_x (v := (.int .i64 (w64 ((w64 (t_3.1 * 256)) + t_6.1)))) hF hS (ex_assign rfl) rfl rfl fun a hF => ?_
        refine q_end (n_jn ?_)
        obtain rfl := someI hj2
        exact ⟨_, _, rfl, hF.sub ⟨rfl, rfl, trivial⟩, hS, h7⟩
    · rintro a w ⟨x_8, p_c_9, rfl, hF, hS, h10⟩
      refine n_sq ?_
      refine q_seq ?_
      refine q_region ?_
      refine q_x (v := (.int .i64 x_8)) hF hS (ex_move rfl) rfl rfl fun a hF => ?_
      refine q_x (v := (.int .i64 p_n)) hF hS (ex_move rfl) rfl rfl fun a hF => ?_
      obtain ⟨t_11, ht_11, hr⟩ := bindS hr
      refine q_x (v := (.int .i64 t_11)) hF hS (ex_rem rfl rfl ht_11) rfl rfl fun a hF => ?_
      refine q_x (v := (.int .i64 t_11)) hF hS (ex_assign rfl) rfl rfl fun a hF => ?_
      refine q_end (n_sq (q_ret ?_))
      obtain rfl := someI hr
      exact ret_ofX hF hS rfl (.tmp rfl .nil) ⟨m, s1, rfl, (MLe.refl _ _), hS.sel [0] (by decide), h10⟩
  · have hr := cond_t hc1 hr
    refine q_cond_t hF rfl hc1 ?_
    refine q_seq ?_
    refine q_region ?_
    refine q_x (v := (.int .i64 0)) hF hS (ex_assign rfl) rfl rfl fun a hF => ?_
    refine q_end (n_sq (q_ret (r_sq ?_)))
    obtain rfl := someI hr
    exact ret_ofX hF hS rfl (.tmp rfl .nil) ⟨m, s1, rfl, (MLe.refl _ _), hS.sel [0] (by decide), h1⟩

theorem c_spec_l1Cur_among (p_c : spec_l1Cur) (p_list : List Int) (r : Int × spec_l1Cur) (hr : spec_l1Cur_among p_c p_list = some r) (w0 : World) (m : Mem) (b_p_c : Nat) (s1 : Sl) (h1 : Rd m s1 p_c.code) (s2 : Sl) (h2 : Rd m s2 p_list) (X : List Nat) (hS : St X w0 w0 m [[⟨b_p_c, [s1.v, (.int .i64 p_c.at_), (.int .u64 p_c.seed.v)], 103⟩]]) :
    RetX Try.prog 100 [(.pointer (some ⟨b_p_c, 0, none⟩)), s2.v] w0 (fun v w => ∃ (m' : Mem) (s0' : Sl), v = (.int .i64 r.1) ∧ MLe X w0.heap.size m m' ∧ St X w0 w m' [[⟨b_p_c, [s0'.v, (.int .i64 r.2.at_), (.int .u64 r.2.seed.v)], 103⟩]] ∧ Rd m' s0' r.2.code) := by
  unfold spec_l1Cur_among at hr
  refine ret_startX Try.func100 rfl 12 rfl rfl fun a hF => ?_
  refine q_seq ?_
  refine q_region ?_
  refine q_x (v := (.int .i64 0)) hF hS (ex_assign rfl) rfl rfl fun a hF => ?_
  refine q_end (n_sq ?_)
  refine q_seq ?_
  refine q_region ?_
  refine q_x (v := s2.v) hF hS (ex_move rfl) rfl rfl fun a hF => ?_
  refine q_x (v := (.pointer (some ⟨b_p_c, 0, none⟩))) hF hS (ex_move rfl) rfl rfl fun a hF => ?_
  refine q_x (v := s2.v) hF hS (ex_move rfl) rfl rfl fun a hF => ?_
  refine q_x (v := (.int .i64 (goLen p_list))) hF hS (ex_len Try.underlying42 rfl h2.len) rfl rfl fun a hF => ?_
  have hS3 : St _ _ _ _ ([[⟨b_p_c, [s1.v, (.int .i64 p_c.at_), (.int .u64 p_c.seed.v)], 103⟩]] ++ []) := hS
  have hE3 := hS3.enter
  obtain ⟨t_4, ht_4, hr⟩ := bindS hr
  refine q_do rfl fun _ hK => wp_callX (vs := [(.pointer (some ⟨b_p_c, 0, none⟩)), (.int .i64 (goLen p_list))]) hF Try.func99 (by kernel_rfl) rfl rfl rfl (c_spec_l1Cur_pick p_c (goLen p_list) t_4 ht_4 _ m b_p_c s1 h1 _ hE3) fun a w _ hR hF => hK _ _ ?_
  obtain ⟨m3', s5, rfl, hm3, hR3, h5⟩ := hR
  have hS : St _ _ _ _ [[⟨b_p_c, [s5.v, (.int .i64 t_4.2.at_), (.int .u64 t_4.2.seed.v)], 103⟩]] := hS3.leave hR3 hm3
  have hm3 := MLe.weakX hS3 hm3
  obtain ⟨e_6, he_6, hr⟩ := bindS hr
  obtain ⟨vs7, at7, d7⟩ := (h2.mono hm3.le).at he_6 1 rfl
  obtain rfl : vs7 = [(.int .i64 e_6)] := d7
  refine q_x (v := (elP s2 (t_4.1.toNat * 1))) hF hS (ex_indexAddr Try.underlying42 sz3 rfl rfl ((h2.mono hm3.le).idx he_6)) rfl rfl fun a hF => ?_
  refine q_x (v := (.int .i64 e_6)) hF hS (ex_loadE1 0 Try.underlying3 rfl rfl ((at7).at) rfl rfl) rfl rfl fun a hF => ?_
  refine q_x (v := (.int .i64 e_6)) hF hS (ex_assign rfl) rfl rfl fun a hF => ?_
  refine q_end (n_sq (q_ret ?_))
  obtain rfl := someI hr
  exact ret_ofX hF hS rfl (.tmp rfl .nil) ⟨m3', s5, rfl, hm3, hS.sel [0] (by decide), h5⟩

theorem c_spec_l1Cur_one (p_c : spec_l1Cur) (p_n : Int) (r : Bool × spec_l1Cur) (hr : spec_l1Cur_one p_c p_n = some r) (w0 : World) (m : Mem) (b_p_c : Nat) (s1 : Sl) (h1 : Rd m s1 p_c.code) (X : List Nat) (hS : St X w0 w0 m [[⟨b_p_c, [s1.v, (.int .i64 p_c.at_), (.int .u64 p_c.seed.v)], 103⟩]]) :
    RetX Try.prog 86 [(.pointer (some ⟨b_p_c, 0, none⟩)), (.int .i64 p_n)] w0 (fun v w => ∃ (m' : Mem) (s0' : Sl), v = (.bool r.1) ∧ MLe X w0.heap.size m m' ∧ St X w0 w m' [[⟨b_p_c, [s0'.v, (.int .i64 r.2.at_), (.int .u64 r.2.seed.v)], 103⟩]] ∧ Rd m' s0' r.2.code) := by
  unfold spec_l1Cur_one at hr
  refine ret_startX Try.func86 rfl 9 rfl rfl fun a hF => ?_
  refine q_seq ?_
  refine q_region ?_
  refine q_x (v := (.bool false)) hF hS (ex_assign rfl) rfl rfl fun a hF => ?_
  refine q_end (n_sq ?_)
  refine q_seq ?_
  refine q_region ?_
  refine q_x (v := (.pointer (some ⟨b_p_c, 0, none⟩))) hF hS (ex_move rfl) rfl rfl fun a hF => ?_
  refine q_x (v := (.int .i64 p_n)) hF hS (ex_move rfl) rfl rfl fun a hF => ?_
  have hS2 : St _ _ _ _ ([[⟨b_p_c, [s1.v, (.int .i64 p_c.at_), (.int .u64 p_c.seed.v)], 103⟩]] ++ []) := hS
  have hE2 := hS2.enter
  obtain ⟨t_3, ht_3, hr⟩ := bindS hr
  refine q_do rfl fun _ hK => wp_callX (vs := [(.pointer (some ⟨b_p_c, 0, none⟩)), (.int .i64 p_n)]) hF Try.func99 (by kernel_rfl) rfl rfl rfl (c_spec_l1Cur_pick p_c p_n t_3 ht_3 _ m b_p_c s1 h1 _ hE2) fun a w _ hR hF => hK _ _ ?_
  obtain ⟨m2', s4, rfl, hm2, hR2, h4⟩ := hR
  have hS : St _ _ _ _ [[⟨b_p_c, [s4.v, (.int .i64 t_3.2.at_), (.int .u64 t_3.2.seed.v)], 103⟩]] := hS2.leave hR2 hm2
  have hm2 := MLe.weakX hS2 hm2
  refine q_x (v := (.bool (t_3.1 == 0))) hF hS (ex_ibin rfl rfl rfl) rfl rfl fun a hF => ?_
  refine q_x (v := (.bool (t_3.1 == 0))) hF hS (ex_assign rfl) rfl rfl fun a hF => ?_
  refine q_end (n_sq (q_ret ?_))
  obtain rfl := someI hr
  exact ret_ofX hF hS rfl (.tmp rfl .nil) ⟨m2', s4, rfl, hm2, hS.sel [0] (by decide), h4⟩

theorem c_spec_l1Most (p_a : Int) (p_b : Int) (r : Int) (hr : spec_l1Most p_a p_b = some r) (w0 : World) (m : Mem) (hv : Vis m w0) :
    Ret Try.prog 169 [(.int .i64 p_a), (.int .i64 p_b)] w0 (fun v _ => v = (.int .i64 r)) := by
  unfold spec_l1Most at hr
  refine ret_start Try.func169 rfl 10 rfl rfl m hv fun a hF hS => ?_
  refine q_seq ?_
  refine q_region ?_
  refine q_x (v := (.int .i64 0)) hF hS (ex_assign rfl) rfl rfl fun a hF => ?_
  refine q_end (n_sq ?_)
  refine q_seq ?_
  refine q_seq ?_
  refine q_region ?_
  refine q_x (v := (.int .i64 p_a)) hF hS (ex_move rfl) rfl rfl fun a hF => ?_
  refine q_x (v := (.int .i64 p_b)) hF hS (ex_move rfl) rfl rfl fun a hF => ?_
  refine q_x (v := (.bool (decide (p_b < p_a)))) hF hS (ex_ibin rfl rfl rfl) rfl rfl fun a hF => ?_
  refine q_end (n_sq ?_)
  rcases bcase (decide (p_b < p_a)) with hc1 | hc1
  · have hr := cond_f hc1 hr
    refine q_cond_f hF rfl hc1 ?_
    refine q_skipc (n_sq ?_)
    refine q_seq ?_
    refine q_region ?_
    refine q_x (v := (.int .i64 p_b)) hF hS (ex_move rfl) rfl rfl fun a hF => ?_
    refine q_x (v := (.int .i64 p_b)) hF hS (ex_assign rfl) rfl rfl fun a hF => ?_
    refine q_end (n_sq (q_ret ?_))
    obtain rfl := someI hr
    exact ret_of hF hS rfl (.tmp rfl .nil) rfl
  · have hr := cond_t hc1 hr
    refine q_cond_t hF rfl hc1 ?_
    refine q_seq ?_
    refine q_region ?_
    refine q_x (v := (.int .i64 p_a)) hF hS (ex_move rfl) rfl rfl fun a hF => ?_
    refine q_x (v := (.int .i64 p_a)) hF hS (ex_assign rfl) rfl rfl fun a hF => ?_
    refine q_end (n_sq (q_ret (r_sq ?_)))
    obtain rfl := someI hr
    exact ret_of hF hS rfl (.tmp rfl .nil) rfl

theorem c_spec_l1Abs (p_n : Int) (r : Int) (hr : spec_l1Abs p_n = some r) (w0 : World) (m : Mem) (hv : Vis m w0) :
    Ret Try.prog 167 [(.int .i64 p_n)] w0 (fun v _ => v = (.int .i64 r)) := by
  unfold spec_l1Abs at hr
  refine ret_start Try.func167 rfl 7 rfl rfl m hv fun a hF hS => ?_
  refine q_seq ?_
  refine q_region ?_
  refine q_x (v := (.int .i64 0)) hF hS (ex_assign rfl) rfl rfl fun a hF => ?_
  refine q_end (n_sq ?_)
  refine q_seq ?_
  refine q_region ?_
  refine q_x (v := (.int .i64 p_n)) hF hS (ex_move rfl) rfl rfl fun a hF => ?_
  refine q_x (v := (.int .i64 p_n)) hF hS (ex_move rfl) rfl rfl fun a hF => ?_
  refine q_x (v := (.int .i64 (w64 (-p_n)))) hF hS (ex_neg rfl) rfl rfl fun a hF => ?_
  obtain ⟨t_1, ht_1, hr⟩ := bindS hr
  refine q_call (vs := [(.int .i64 p_n), (.int .i64 (w64 (-p_n)))]) hF hS Try.func169 (by kernel_rfl) rfl rfl rfl (c_spec_l1Most p_n (w64 (-p_n)) t_1 ht_1 _ m hS.vis) ?_
  rintro a w _ rfl hF hS
  refine q_x (v := (.int .i64 t_1)) hF hS (ex_assign rfl) rfl rfl fun a hF => ?_
  refine q_end (n_sq (q_ret ?_))
  obtain rfl := someI hr
  exact ret_of hF hS rfl (.tmp rfl .nil) rfl

theorem c_spec_fGcd (p_a : Int) (p_b : Int) (r : Int) (hr : spec_fGcd p_a p_b = some r) (w0 : World) (m : Mem) (hv : Vis m w0) :
    Ret Try.prog 163 [(.int .i64 p_a), (.int .i64 p_b)] w0 (fun v _ => v = (.int .i64 r)) := by
  unfold spec_fGcd at hr
  refine ret_start Try.func163 rfl 15 rfl rfl m hv fun a hF hS => ?_
  refine q_seq ?_
  refine q_region ?_
  refine q_x (v := (.int .i64 0)) hF hS (ex_assign rfl) rfl rfl fun a hF => ?_
  refine q_end (n_sq ?_)
  refine q_seq ?_
  refine q_block ?_
  obtain ⟨a_4, hl1, hr⟩ := bindS hr
  refine q_loop (fun (s : Int × Int) a w => ∃ a_1, ∃ b_2, s = (a_1, b_2) ∧ Fr a 15 [(0, (.int .i64 a_1)), (1, (.int .i64 b_2))] ∧ St [] w0 w m []) (fun (a_4 : Int) e a w => e = .exit 0 ∧ Fr a 15 [(0, (.int .i64 a_4))] ∧ St [] w0 w m []) hl1 ⟨_, _, rfl, hF.sub ⟨rfl, rfl, trivial⟩, hS⟩ ?_ ?_
  · clear hF hS
    rintro s a w st ⟨a_1, b_2, rfl, hF, hS⟩ hb1
    unfold spec_fGcd_l1 at hb1
    refine q_seq ?_
    refine q_seq ?_
    refine q_region ?_
    refine q_x (v := (.int .i64 b_2)) hF hS (ex_move rfl) rfl rfl fun a hF => ?_
    refine q_x (v := (.bool (b_2 != 0))) hF hS (ex_ibin rfl rfl rfl) rfl rfl fun a hF => ?_
    refine q_end (n_sq ?_)
    rcases bcase (b_2 != 0) with hc2 | hc2
    · have hb1 := cond_f hc2 hb1
      refine q_cond_f hF rfl hc2 ?_
      refine q_exit (x_sq ?_)
      obtain rfl := someI hb1
      exact ⟨nofun, .inl ⟨rfl, hF.sub ⟨rfl, trivial⟩, hS⟩⟩
    · have hb1 := cond_t hc2 hb1
      refine q_cond_t hF rfl hc2 ?_
      refine q_skipc (n_sq ?_)
      refine q_block ?_
      refine q_seq ?_
      refine q_region ?_
      refine q_x (v := (.int .i64 a_1)) hF hS (ex_move rfl) rfl rfl fun a hF => ?_
      refine q_x (v := (.int .i64 b_2)) hF hS (ex_move rfl) rfl rfl fun a hF => ?_
      obtain ⟨t_3, ht_3, hb1⟩ := bindS hb1
      refine q_x (v := (.int .i64 t_3)) hF hS (ex_rem rfl rfl ht_3) rfl rfl fun a hF => ?_
      refine q_x (v := (.int .i64 t_3)) hF hS (ex_assign rfl) rfl rfl fun a hF => ?_
      refine q_end (n_sq ?_)
      refine q_seq ?_
      refine q_region ?_
      refine q_x (v := (.int .i64 b_2)) hF hS (ex_move rfl) rfl rfl fun a hF => ?_
      refine q_x (v := (.int .i64 b_2)) hF hS (ex_assign rfl) rfl rfl fun a hF => ?_
      refine q_end (n_sq ?_)
      refine q_region ?_
      refine q_x (v := (.int .i64 t_3)) hF hS (ex_move rfl) rfl rfl fun a hF => ?_
      refine q_x (v := (.int .i64 t_3)) hF hS (ex_assign rfl) rfl rfl fun a hF => ?_
      refine q_end (n_ib ?_)
      obtain rfl := someI hb1
      exact ⟨rfl, _, _, rfl, hF.sub ⟨rfl, rfl, trivial⟩, hS⟩
  · rintro e a w ⟨rfl, hF, hS⟩
    refine x_ib (n_sq ?_)
    refine q_seq ?_
    refine q_region ?_
    refine q_x (v := (.int .i64 a_4)) hF hS (ex_move rfl) rfl rfl fun a hF => ?_
    obtain ⟨t_5, ht_5, hr⟩ := bindS hr
    refine q_call (vs := [(.int .i64 a_4)]) hF hS Try.func167 (by kernel_rfl) rfl rfl rfl (c_spec_l1Abs a_4 t_5 ht_5 _ m hS.vis) ?_
    rintro a w _ rfl hF hS
    refine q_x (v := (.int .i64 t_5)) hF hS (ex_assign rfl) rfl rfl fun a hF => ?_
    refine q_end (n_sq (q_ret ?_))
    obtain rfl := someI hr
    exact ret_of hF hS rfl (.tmp rfl .nil) rfl

theorem c_spec_l1In (p_n : Int) (p_lo : Int) (p_hi : Int) (r : Bool) (hr : spec_l1In p_n p_lo p_hi = some r) (w0 : World) (m : Mem) (hv : Vis m w0) :
    Ret Try.prog 104 [(.int .i64 p_n), (.int .i64 p_lo), (.int .i64 p_hi)] w0 (fun v _ => v = (.bool r)) := by
  unfold spec_l1In at hr
  refine ret_start Try.func104 rfl 15 rfl rfl m hv fun a hF hS => ?_
  refine q_seq ?_
  refine q_region ?_
  refine q_x (v := (.bool false)) hF hS (ex_assign rfl) rfl rfl fun a hF => ?_
  refine q_end (n_sq ?_)
  refine q_seq ?_
  obtain ⟨t_1, hj1, hr⟩ := bindS hr
  refine q_join (fun a w => Fr a 15 [(6, (.bool t_1))] ∧ St [] w0 w m []) ?_ ?_
  · refine q_region ?_
    refine q_x (v := (.int .i64 p_n)) hF hS (ex_move rfl) rfl rfl fun a hF => ?_
    refine q_x (v := (.int .i64 p_lo)) hF hS (ex_move rfl) rfl rfl fun a hF => ?_
    refine q_x (v := (.bool (decide (p_lo ≤ p_n)))) hF hS (ex_ibin rfl rfl rfl) rfl rfl fun a hF => ?_
    refine q_x (v := (.bool (decide (p_lo ≤ p_n)))) hF hS (ex_move rfl) rfl rfl fun a hF => ?_
    rcases bcase (decide (p_lo ≤ p_n)) with hc2 | hc2
    · have hj1 := cond_f hc2 hj1
      refine q_skip hF (wanted_f hF rfl rfl rfl hc2 rfl) rfl fun a hF => ?_
      refine q_skip hF (wanted_f hF rfl rfl rfl hc2 rfl) rfl fun a hF => ?_
      refine q_skip hF (wanted_f hF rfl rfl rfl hc2 rfl) rfl fun a hF => ?_
      refine q_x (v := (.bool false)) hF hS (ex_pick_f rfl rfl hc2) rfl rfl fun a hF => ?_
      refine q_x (v := (.bool false)) hF hS (ex_assign rfl) rfl rfl fun a hF => ?_
      refine q_end (n_jn ?_)
      obtain rfl := someI hj1
      exact ⟨hF.sub ⟨rfl, trivial⟩, hS⟩
    · have hj1 := cond_t hc2 hj1
      refine q_xg (v := (.int .i64 p_n)) hF hS (ex_move rfl) (wanted_t hF rfl rfl rfl hc2) rfl fun a hF => ?_
      refine q_xg (v := (.int .i64 p_hi)) hF hS (ex_move rfl) (wanted_t hF rfl rfl rfl hc2) rfl fun a hF => ?_
      refine q_xg (v := (.bool (decide (p_n ≤ p_hi)))) hF hS (ex_ibin rfl rfl rfl) (wanted_t hF rfl rfl rfl hc2) rfl fun a hF => ?_
      refine q_x (v := (.bool (decide (p_n ≤ p_hi)))) hF hS (ex_pick_t rfl rfl hc2) rfl rfl fun a hF => ?_
      refine q_x (v := (.bool (decide (p_n ≤ p_hi)))) hF hS (ex_assign rfl) rfl rfl fun a hF => ?_
      refine q_end (n_jn ?_)
      obtain rfl := someI hj1
      exact ⟨hF.sub ⟨rfl, trivial⟩, hS⟩
  · rintro a w ⟨hF, hS⟩
    refine n_sq (q_ret ?_)
    obtain rfl := someI hr
    exact ret_of hF hS rfl (.tmp rfl .nil) rfl

theorem c_spec_fGood (p_f : impl_Frac) (r : Bool) (hr : spec_fGood p_f = some r) (w0 : World) (m : Mem) (hv : Vis m w0) :
    Ret Try.prog 115 [(.agg #[(.int .i64 p_f.Num), (.int .i64 p_f.Den)])] w0 (fun v _ => v = (.bool r)) := by
  unfold spec_fGood at hr
  refine ret_start Try.func115 rfl 19 rfl rfl m hv fun a hF hS => ?_
  refine q_seq ?_
  refine q_region ?_
  refine q_box (cs := [(.int .i64 p_f.Num), (.int .i64 p_f.Den)]) hF hS rfl rfl rfl fun a w b1 hF hS => ?_
  refine q_x (v := (.bool false)) hF hS (ex_assign rfl) rfl rfl fun a hF => ?_
  refine q_end (n_sq ?_)
  refine q_seq ?_
  obtain ⟨t_5, hj1, hr⟩ := bindS hr
  refine q_join (fun a w => Fr a 19 [(2, (.bool t_5))] ∧ St [] w0 w m []) ?_ ?_
  · refine q_region ?_
    refine q_x (v := (.pointer (some ⟨b1, 1, none⟩))) hF hS (ex_fieldAddr Try.underlying24 rfl sz3 rfl rfl) rfl rfl fun a hF => ?_
    refine q_x (v := (.int .i64 p_f.Den)) hF hS (ex_load1 0 0 Try.underlying3 rfl rfl rfl rfl) rfl rfl fun a hF => ?_
    obtain ⟨t_2, ht_2, hj1⟩ := bindS hj1
    refine q_call (vs := [(.int .i64 p_f.Den), (.int .i64 1), (.int .i64 1000000000)]) hF hS Try.func104 (by kernel_rfl) rfl rfl rfl (c_spec_l1In p_f.Den 1 1000000000 t_2 ht_2 _ m hS.vis) ?_
    rintro a w _ rfl hF hS
    refine q_x (v := (.bool t_2)) hF hS (ex_move rfl) rfl rfl fun a hF => ?_
    rcases bcase (t_2) with hc2 | hc2
    · have hj1 := cond_f hc2 hj1
      refine q_skip hF (wanted_f hF rfl rfl rfl hc2 rfl) rfl fun a hF => ?_
      refine q_skip hF (wanted_f hF rfl rfl rfl hc2 rfl) rfl fun a hF => ?_
      refine q_skip hF (wanted_f hF rfl rfl rfl hc2 rfl) rfl fun a hF => ?_
      refine q_x (v := (.bool false)) hF hS (ex_pick_f rfl rfl hc2) rfl rfl fun a hF => ?_
      refine q_x (v := (.bool false)) hF hS (ex_move rfl) rfl rfl fun a hF => ?_
      refine q_skip hF (wanted_f hF rfl rfl rfl rfl rfl) rfl fun a hF => ?_
      refine q_skip hF (wanted_f hF rfl rfl rfl rfl rfl) rfl fun a hF => ?_
      refine q_skip hF (wanted_f hF rfl rfl rfl rfl rfl) rfl fun a hF => ?_
      refine q_skip hF (wanted_f hF rfl rfl rfl rfl rfl) rfl fun a hF => ?_
      refine q_skip hF (wanted_f hF rfl rfl rfl rfl rfl) rfl fun a hF => ?_
      refine q_skip hF (wanted_f hF rfl rfl rfl rfl rfl) rfl fun a hF => ?_
      refine q_x (v := (.bool false)) hF hS (ex_pick_f rfl rfl rfl) rfl rfl fun a hF => ?_
      refine q_x (v := (.bool false)) hF hS (ex_assign rfl) rfl rfl fun a hF => ?_
      refine q_end (n_jn ?_)
      obtain rfl := someI hj1
      exact ⟨hF.sub ⟨rfl, trivial⟩, hS.mask [false]⟩
    · have hj1 := cond_t hc2 hj1
      refine q_xg (v := (.pointer (some ⟨b1, 0, none⟩))) hF hS (ex_fieldAddr Try.underlying24 rfl sz3 rfl rfl) (wanted_t hF rfl rfl rfl hc2) rfl fun a hF => ?_
      refine q_xg (v := (.int .i64 p_f.Num)) hF hS (ex_load1 0 0 Try.underlying3 rfl rfl rfl rfl) (wanted_t hF rfl rfl rfl hc2) rfl fun a hF => ?_
      obtain ⟨t_3, ht_3, hj1⟩ := bindS hj1
      refine q_callg (vs := [(.int .i64 p_f.Num), (.int .i64 (-1000000000)), (.int .i64 1000000000)]) hF hS (wanted_t hF rfl rfl rfl hc2) Try.func104 (by kernel_rfl) rfl rfl rfl (c_spec_l1In p_f.Num (-1000000000) 1000000000 t_3 ht_3 _ m hS.vis) ?_
      rintro a w _ rfl hF hS
      refine q_x (v := (.bool t_3)) hF hS (ex_pick_t rfl rfl hc2) rfl rfl fun a hF => ?_
      refine q_x (v := (.bool t_3)) hF hS (ex_move rfl) rfl rfl fun a hF => ?_
      rcases bcase (t_3) with hc3 | hc3
      · have hj1 := cond_f hc3 hj1
        refine q_skip hF (wanted_f hF rfl rfl rfl hc3 rfl) rfl fun a hF => ?_
        refine q_skip hF (wanted_f hF rfl rfl rfl hc3 rfl) rfl fun a hF => ?_
        refine q_skip hF (wanted_f hF rfl rfl rfl hc3 rfl) rfl fun a hF => ?_
        refine q_skip hF (wanted_f hF rfl rfl rfl hc3 rfl) rfl fun a hF => ?_
        refine q_skip hF (wanted_f hF rfl rfl rfl hc3 rfl) rfl fun a hF => ?_
        refine q_skip hF (wanted_f hF rfl rfl rfl hc3 rfl) rfl fun a hF => ?_
        refine q_x (v := (.bool false)) hF hS (ex_pick_f rfl rfl hc3) rfl rfl fun a hF => ?_
        refine q_x (v := (.bool false)) hF hS (ex_assign rfl) rfl rfl fun a hF => ?_
        refine q_end (n_jn ?_)
        obtain rfl := someI hj1
        exact ⟨hF.sub ⟨rfl, trivial⟩, hS.mask [false]⟩
      · have hj1 := cond_t hc3 hj1
        refine q_xg (v := (.pointer (some ⟨b1, 0, none⟩))) hF hS (ex_fieldAddr Try.underlying24 rfl sz3 rfl rfl) (wanted_t hF rfl rfl rfl hc3) rfl fun a hF => ?_
        refine q_xg (v := (.int .i64 p_f.Num)) hF hS (ex_load1 0 0 Try.underlying3 rfl rfl rfl rfl) (wanted_t hF rfl rfl rfl hc3) rfl fun a hF => ?_
        refine q_xg (v := (.pointer (some ⟨b1, 1, none⟩))) hF hS (ex_fieldAddr Try.underlying24 rfl sz3 rfl rfl) (wanted_t hF rfl rfl rfl hc3) rfl fun a hF => ?_
        refine q_xg (v := (.int .i64 p_f.Den)) hF hS (ex_load1 0 0 Try.underlying3 rfl rfl rfl rfl) (wanted_t hF rfl rfl rfl hc3) rfl fun a hF => ?_
        obtain ⟨t_4, ht_4, hj1⟩ := bindS hj1
        refine q_callg (vs := [(.int .i64 p_f.Num), (.int .i64 p_f.Den)]) hF hS (wanted_t hF rfl rfl rfl hc3) Try.func163 (by kernel_rfl) rfl rfl rfl (c_spec_fGcd p_f.Num p_f.Den t_4 ht_4 _ m hS.vis) ?_
        rintro a w _ rfl hF hS
        refine q_xg (v := (.bool (t_4 == 1))) hF hS (ex_ibin rfl rfl rfl) (wanted_t hF rfl rfl rfl hc3) rfl fun a hF => ?_
        refine q_x (v := (.bool (t_4 == 1))) hF hS (ex_pick_t rfl rfl hc3) rfl rfl fun a hF => ?_
        refine q_x (v := (.bool (t_4 == 1))) hF hS (ex_assign rfl) rfl rfl fun a hF => ?_
        refine q_end (n_jn ?_)
        obtain rfl := someI hj1
        exact ⟨hF.sub ⟨rfl, trivial⟩, hS.mask [false]⟩
  · rintro a w ⟨hF, hS⟩
    refine n_sq (q_ret ?_)
    obtain rfl := someI hr
    exact ret_of hF hS rfl (.tmp rfl .nil) rfl

theorem c_spec_fMake (p_n : Int) (p_d : Int) (r : impl_Frac × Bool) (hr : spec_fMake p_n p_d = some r) (w0 : World) (m : Mem) (hv : Vis m w0) :
    Ret Try.prog 117 [(.int .i64 p_n), (.int .i64 p_d)] w0 (fun v _ => v = (.tuple #[(.agg #[(.int .i64 r.1.Num), (.int .i64 r.1.Den)]), (.bool r.2)])) := by
  unfold spec_fMake at hr
  refine ret_start Try.func117 rfl 30 rfl rfl m hv fun a hF hS => ?_
  refine q_seq ?_
  refine q_region ?_
  refine q_alloc (cs := [(.int .i64 0), (.int .i64 0)]) hF hS rfl rfl rfl fun a w b1 hF hS => ?_
  refine q_x (v := (.bool false)) hF hS (ex_assign rfl) rfl rfl fun a hF => ?_
  refine q_end (n_sq ?_)
  refine q_seq ?_
  refine q_seq ?_
  refine q_region ?_
  refine q_x (v := (.int .i64 p_d)) hF hS (ex_move rfl) rfl rfl fun a hF => ?_
  refine q_x (v := (.bool (p_d == 0))) hF hS (ex_ibin rfl rfl rfl) rfl rfl fun a hF => ?_
  refine q_end (n_sq ?_)
  rcases bcase (p_d == 0) with hc1 | hc1
  · have hr := cond_f hc1 hr
    refine q_cond_f hF rfl hc1 ?_
    refine q_skipc (n_sq ?_)
    refine q_seq ?_
    refine q_region ?_
    refine q_x (v := (.int .i64 p_n)) hF hS (ex_move rfl) rfl rfl fun a hF => ?_
    refine q_x (v := (.int .i64 p_d)) hF hS (ex_move rfl) rfl rfl fun a hF => ?_
    obtain ⟨t_2, ht_2, hr⟩ := bindS hr
    refine q_call (vs := [(.int .i64 p_n), (.int .i64 p_d)]) hF hS Try.func163 (by kernel_rfl) rfl rfl rfl (c_spec_fGcd p_n p_d t_2 ht_2 _ m hS.vis) ?_
    rintro a w _ rfl hF hS
    refine q_x (v := (.int .i64 t_2)) hF hS (ex_assign rfl) rfl rfl fun a hF => ?_
    refine q_end (n_sq ?_)
    refine q_seq ?_
    refine q_seq ?_
    refine q_region ?_
    refine q_x (v := (.int .i64 p_d)) hF hS (ex_move rfl) rfl rfl fun a hF => ?_
    refine q_x (v := (.bool (decide (p_d < 0)))) hF hS (ex_ibin rfl rfl rfl) rfl rfl fun a hF => ?_
    refine q_end (n_sq ?_)
    obtain ⟨g_3, hj2, hr⟩ := bindS hr
    refine q_join (fun a w => Fr a 30 [(0, (.int .i64 p_n)), (1, (.int .i64 p_d)), (4, (.pointer (some ⟨b1, 0, none⟩))), (6, (.int .i64 g_3))] ∧ St [] w0 w m [[⟨b1, [(.int .i64 0), (.int .i64 0)], 24⟩]]) ?_ ?_
    · rcases bcase (decide (p_d < 0)) with hc3 | hc3
      · have hj2 := cond_f hc3 hj2
        refine q_cond_f hF rfl hc3 ?_
        refine q_skipc (n_jn ?_)
        obtain rfl := someI hj2
        exact ⟨hF.sub ⟨rfl, rfl, rfl, rfl, trivial⟩, hS⟩
      · have hj2 := cond_t hc3 hj2
        refine q_cond_t hF rfl hc3 ?_
        refine q_region ?_
        refine q_x (v := (.int .i64 t_2)) hF hS (ex_move rfl) rfl rfl fun a hF => ?_
        refine q_x (v := (.int .i64 (w64 (-t_2)))) hF hS (ex_neg rfl) rfl rfl fun a hF => ?_
        refine q_x (v := (.int .i64 (w64 (-t_2)))) hF hS (ex_assign rfl) rfl rfl fun a hF => ?_
        refine q_end (n_jn ?_)
        obtain rfl := someI hj2
        exact ⟨hF.sub ⟨rfl, rfl, rfl, rfl, trivial⟩, hS⟩
    · rintro a w ⟨hF, hS⟩
      refine n_sq ?_
      refine q_seq ?_
      refine e_region [8] mixed fun w' hw' => ?_
      have hS := hS.below hw'
      refine e_p (v := (.int .i64 p_n)) 0 hF rfl (ex_move rfl) rfl rfl (by kernel_rfl) (by kernel_rfl) (by kernel_rfl) fun a hF => ?_
      refine e_p (v := (.int .i64 g_3)) 1 hF rfl (ex_move rfl) rfl rfl (by kernel_rfl) (by kernel_rfl) (by kernel_rfl) fun a hF => ?_
      obtain ⟨t_4, ht_4, hr⟩ := bindS hr
      refine e_p (v := (.int .i64 t_4)) 2 hF rfl (ex_quo rfl rfl ht_4) rfl rfl (by kernel_rfl) (by kernel_rfl) (by kernel_rfl) fun a hF => ?_
      refine e_p (v := (.int .i64 p_d)) 3 hF rfl (ex_move rfl) rfl rfl (by kernel_rfl) (by kernel_rfl) (by kernel_rfl) fun a hF => ?_
      refine e_p (v := (.int .i64 g_3)) 4 hF rfl (ex_move rfl) rfl rfl (by kernel_rfl) (by kernel_rfl) (by kernel_rfl) fun a hF => ?_
      obtain ⟨t_5, ht_5, hr⟩ := bindS hr
      refine e_p (v := (.int .i64 t_5)) 5 hF rfl (ex_quo rfl rfl ht_5) rfl rfl (by kernel_rfl) (by kernel_rfl) (by kernel_rfl) fun a hF => ?_
      refine e_p (v := (.agg #[(.int .i64 t_4), (.int .i64 t_5)])) 6 hF rfl (ex_build (cells := [(.int .i64 t_4), (.int .i64 t_5)]) rfl (by kernel_rfl)) rfl rfl (by kernel_rfl) (by kernel_rfl) (by kernel_rfl) fun a hF => ?_
      refine e_one 7 (by kernel_rfl) ?_
      refine e_alloc (cs := [(.int .i64 0), (.int .i64 0)]) hF hS rfl rfl rfl rfl fun a w b6 hF hS => ?_
      refine e_one 8 (by kernel_rfl) ?_
      refine e_store (vs := [(.int .i64 t_4), (.int .i64 t_5)]) (cs' := [(.int .i64 t_4), (.int .i64 t_5)]) 0 0 hF hS rfl rfl sz24 rfl rfl rfl rfl rfl rfl rfl rfl fun a w hF hS => ?_
      refine e_end (by kernel_rfl) (n_sq ?_) _
      refine q_seq ?_
      refine q_seq ?_
      refine q_region ?_
      refine q_x (v := (.agg #[(.int .i64 t_4), (.int .i64 t_5)])) hF hS (ex_loadA (vs := [(.int .i64 t_4), (.int .i64 t_5)]) 0 0 Try.underlying24 rfl sz24 rfl rfl rfl rfl) rfl rfl fun a hF => ?_
      obtain ⟨t_7, ht_7, hr⟩ := bindS hr
      refine q_call (vs := [(.agg #[(.int .i64 t_4), (.int .i64 t_5)])]) hF hS Try.func115 (by kernel_rfl) rfl rfl rfl (c_spec_fGood (impl_Frac.mk t_4 t_5) t_7 ht_7 _ m hS.vis) ?_
      rintro a w _ rfl hF hS
      refine q_x (v := (.bool (!t_7))) hF hS (ex_not rfl) rfl rfl fun a hF => ?_
      refine q_end (n_sq ?_)
      rcases bcase (!t_7) with hc4 | hc4
      · have hr := cond_f hc4 hr
        refine q_cond_f hF rfl hc4 ?_
        refine q_skipc (n_sq ?_)
        refine q_seq ?_
        refine q_region ?_
        refine q_x (v := (.agg #[(.int .i64 t_4), (.int .i64 t_5)])) hF hS (ex_loadA (vs := [(.int .i64 t_4), (.int .i64 t_5)]) 0 0 Try.underlying24 rfl sz24 rfl rfl rfl rfl) rfl rfl fun a hF => ?_
        refine q_store (vs := [(.int .i64 t_4), (.int .i64 t_5)]) (cs' := [(.int .i64 t_4), (.int .i64 t_5)]) 1 0 hF hS sz24 rfl rfl rfl rfl rfl rfl rfl rfl fun a w hF hS => ?_
        refine q_x (v := (.bool true)) hF hS (ex_assign rfl) rfl rfl fun a hF => ?_
        refine q_end (n_sq (q_ret ?_))
        obtain rfl := someI hr
        exact ret_of hF hS rfl (.cellA (us := [(.int .i64 t_4), (.int .i64 t_5)]) 1 0 Try.underlying24 rfl sz24 rfl rfl rfl rfl (.tmp rfl .nil)) rfl
      · have hr := cond_t hc4 hr
        refine q_cond_t hF rfl hc4 ?_
        refine q_seq ?_
        refine q_region ?_
        refine q_x (v := (.agg #[(.int .i64 0), (.int .i64 0)])) hF hS (ex_build (cells := [(.int .i64 0), (.int .i64 0)]) rfl (by kernel_rfl)) rfl rfl fun a hF => ?_
        refine q_store (vs := [(.int .i64 0), (.int .i64 0)]) (cs' := [(.int .i64 0), (.int .i64 0)]) 1 0 hF hS sz24 rfl rfl rfl rfl rfl rfl rfl rfl fun a w hF hS => ?_
        refine q_x (v := (.bool false)) hF hS (ex_assign rfl) rfl rfl fun a hF => ?_
        refine q_end (n_sq (q_ret (r_sq ?_)))
        obtain rfl := someI hr
        exact ret_of hF hS rfl (.cellA (us := [(.int .i64 0), (.int .i64 0)]) 1 0 Try.underlying24 rfl sz24 rfl rfl rfl rfl (.tmp rfl .nil)) rfl
  · have hr := cond_t hc1 hr
    refine q_cond_t hF rfl hc1 ?_
    refine q_seq ?_
    refine q_region ?_
    refine q_x (v := (.agg #[(.int .i64 0), (.int .i64 0)])) hF hS (ex_build (cells := [(.int .i64 0), (.int .i64 0)]) rfl (by kernel_rfl)) rfl rfl fun a hF => ?_
    refine q_store (vs := [(.int .i64 0), (.int .i64 0)]) (cs' := [(.int .i64 0), (.int .i64 0)]) 0 0 hF hS sz24 rfl rfl rfl rfl rfl rfl rfl rfl fun a w hF hS => ?_
    refine q_x (v := (.bool false)) hF hS (ex_assign rfl) rfl rfl fun a hF => ?_
    refine q_end (n_sq (q_ret (r_sq ?_)))
    obtain rfl := someI hr
    exact ret_of hF hS rfl (.cellA (us := [(.int .i64 0), (.int .i64 0)]) 0 0 Try.underlying24 rfl sz24 rfl rfl rfl rfl (.tmp rfl .nil)) rfl

theorem c_spec_l1Cur_frac (p_c : spec_l1Cur) (r : impl_Frac × spec_l1Cur) (hr : spec_l1Cur_frac p_c = some r) (w0 : World) (m : Mem) (b_p_c : Nat) (s1 : Sl) (h1 : Rd m s1 p_c.code) (X : List Nat) (hS : St X w0 w0 m [[⟨b_p_c, [s1.v, (.int .i64 p_c.at_), (.int .u64 p_c.seed.v)], 103⟩]]) :
    RetX Try.prog 162 [(.pointer (some ⟨b_p_c, 0, none⟩))] w0 (fun v w => ∃ (m' : Mem) (s0' : Sl), v = (.agg #[(.int .i64 r.1.Num), (.int .i64 r.1.Den)]) ∧ MLe X w0.heap.size m m' ∧ St X w0 w m' [[⟨b_p_c, [s0'.v, (.int .i64 r.2.at_), (.int .u64 r.2.seed.v)], 103⟩]] ∧ Rd m' s0' r.2.code) := by
  unfold spec_l1Cur_frac at hr
  refine ret_startX Try.func162 rfl 16 rfl rfl fun a hF => ?_
  refine q_seq ?_
  refine q_region ?_
  refine q_alloc (cs := [(.int .i64 0), (.int .i64 0)]) hF hS rfl rfl rfl fun a w b2 hF hS => ?_
  refine q_end (n_sq ?_)
  refine q_seq ?_
  refine q_region ?_
  refine q_x (v := (.pointer (some ⟨b_p_c, 0, none⟩))) hF hS (ex_move rfl) rfl rfl fun a hF => ?_
  have hS : St _ _ _ _ [[⟨b_p_c, [s1.v, (.int .i64 p_c.at_), (.int .u64 p_c.seed.v)], 103⟩], [⟨b2, [(.int .i64 0), (.int .i64 0)], 24⟩]] := hS.sel [1, 0] (by decide)
  have hS3 : St _ _ _ _ ([[⟨b_p_c, [s1.v, (.int .i64 p_c.at_), (.int .u64 p_c.seed.v)], 103⟩]] ++ [[⟨b2, [(.int .i64 0), (.int .i64 0)], 24⟩]]) := hS
  have hE3 := hS3.enter
  obtain ⟨t_4, ht_4, hr⟩ := bindS hr
  refine q_do rfl fun _ hK => wp_callX (vs := [(.pointer (some ⟨b_p_c, 0, none⟩)), (.int .i64 41)]) hF Try.func99 (by kernel_rfl) rfl rfl rfl (c_spec_l1Cur_pick p_c 41 t_4 ht_4 _ m b_p_c s1 h1 _ hE3) fun a w _ hR hF => hK _ _ ?_
  obtain ⟨m3', s5, rfl, hm3, hR3, h5⟩ := hR
  have hS : St _ _ _ _ [[⟨b_p_c, [s5.v, (.int .i64 t_4.2.at_), (.int .u64 t_4.2.seed.v)], 103⟩], [⟨b2, [(.int .i64 0), (.int .i64 0)], 24⟩]] := hS3.leave hR3 hm3
  have hm3 := MLe.weakX hS3 hm3
  refine q_x (v := (.int .i64 (w64 (t_4.1 - 20)))) hF hS (ex_ibin rfl rfl rfl) rfl rfl fun a hF => ?_
  refine q_x (v := (.pointer (some ⟨b_p_c, 0, none⟩))) hF hS (ex_move rfl) rfl rfl fun a hF => ?_
  have hS6 : St _ _ _ _ ([[⟨b_p_c, [s5.v, (.int .i64 t_4.2.at_), (.int .u64 t_4.2.seed.v)], 103⟩]] ++ [[⟨b2, [(.int .i64 0), (.int .i64 0)], 24⟩]]) := hS
  have hE6 := hS6.enter
  obtain ⟨t_7, ht_7, hr⟩ := bindS hr
  refine q_do rfl fun _ hK => wp_callX (vs := [(.pointer (some ⟨b_p_c, 0, none⟩)), (.int .i64 12)]) hF Try.func99 (by kernel_rfl) rfl rfl rfl (c_spec_l1Cur_pick t_4.2 12 t_7 ht_7 _ m3' b_p_c s5 h5 _ hE6) fun a w _ hR hF => hK _ _ ?_
  obtain ⟨m6', s8, rfl, hm6, hR6, h8⟩ := hR
  have hS : St _ _ _ _ [[⟨b_p_c, [s8.v, (.int .i64 t_7.2.at_), (.int .u64 t_7.2.seed.v)], 103⟩], [⟨b2, [(.int .i64 0), (.int .i64 0)], 24⟩]] := hS6.leave hR6 hm6
  have hm6 := MLe.weakX hS6 hm6
  refine q_x (v := (.int .i64 (w64 (1 + t_7.1)))) hF hS (ex_ibin rfl rfl rfl) rfl rfl fun a hF => ?_
  obtain ⟨t_9, ht_9, hr⟩ := bindS hr
  refine q_call (vs := [(.int .i64 (w64 (t_4.1 - 20))), (.int .i64 (w64 (1 + t_7.1)))]) hF hS Try.func117 (by kernel_rfl) rfl rfl rfl (c_spec_fMake (w64 (t_4.1 - 20)) (w64 (1 + t_7.1)) t_9 ht_9 _ m6' hS.vis) ?_
  rintro a w _ rfl hF hS
  refine q_x (v := (.tuple #[(.agg #[(.int .i64 t_9.1.Num), (.int .i64 t_9.1.Den)]), (.bool t_9.2)])) hF hS (ex_move rfl) rfl rfl fun a hF => ?_
  refine q_x (v := (.agg #[(.int .i64 t_9.1.Num), (.int .i64 t_9.1.Den)])) hF hS (ex_extract rfl rfl) rfl rfl fun a hF => ?_
  refine q_x (v := (.bool t_9.2)) hF hS (ex_extract rfl rfl) rfl rfl fun a hF => ?_
  refine q_alloc (cs := [(.int .i64 0), (.int .i64 0)]) hF hS rfl rfl rfl fun a w b10 hF hS => ?_
  refine q_store (vs := [(.int .i64 t_9.1.Num), (.int .i64 t_9.1.Den)]) (cs' := [(.int .i64 t_9.1.Num), (.int .i64 t_9.1.Den)]) 0 0 hF hS sz24 rfl rfl rfl rfl rfl rfl rfl rfl fun a w hF hS => ?_
  refine q_x (v := (.bool t_9.2)) hF hS (ex_assign rfl) rfl rfl fun a hF => ?_
  refine q_end (n_sq ?_)
  refine q_seq ?_
  refine q_region ?_
  refine q_x (v := (.agg #[(.int .i64 t_9.1.Num), (.int .i64 t_9.1.Den)])) hF hS (ex_loadA (vs := [(.int .i64 t_9.1.Num), (.int .i64 t_9.1.Den)]) 0 0 Try.underlying24 rfl sz24 rfl rfl rfl rfl) rfl rfl fun a hF => ?_
  refine q_store (vs := [(.int .i64 t_9.1.Num), (.int .i64 t_9.1.Den)]) (cs' := [(.int .i64 t_9.1.Num), (.int .i64 t_9.1.Den)]) 2 0 hF hS sz24 rfl rfl rfl rfl rfl rfl rfl rfl fun a w hF hS => ?_
  refine q_end (n_sq (q_ret ?_))
  obtain rfl := someI hr
  exact ret_ofX hF hS rfl (.cellA (us := [(.int .i64 t_9.1.Num), (.int .i64 t_9.1.Den)]) 2 0 Try.underlying24 rfl sz24 rfl rfl rfl rfl .nil) ⟨m6', s8, rfl, (hm3.trans hm6), hS.sel [1] (by decide), h8⟩

theorem c_spec_l1Cur_anyFrac (p_c : spec_l1Cur) (r : impl_Frac × spec_l1Cur) (hr : spec_l1Cur_anyFrac p_c = some r) (w0 : World) (m : Mem) (b_p_c : Nat) (s1 : Sl) (h1 : Rd m s1 p_c.code) (X : List Nat) (hS : St X w0 w0 m [[⟨b_p_c, [s1.v, (.int .i64 p_c.at_), (.int .u64 p_c.seed.v)], 103⟩]]) :
    RetX Try.prog 112 [(.pointer (some ⟨b_p_c, 0, none⟩))] w0 (fun v w => ∃ (m' : Mem) (s0' : Sl), v = (.agg #[(.int .i64 r.1.Num), (.int .i64 r.1.Den)]) ∧ MLe X w0.heap.size m m' ∧ St X w0 w m' [[⟨b_p_c, [s0'.v, (.int .i64 r.2.at_), (.int .u64 r.2.seed.v)], 103⟩]] ∧ Rd m' s0' r.2.code) := by
  unfold spec_l1Cur_anyFrac at hr
  refine ret_startX Try.func112 rfl 33 rfl rfl fun a hF => ?_
  refine q_seq ?_
  refine q_region ?_
  refine q_alloc (cs := [(.int .i64 0), (.int .i64 0)]) hF hS rfl rfl rfl fun a w b2 hF hS => ?_
  refine q_end (n_sq ?_)
  refine q_seq ?_
  refine q_seq ?_
  refine q_region ?_
  refine q_x (v := (.pointer (some ⟨b_p_c, 0, none⟩))) hF hS (ex_move rfl) rfl rfl fun a hF => ?_
  have hS : St _ _ _ _ [[⟨b_p_c, [s1.v, (.int .i64 p_c.at_), (.int .u64 p_c.seed.v)], 103⟩], [⟨b2, [(.int .i64 0), (.int .i64 0)], 24⟩]] := hS.sel [1, 0] (by decide)
  have hS3 : St _ _ _ _ ([[⟨b_p_c, [s1.v, (.int .i64 p_c.at_), (.int .u64 p_c.seed.v)], 103⟩]] ++ [[⟨b2, [(.int .i64 0), (.int .i64 0)], 24⟩]]) := hS
  have hE3 := hS3.enter
  obtain ⟨t_4, ht_4, hr⟩ := bindS hr
  refine q_do rfl fun _ hK => wp_callX (vs := [(.pointer (some ⟨b_p_c, 0, none⟩)), (.int .i64 16)]) hF Try.func99 (by kernel_rfl) rfl rfl rfl (c_spec_l1Cur_pick p_c 16 t_4 ht_4 _ m b_p_c s1 h1 _ hE3) fun a w _ hR hF => hK _ _ ?_
  obtain ⟨m3', s5, rfl, hm3, hR3, h5⟩ := hR
  have hS : St _ _ _ _ [[⟨b_p_c, [s5.v, (.int .i64 t_4.2.at_), (.int .u64 t_4.2.seed.v)], 103⟩], [⟨b2, [(.int .i64 0), (.int .i64 0)], 24⟩]] := hS3.leave hR3 hm3
  have hm3 := MLe.weakX hS3 hm3
  refine q_end (n_sq ?_)
  refine q_block ?_
  refine q_seq ?_
  refine q_region ?_
  refine q_x (v := (.bool (t_4.1 == 0))) hF hS (ex_ibin rfl rfl rfl) rfl rfl fun a hF => ?_
  refine q_x (v := (.bool (t_4.1 == 0))) hF hS (ex_assign rfl) rfl rfl fun a hF => ?_
  refine q_end (n_sq ?_)
  rcases bcase (t_4.1 == 0) with hc1 | hc1
  · have hr := cond_f hc1 hr
    refine q_cond_f hF rfl hc1 ?_
    refine q_seq ?_
    refine q_region ?_
    refine q_x (v := (.bool (t_4.1 == 1))) hF hS (ex_ibin rfl rfl rfl) rfl rfl fun a hF => ?_
    refine q_x (v := (.bool (t_4.1 == 1))) hF hS (ex_assign rfl) rfl rfl fun a hF => ?_
    refine q_end (n_sq ?_)
    rcases bcase (t_4.1 == 1) with hc2 | hc2
    · have hr := cond_f hc2 hr
      refine q_cond_f hF rfl hc2 ?_
      refine q_seq ?_
      refine q_region ?_
      refine q_x (v := (.bool (t_4.1 == 2))) hF hS (ex_ibin rfl rfl rfl) rfl rfl fun a hF => ?_
      refine q_x (v := (.bool (t_4.1 == 2))) hF hS (ex_assign rfl) rfl rfl fun a hF => ?_
      refine q_end (n_sq ?_)
      rcases bcase (t_4.1 == 2) with hc3 | hc3
      · have hr := cond_f hc3 hr
        refine q_cond_f hF rfl hc3 ?_
        refine q_skipc (n_ib (n_sq ?_))
        refine q_seq ?_
        refine q_region ?_
        refine q_x (v := (.pointer (some ⟨b_p_c, 0, none⟩))) hF hS (ex_move rfl) rfl rfl fun a hF => ?_
        have hS6 : St _ _ _ _ ([[⟨b_p_c, [s5.v, (.int .i64 t_4.2.at_), (.int .u64 t_4.2.seed.v)], 103⟩]] ++ [[⟨b2, [(.int .i64 0), (.int .i64 0)], 24⟩]]) := hS
        have hE6 := hS6.enter
        obtain ⟨t_7, ht_7, hr⟩ := bindS hr
        refine q_do rfl fun _ hK => wp_callX (vs := [(.pointer (some ⟨b_p_c, 0, none⟩))]) hF Try.func162 (by kernel_rfl) rfl rfl rfl (c_spec_l1Cur_frac t_4.2 t_7 ht_7 _ m3' b_p_c s5 h5 _ hE6) fun a w _ hR hF => hK _ _ ?_
        obtain ⟨m6', s8, rfl, hm6, hR6, h8⟩ := hR
        have hS : St _ _ _ _ [[⟨b_p_c, [s8.v, (.int .i64 t_7.2.at_), (.int .u64 t_7.2.seed.v)], 103⟩], [⟨b2, [(.int .i64 0), (.int .i64 0)], 24⟩]] := hS6.leave hR6 hm6
        have hm6 := MLe.weakX hS6 hm6
        refine q_store (vs := [(.int .i64 t_7.1.Num), (.int .i64 t_7.1.Den)]) (cs' := [(.int .i64 t_7.1.Num), (.int .i64 t_7.1.Den)]) 1 0 hF hS sz24 rfl rfl rfl rfl rfl rfl rfl rfl fun a w hF hS => ?_
        refine q_end (n_sq (q_ret ?_))
        obtain rfl := someI hr
        exact ret_ofX hF hS rfl (.cellA (us := [(.int .i64 t_7.1.Num), (.int .i64 t_7.1.Den)]) 1 0 Try.underlying24 rfl sz24 rfl rfl rfl rfl .nil) ⟨m6', s8, rfl, (hm3.trans hm6), hS.sel [0] (by decide), h8⟩
      · have hr := cond_t hc3 hr
        refine q_cond_t hF rfl hc3 ?_
        refine q_seq ?_
        refine q_region ?_
        refine q_x (v := (.pointer (some ⟨b_p_c, 0, none⟩))) hF hS (ex_move rfl) rfl rfl fun a hF => ?_
        have hS9 : St _ _ _ _ ([[⟨b_p_c, [s5.v, (.int .i64 t_4.2.at_), (.int .u64 t_4.2.seed.v)], 103⟩]] ++ [[⟨b2, [(.int .i64 0), (.int .i64 0)], 24⟩]]) := hS
        have hE9 := hS9.enter
        obtain ⟨t_10, ht_10, hr⟩ := bindS hr
        refine q_do rfl fun _ hK => wp_callX (vs := [(.pointer (some ⟨b_p_c, 0, none⟩)), (.int .i64 3)]) hF Try.func99 (by kernel_rfl) rfl rfl rfl (c_spec_l1Cur_pick t_4.2 3 t_10 ht_10 _ m3' b_p_c s5 h5 _ hE9) fun a w _ hR hF => hK _ _ ?_
        obtain ⟨m9', s11, rfl, hm9, hR9, h11⟩ := hR
        have hS : St _ _ _ _ [[⟨b_p_c, [s11.v, (.int .i64 t_10.2.at_), (.int .u64 t_10.2.seed.v)], 103⟩], [⟨b2, [(.int .i64 0), (.int .i64 0)], 24⟩]] := hS9.leave hR9 hm9
        have hm9 := MLe.weakX hS9 hm9
        refine q_x (v := (.pointer (some ⟨b_p_c, 0, none⟩))) hF hS (ex_move rfl) rfl rfl fun a hF => ?_
        refine q_do rfl fun _ hK => wp_buildSlice' (l := ([1000000000, 1000000001, 999999937] : List Int)) (cells := [(.int .i64 1000000000), (.int .i64 1000000001), (.int .i64 999999937)]) hF hS Try.underlying42 inf3 rfl rfl (by kernel_rfl) rfl rfl rfl ⟨rfl, rfl, rfl, rfl⟩ rfl rfl fun a w q12 s12 hF hS h12 _ => hK _ _ ?_
        obtain ⟨m13, hm13, hS, hz13⟩ := hS.freeze
        have h13 := h12.froz hm13.le hz13
        have hS14 : St _ _ _ _ ([[⟨b_p_c, [s11.v, (.int .i64 t_10.2.at_), (.int .u64 t_10.2.seed.v)], 103⟩]] ++ [[⟨b2, [(.int .i64 0), (.int .i64 0)], 24⟩]]) := hS
        have hE14 := hS14.enter
        obtain ⟨t_15, ht_15, hr⟩ := bindS hr
        refine q_do rfl fun _ hK => wp_callX (vs := [(.pointer (some ⟨b_p_c, 0, none⟩)), s12.v]) hF Try.func100 (by kernel_rfl) rfl rfl rfl (c_spec_l1Cur_among t_10.2 ([1000000000, 1000000001, 999999937] : List Int) t_15 ht_15 _ m13 b_p_c s11 (h11.mono hm13.le) s12 h13 _ hE14) fun a w _ hR hF => hK _ _ ?_
        obtain ⟨m14', s16, rfl, hm14, hR14, h16⟩ := hR
        have hS : St _ _ _ _ [[⟨b_p_c, [s16.v, (.int .i64 t_15.2.at_), (.int .u64 t_15.2.seed.v)], 103⟩], [⟨b2, [(.int .i64 0), (.int .i64 0)], 24⟩]] := hS14.leave hR14 hm14
        have hm14 := MLe.weakX hS14 hm14
        refine q_x (v := (.agg #[(.int .i64 t_10.1), (.int .i64 t_15.1)])) hF hS (ex_build (cells := [(.int .i64 t_10.1), (.int .i64 t_15.1)]) rfl (by kernel_rfl)) rfl rfl fun a hF => ?_
        refine q_store (vs := [(.int .i64 t_10.1), (.int .i64 t_15.1)]) (cs' := [(.int .i64 t_10.1), (.int .i64 t_15.1)]) 1 0 hF hS sz24 rfl rfl rfl rfl rfl rfl rfl rfl fun a w hF hS => ?_
        refine q_end (n_sq (q_ret (r_ib (r_sq ?_))))
        obtain rfl := someI hr
        exact ret_ofX hF hS rfl (.cellA (us := [(.int .i64 t_10.1), (.int .i64 t_15.1)]) 1 0 Try.underlying24 rfl sz24 rfl rfl rfl rfl .nil) ⟨m14', s16, rfl, (((hm3.trans hm9).trans hm13).trans hm14), hS.sel [0] (by decide), h16⟩
    · have hr := cond_t hc2 hr
      refine q_cond_t hF rfl hc2 ?_
      refine q_seq ?_
      refine q_region ?_
      refine q_x (v := (.pointer (some ⟨b_p_c, 0, none⟩))) hF hS (ex_move rfl) rfl rfl fun a hF => ?_
      have hS17 : St _ _ _ _ ([[⟨b_p_c, [s5.v, (.int .i64 t_4.2.at_), (.int .u64 t_4.2.seed.v)], 103⟩]] ++ [[⟨b2, [(.int .i64 0), (.int .i64 0)], 24⟩]]) := hS
      have hE17 := hS17.enter
      obtain ⟨t_18, ht_18, hr⟩ := bindS hr
      refine q_do rfl fun _ hK => wp_callX (vs := [(.pointer (some ⟨b_p_c, 0, none⟩)), (.int .i64 9)]) hF Try.func99 (by kernel_rfl) rfl rfl rfl (c_spec_l1Cur_pick t_4.2 9 t_18 ht_18 _ m3' b_p_c s5 h5 _ hE17) fun a w _ hR hF => hK _ _ ?_
      obtain ⟨m17', s19, rfl, hm17, hR17, h19⟩ := hR
      have hS : St _ _ _ _ [[⟨b_p_c, [s19.v, (.int .i64 t_18.2.at_), (.int .u64 t_18.2.seed.v)], 103⟩], [⟨b2, [(.int .i64 0), (.int .i64 0)], 24⟩]] := hS17.leave hR17 hm17
      have hm17 := MLe.weakX hS17 hm17
      refine q_x (v := (.int .i64 (w64 (t_18.1 - 4)))) hF hS (ex_ibin rfl rfl rfl) rfl rfl fun a hF => ?_
      refine q_x (v := (.pointer (some ⟨b_p_c, 0, none⟩))) hF hS (ex_move rfl) rfl rfl fun a hF => ?_
      have hS20 : St _ _ _ _ ([[⟨b_p_c, [s19.v, (.int .i64 t_18.2.at_), (.int .u64 t_18.2.seed.v)], 103⟩]] ++ [[⟨b2, [(.int .i64 0), (.int .i64 0)], 24⟩]]) := hS
      have hE20 := hS20.enter
      obtain ⟨t_21, ht_21, hr⟩ := bindS hr
      refine q_do rfl fun _ hK => wp_callX (vs := [(.pointer (some ⟨b_p_c, 0, none⟩)), (.int .i64 7)]) hF Try.func99 (by kernel_rfl) rfl rfl rfl (c_spec_l1Cur_pick t_18.2 7 t_21 ht_21 _ m17' b_p_c s19 h19 _ hE20) fun a w _ hR hF => hK _ _ ?_
      obtain ⟨m20', s22, rfl, hm20, hR20, h22⟩ := hR
      have hS : St _ _ _ _ [[⟨b_p_c, [s22.v, (.int .i64 t_21.2.at_), (.int .u64 t_21.2.seed.v)], 103⟩], [⟨b2, [(.int .i64 0), (.int .i64 0)], 24⟩]] := hS20.leave hR20 hm20
      have hm20 := MLe.weakX hS20 hm20
      refine q_x (v := (.int .i64 (w64 (t_21.1 - 1)))) hF hS (ex_ibin rfl rfl rfl) rfl rfl fun a hF => ?_
      refine q_x (v := (.agg #[(.int .i64 (w64 (t_18.1 - 4))), (.int .i64 (w64 (t_21.1 - 1)))])) hF hS (ex_build (cells := [(.int .i64 (w64 (t_18.1 - 4))), (.int .i64 (w64 (t_21.1 - 1)))]) rfl (by kernel_rfl)) rfl rfl fun a hF => ?_
      refine q_store (vs := [(.int .i64 (w64 (t_18.1 - 4))), (.int .i64 (w64 (t_21.1 - 1)))]) (cs' := [(.int .i64 (w64 (t_18.1 - 4))), (.int .i64 (w64 (t_21.1 - 1)))]) 1 0 hF hS sz24 rfl rfl rfl rfl rfl rfl rfl rfl fun a w hF hS => ?_
      refine q_end (n_sq (q_ret (r_ib (r_sq ?_))))
      obtain rfl := someI hr
      exact ret_ofX hF hS rfl (.cellA (us := [(.int .i64 (w64 (t_18.1 - 4))), (.int .i64 (w64 (t_21.1 - 1)))]) 1 0 Try.underlying24 rfl sz24 rfl rfl rfl rfl .nil) ⟨m20', s22, rfl, ((hm3.trans hm17).trans hm20), hS.sel [0] (by decide), h22⟩
  · have hr := cond_t hc1 hr
    refine q_cond_t hF rfl hc1 ?_
    refine q_seq ?_
    refine q_region ?_
    refine q_x (v := (.pointer (some ⟨b_p_c, 0, none⟩))) hF hS (ex_move rfl) rfl rfl fun a hF => ?_
    refine q_do rfl fun _ hK => wp_buildSlice' (l := ([1000000000, -1000000000, 999999999, 1000000001] : List Int)) (cells := [(.int .i64 1000000000), (.int .i64 (-1000000000)), (.int .i64 999999999), (.int .i64 1000000001)]) hF hS Try.underlying42 inf3 rfl rfl (by kernel_rfl) rfl rfl rfl ⟨rfl, rfl, rfl, rfl, rfl⟩ rfl rfl fun a w q23 s23 hF hS h23 _ => hK _ _ ?_
    obtain ⟨m24, hm24, hS, hz24⟩ := hS.freeze
    have h24 := h23.froz hm24.le hz24
    have hS25 : St _ _ _ _ ([[⟨b_p_c, [s5.v, (.int .i64 t_4.2.at_), (.int .u64 t_4.2.seed.v)], 103⟩]] ++ [[⟨b2, [(.int .i64 0), (.int .i64 0)], 24⟩]]) := hS
    have hE25 := hS25.enter
    obtain ⟨t_26, ht_26, hr⟩ := bindS hr
    refine q_do rfl fun _ hK => wp_callX (vs := [(.pointer (some ⟨b_p_c, 0, none⟩)), s23.v]) hF Try.func100 (by kernel_rfl) rfl rfl rfl (c_spec_l1Cur_among t_4.2 ([1000000000, -1000000000, 999999999, 1000000001] : List Int) t_26 ht_26 _ m24 b_p_c s5 (h5.mono hm24.le) s23 h24 _ hE25) fun a w _ hR hF => hK _ _ ?_
    obtain ⟨m25', s27, rfl, hm25, hR25, h27⟩ := hR
    have hS : St _ _ _ _ [[⟨b_p_c, [s27.v, (.int .i64 t_26.2.at_), (.int .u64 t_26.2.seed.v)], 103⟩], [⟨b2, [(.int .i64 0), (.int .i64 0)], 24⟩]] := hS25.leave hR25 hm25
    have hm25 := MLe.weakX hS25 hm25
    refine q_x (v := (.pointer (some ⟨b_p_c, 0, none⟩))) hF hS (ex_move rfl) rfl rfl fun a hF => ?_
    refine q_do rfl fun _ hK => wp_buildSlice' (l := ([1, 7, 999999999, 999999937] : List Int)) (cells := [(.int .i64 1), (.int .i64 7), (.int .i64 999999999), (.int .i64 999999937)]) hF hS Try.underlying42 inf3 rfl rfl (by kernel_rfl) rfl rfl rfl ⟨rfl, rfl, rfl, rfl, rfl⟩ rfl rfl fun a w q28 s28 hF hS h28 _ => hK _ _ ?_
    obtain ⟨m29, hm29, hS, hz29⟩ := hS.freeze
    have h29 := h28.froz hm29.le hz29
    have hS30 : St _ _ _ _ ([[⟨b_p_c, [s27.v, (.int .i64 t_26.2.at_), (.int .u64 t_26.2.seed.v)], 103⟩]] ++ [[⟨b2, [(.int .i64 0), (.int .i64 0)], 24⟩]]) := hS
    have hE30 := hS30.enter
    obtain ⟨t_31, ht_31, hr⟩ := bindS hr
    refine q_do rfl fun _ hK => wp_callX (vs := [(.pointer (some ⟨b_p_c, 0, none⟩)), s28.v]) hF Try.func100 (by kernel_rfl) rfl rfl rfl (c_spec_l1Cur_among t_26.2 ([1, 7, 999999999, 999999937] : List Int) t_31 ht_31 _ m29 b_p_c s27 (h27.mono hm29.le) s28 h29 _ hE30) fun a w _ hR hF => hK _ _ ?_
    obtain ⟨m30', s32, rfl, hm30, hR30, h32⟩ := hR
    have hS : St _ _ _ _ [[⟨b_p_c, [s32.v, (.int .i64 t_31.2.at_), (.int .u64 t_31.2.seed.v)], 103⟩], [⟨b2, [(.int .i64 0), (.int .i64 0)], 24⟩]] := hS30.leave hR30 hm30
    have hm30 := MLe.weakX hS30 hm30
    refine q_x (v := (.agg #[(.int .i64 t_26.1), (.int .i64 t_31.1)])) hF hS (ex_build (cells := [(.int .i64 t_26.1), (.int .i64 t_31.1)]) rfl (by kernel_rfl)) rfl rfl fun a hF => ?_
    refine q_store (vs := [(.int .i64 t_26.1), (.int .i64 t_31.1)]) (cs' := [(.int .i64 t_26.1), (.int .i64 t_31.1)]) 1 0 hF hS sz24 rfl rfl rfl rfl rfl rfl rfl rfl fun a w hF hS => ?_
    refine q_end (n_sq (q_ret (r_ib (r_sq ?_))))
    obtain rfl := someI hr
    exact ret_ofX hF hS rfl (.cellA (us := [(.int .i64 t_26.1), (.int .i64 t_31.1)]) 1 0 Try.underlying24 rfl sz24 rfl rfl rfl rfl .nil) ⟨m30', s32, rfl, ((((hm3.trans hm24).trans hm25).trans hm29).trans hm30), hS.sel [0] (by decide), h32⟩

theorem c_spec_l1Cur_ratio (p_c : spec_l1Cur) (r : impl_Frac × spec_l1Cur) (hr : spec_l1Cur_ratio p_c = some r) (w0 : World) (m : Mem) (b_p_c : Nat) (s1 : Sl) (h1 : Rd m s1 p_c.code) (X : List Nat) (hS : St X w0 w0 m [[⟨b_p_c, [s1.v, (.int .i64 p_c.at_), (.int .u64 p_c.seed.v)], 103⟩]]) :
    RetX Try.prog 164 [(.pointer (some ⟨b_p_c, 0, none⟩))] w0 (fun v w => ∃ (m' : Mem) (s0' : Sl), v = (.agg #[(.int .i64 r.1.Num), (.int .i64 r.1.Den)]) ∧ MLe X w0.heap.size m m' ∧ St X w0 w m' [[⟨b_p_c, [s0'.v, (.int .i64 r.2.at_), (.int .u64 r.2.seed.v)], 103⟩]] ∧ Rd m' s0' r.2.code) := by
  unfold spec_l1Cur_ratio at hr
  refine ret_startX Try.func164 rfl 20 rfl rfl fun a hF => ?_
  refine q_seq ?_
  refine q_region ?_
  refine q_alloc (cs := [(.int .i64 0), (.int .i64 0)]) hF hS rfl rfl rfl fun a w b2 hF hS => ?_
  refine q_end (n_sq ?_)
  refine q_seq ?_
  refine q_region ?_
  refine q_x (v := (.pointer (some ⟨b_p_c, 0, none⟩))) hF hS (ex_move rfl) rfl rfl fun a hF => ?_
  have hS : St _ _ _ _ [[⟨b_p_c, [s1.v, (.int .i64 p_c.at_), (.int .u64 p_c.seed.v)], 103⟩], [⟨b2, [(.int .i64 0), (.int .i64 0)], 24⟩]] := hS.sel [1, 0] (by decide)
  have hS3 : St _ _ _ _ ([[⟨b_p_c, [s1.v, (.int .i64 p_c.at_), (.int .u64 p_c.seed.v)], 103⟩]] ++ [[⟨b2, [(.int .i64 0), (.int .i64 0)], 24⟩]]) := hS
  have hE3 := hS3.enter
  obtain ⟨t_4, ht_4, hr⟩ := bindS hr
  refine q_do rfl fun _ hK => wp_callX (vs := [(.pointer (some ⟨b_p_c, 0, none⟩)), (.int .i64 9)]) hF Try.func99 (by kernel_rfl) rfl rfl rfl (c_spec_l1Cur_pick p_c 9 t_4 ht_4 _ m b_p_c s1 h1 _ hE3) fun a w _ hR hF => hK _ _ ?_
  obtain ⟨m3', s5, rfl, hm3, hR3, h5⟩ := hR
  have hS : St _ _ _ _ [[⟨b_p_c, [s5.v, (.int .i64 t_4.2.at_), (.int .u64 t_4.2.seed.v)], 103⟩], [⟨b2, [(.int .i64 0), (.int .i64 0)], 24⟩]] := hS3.leave hR3 hm3
  have hm3 := MLe.weakX hS3 hm3
  refine q_x (v := (.int .i64 (w64 (2 + t_4.1)))) hF hS (ex_ibin rfl rfl rfl) rfl rfl fun a hF => ?_
  refine q_x (v := (.int .i64 (w64 (2 + t_4.1)))) hF hS (ex_assign rfl) rfl rfl fun a hF => ?_
  refine q_end (n_sq ?_)
  refine q_seq ?_
  refine q_region ?_
  refine q_x (v := (.pointer (some ⟨b_p_c, 0, none⟩))) hF hS (ex_move rfl) rfl rfl fun a hF => ?_
  refine q_x (v := (.int .i64 (w64 (2 + t_4.1)))) hF hS (ex_move rfl) rfl rfl fun a hF => ?_
  refine q_x (v := (.int .i64 (w64 ((w64 (2 + t_4.1)) - 1)))) hF hS (ex_ibin rfl rfl rfl) rfl rfl fun a hF => ?_
  have hS6 : St _ _ _ _ ([[⟨b_p_c, [s5.v, (.int .i64 t_4.2.at_), (.int .u64 t_4.2.seed.v)], 103⟩]] ++ [[⟨b2, [(.int .i64 0), (.int .i64 0)], 24⟩]]) := hS
  have hE6 := hS6.enter
  obtain ⟨t_7, ht_7, hr⟩ := bindS hr
  refine q_do rfl fun _ hK => wp_callX (vs := [(.pointer (some ⟨b_p_c, 0, none⟩)), (.int .i64 (w64 ((w64 (2 + t_4.1)) - 1)))]) hF Try.func99 (by kernel_rfl) rfl rfl rfl (c_spec_l1Cur_pick t_4.2 (w64 ((w64 (2 + t_4.1)) - 1)) t_7 ht_7 _ m3' b_p_c s5 h5 _ hE6) fun a w _ hR hF => hK _ _ ?_
  obtain ⟨m6', s8, rfl, hm6, hR6, h8⟩ := hR
  have hS : St _ _ _ _ [[⟨b_p_c, [s8.v, (.int .i64 t_7.2.at_), (.int .u64 t_7.2.seed.v)], 103⟩], [⟨b2, [(.int .i64 0), (.int .i64 0)], 24⟩]] := hS6.leave hR6 hm6
  have hm6 := MLe.weakX hS6 hm6
  refine q_x (v := (.int .i64 (w64 (1 + t_7.1)))) hF hS (ex_ibin rfl rfl rfl) rfl rfl fun a hF => ?_
  refine q_x (v := (.int .i64 (w64 (2 + t_4.1)))) hF hS (ex_move rfl) rfl rfl fun a hF => ?_
  obtain ⟨t_9, ht_9, hr⟩ := bindS hr
  refine q_call (vs := [(.int .i64 (w64 (1 + t_7.1))), (.int .i64 (w64 (2 + t_4.1)))]) hF hS Try.func117 (by kernel_rfl) rfl rfl rfl (c_spec_fMake (w64 (1 + t_7.1)) (w64 (2 + t_4.1)) t_9 ht_9 _ m6' hS.vis) ?_
  rintro a w _ rfl hF hS
  refine q_x (v := (.tuple #[(.agg #[(.int .i64 t_9.1.Num), (.int .i64 t_9.1.Den)]), (.bool t_9.2)])) hF hS (ex_move rfl) rfl rfl fun a hF => ?_
  refine q_x (v := (.agg #[(.int .i64 t_9.1.Num), (.int .i64 t_9.1.Den)])) hF hS (ex_extract rfl rfl) rfl rfl fun a hF => ?_
  refine q_x (v := (.bool t_9.2)) hF hS (ex_extract rfl rfl) rfl rfl fun a hF => ?_
  refine q_alloc (cs := [(.int .i64 0), (.int .i64 0)]) hF hS rfl rfl rfl fun a w b10 hF hS => ?_
  refine q_store (vs := [(.int .i64 t_9.1.Num), (.int .i64 t_9.1.Den)]) (cs' := [(.int .i64 t_9.1.Num), (.int .i64 t_9.1.Den)]) 0 0 hF hS sz24 rfl rfl rfl rfl rfl rfl rfl rfl fun a w hF hS => ?_
  refine q_x (v := (.bool t_9.2)) hF hS (ex_assign rfl) rfl rfl fun a hF => ?_
  refine q_end (n_sq ?_)
  refine q_seq ?_
  refine q_region ?_
  refine q_x (v := (.agg #[(.int .i64 t_9.1.Num), (.int .i64 t_9.1.Den)])) hF hS (ex_loadA (vs := [(.int .i64 t_9.1.Num), (.int .i64 t_9.1.Den)]) 0 0 Try.underlying24 rfl sz24 rfl rfl rfl rfl) rfl rfl fun a hF => ?_
  refine q_store (vs := [(.int .i64 t_9.1.Num), (.int .i64 t_9.1.Den)]) (cs' := [(.int .i64 t_9.1.Num), (.int .i64 t_9.1.Den)]) 2 0 hF hS sz24 rfl rfl rfl rfl rfl rfl rfl rfl fun a w hF hS => ?_
  refine q_end (n_sq (q_ret ?_))
  obtain rfl := someI hr
  exact ret_ofX hF hS rfl (.cellA (us := [(.int .i64 t_9.1.Num), (.int .i64 t_9.1.Den)]) 2 0 Try.underlying24 rfl sz24 rfl rfl rfl rfl .nil) ⟨m6', s8, rfl, (hm3.trans hm6), hS.sel [1] (by decide), h8⟩

theorem c_spec_l1Cur_anyRatio (p_c : spec_l1Cur) (r : impl_Frac × spec_l1Cur) (hr : spec_l1Cur_anyRatio p_c = some r) (w0 : World) (m : Mem) (b_p_c : Nat) (s1 : Sl) (h1 : Rd m s1 p_c.code) (X : List Nat) (hS : St X w0 w0 m [[⟨b_p_c, [s1.v, (.int .i64 p_c.at_), (.int .u64 p_c.seed.v)], 103⟩]]) :
    RetX Try.prog 119 [(.pointer (some ⟨b_p_c, 0, none⟩))] w0 (fun v w => ∃ (m' : Mem) (s0' : Sl), v = (.agg #[(.int .i64 r.1.Num), (.int .i64 r.1.Den)]) ∧ MLe X w0.heap.size m m' ∧ St X w0 w m' [[⟨b_p_c, [s0'.v, (.int .i64 r.2.at_), (.int .u64 r.2.seed.v)], 103⟩]] ∧ Rd m' s0' r.2.code) := by
  unfold spec_l1Cur_anyRatio at hr
  refine ret_startX Try.func119 rfl 9 rfl rfl fun a hF => ?_
  refine q_seq ?_
  refine q_region ?_
  refine q_alloc (cs := [(.int .i64 0), (.int .i64 0)]) hF hS rfl rfl rfl fun a w b2 hF hS => ?_
  refine q_end (n_sq ?_)
  refine q_seq ?_
  refine q_seq ?_
  refine q_region ?_
  refine q_x (v := (.pointer (some ⟨b_p_c, 0, none⟩))) hF hS (ex_move rfl) rfl rfl fun a hF => ?_
  have hS : St _ _ _ _ [[⟨b_p_c, [s1.v, (.int .i64 p_c.at_), (.int .u64 p_c.seed.v)], 103⟩], [⟨b2, [(.int .i64 0), (.int .i64 0)], 24⟩]] := hS.sel [1, 0] (by decide)
  have hS3 : St _ _ _ _ ([[⟨b_p_c, [s1.v, (.int .i64 p_c.at_), (.int .u64 p_c.seed.v)], 103⟩]] ++ [[⟨b2, [(.int .i64 0), (.int .i64 0)], 24⟩]]) := hS
  have hE3 := hS3.enter
  obtain ⟨t_4, ht_4, hr⟩ := bindS hr
  refine q_do rfl fun _ hK => wp_callX (vs := [(.pointer (some ⟨b_p_c, 0, none⟩)), (.int .i64 16)]) hF Try.func86 (by kernel_rfl) rfl rfl rfl (c_spec_l1Cur_one p_c 16 t_4 ht_4 _ m b_p_c s1 h1 _ hE3) fun a w _ hR hF => hK _ _ ?_
  obtain ⟨m3', s5, rfl, hm3, hR3, h5⟩ := hR
  have hS : St _ _ _ _ [[⟨b_p_c, [s5.v, (.int .i64 t_4.2.at_), (.int .u64 t_4.2.seed.v)], 103⟩], [⟨b2, [(.int .i64 0), (.int .i64 0)], 24⟩]] := hS3.leave hR3 hm3
  have hm3 := MLe.weakX hS3 hm3
  refine q_end (n_sq ?_)
  rcases bcase (t_4.1) with hc1 | hc1
  · have hr := cond_f hc1 hr
    refine q_cond_f hF rfl hc1 ?_
    refine q_skipc (n_sq ?_)
    refine q_seq ?_
    refine q_region ?_
    refine q_x (v := (.pointer (some ⟨b_p_c, 0, none⟩))) hF hS (ex_move rfl) rfl rfl fun a hF => ?_
    have hS6 : St _ _ _ _ ([[⟨b_p_c, [s5.v, (.int .i64 t_4.2.at_), (.int .u64 t_4.2.seed.v)], 103⟩]] ++ [[⟨b2, [(.int .i64 0), (.int .i64 0)], 24⟩]]) := hS
    have hE6 := hS6.enter
    obtain ⟨t_7, ht_7, hr⟩ := bindS hr
    refine q_do rfl fun _ hK => wp_callX (vs := [(.pointer (some ⟨b_p_c, 0, none⟩))]) hF Try.func164 (by kernel_rfl) rfl rfl rfl (c_spec_l1Cur_ratio t_4.2 t_7 ht_7 _ m3' b_p_c s5 h5 _ hE6) fun a w _ hR hF => hK _ _ ?_
    obtain ⟨m6', s8, rfl, hm6, hR6, h8⟩ := hR
    have hS : St _ _ _ _ [[⟨b_p_c, [s8.v, (.int .i64 t_7.2.at_), (.int .u64 t_7.2.seed.v)], 103⟩], [⟨b2, [(.int .i64 0), (.int .i64 0)], 24⟩]] := hS6.leave hR6 hm6
    have hm6 := MLe.weakX hS6 hm6
    refine q_store (vs := [(.int .i64 t_7.1.Num), (.int .i64 t_7.1.Den)]) (cs' := [(.int .i64 t_7.1.Num), (.int .i64 t_7.1.Den)]) 1 0 hF hS sz24 rfl rfl rfl rfl rfl rfl rfl rfl fun a w hF hS => ?_
    refine q_end (n_sq (q_ret ?_))
    obtain rfl := someI hr
    exact ret_ofX hF hS rfl (.cellA (us := [(.int .i64 t_7.1.Num), (.int .i64 t_7.1.Den)]) 1 0 Try.underlying24 rfl sz24 rfl rfl rfl rfl .nil) ⟨m6', s8, rfl, (hm3.trans hm6), hS.sel [0] (by decide), h8⟩
  · have hr := cond_t hc1 hr
    refine q_cond_t hF rfl hc1 ?_
    refine q_seq ?_
    refine q_region ?_
    refine q_x (v := (.pointer (some ⟨b_p_c, 0, none⟩))) hF hS (ex_move rfl) rfl rfl fun a hF => ?_
    have hS9 : St _ _ _ _ ([[⟨b_p_c, [s5.v, (.int .i64 t_4.2.at_), (.int .u64 t_4.2.seed.v)], 103⟩]] ++ [[⟨b2, [(.int .i64 0), (.int .i64 0)], 24⟩]]) := hS
    have hE9 := hS9.enter
    obtain ⟨t_10, ht_10, hr⟩ := bindS hr
    refine q_do rfl fun _ hK => wp_callX (vs := [(.pointer (some ⟨b_p_c, 0, none⟩))]) hF Try.func112 (by kernel_rfl) rfl rfl rfl (c_spec_l1Cur_anyFrac t_4.2 t_10 ht_10 _ m3' b_p_c s5 h5 _ hE9) fun a w _ hR hF => hK _ _ ?_
    obtain ⟨m9', s11, rfl, hm9, hR9, h11⟩ := hR
    have hS : St _ _ _ _ [[⟨b_p_c, [s11.v, (.int .i64 t_10.2.at_), (.int .u64 t_10.2.seed.v)], 103⟩], [⟨b2, [(.int .i64 0), (.int .i64 0)], 24⟩]] := hS9.leave hR9 hm9
    have hm9 := MLe.weakX hS9 hm9
    refine q_store (vs := [(.int .i64 t_10.1.Num), (.int .i64 t_10.1.Den)]) (cs' := [(.int .i64 t_10.1.Num), (.int .i64 t_10.1.Den)]) 1 0 hF hS sz24 rfl rfl rfl rfl rfl rfl rfl rfl fun a w hF hS => ?_
    refine q_end (n_sq (q_ret (r_sq ?_)))
    obtain rfl := someI hr
    exact ret_ofX hF hS rfl (.cellA (us := [(.int .i64 t_10.1.Num), (.int .i64 t_10.1.Den)]) 1 0 Try.underlying24 rfl sz24 rfl rfl rfl rfl .nil) ⟨m9', s11, rfl, (hm3.trans hm9), hS.sel [0] (by decide), h11⟩

theorem c_spec_DrawClampedMasses (p_code : List (K .u8)) (r : impl_Frac × Int × Int × Int) (hr : spec_DrawClampedMasses p_code = some r) (w0 : World) (m : Mem) (hv : Vis m w0) (s1 : Sl) (h1 : Rd m s1 p_code) :
    Ret Try.prog 38 [s1.v] w0 (fun v _ => v = (.tuple #[(.agg #[(.int .i64 r.1.Num), (.int .i64 r.1.Den)]), (.int .i64 r.2.1), (.int .i64 r.2.2.1), (.int .i64 r.2.2.2)])) := by
  unfold spec_DrawClampedMasses at hr
  refine ret_start Try.func38 rfl 28 rfl rfl m hv fun a hF hS => ?_
  refine q_seq ?_
  refine q_region ?_
  refine q_alloc (cs := [(.int .i64 0), (.int .i64 0)]) hF hS rfl rfl rfl fun a w b2 hF hS => ?_
  refine q_x (v := (.int .i64 0)) hF hS (ex_assign rfl) rfl rfl fun a hF => ?_
  refine q_x (v := (.int .i64 0)) hF hS (ex_assign rfl) rfl rfl fun a hF => ?_
  refine q_x (v := (.int .i64 0)) hF hS (ex_assign rfl) rfl rfl fun a hF => ?_
  refine q_end (n_sq ?_)
  refine q_seq ?_
  refine q_region ?_
  refine q_x (v := s1.v) hF hS (ex_move rfl) rfl rfl fun a hF => ?_
  refine q_x (v := (.agg #[s1.v, (.int .i64 0), (.int .u64 0)])) hF hS (ex_build (cells := [s1.v, (.int .i64 0), (.int .u64 0)]) rfl (by kernel_rfl)) rfl rfl fun a hF => ?_
  refine q_box (cs := [s1.v, (.int .i64 0), (.int .u64 0)]) hF hS rfl rfl rfl fun a w b3 hF hS => ?_
  refine q_x (v := (.pointer (some ⟨b3, 0, none⟩))) hF hS (ex_assign rfl) rfl rfl fun a hF => ?_
  refine q_end (n_sq ?_)
  refine q_seq ?_
  refine q_region ?_
  refine q_x (v := (.pointer (some ⟨b3, 0, none⟩))) hF hS (ex_move rfl) rfl rfl fun a hF => ?_
  have hS4 : St _ _ _ _ ([[⟨b3, [s1.v, (.int .i64 0), (.int .u64 0)], 103⟩]] ++ [[⟨b2, [(.int .i64 0), (.int .i64 0)], 24⟩]]) := hS
  have hE4 := hS4.enter
  obtain ⟨t_5, ht_5, hr⟩ := bindS hr
  refine q_do rfl fun _ hK => wp_callX (vs := [(.pointer (some ⟨b3, 0, none⟩)), (.int .i64 5)]) hF Try.func99 (by kernel_rfl) rfl rfl rfl (c_spec_l1Cur_pick (spec_l1Cur.mk p_code 0 (⟨0⟩ : K .u64)) 5 t_5 ht_5 _ m b3 s1 h1 _ hE4) fun a w _ hR hF => hK _ _ ?_
  obtain ⟨m4', s6, rfl, hm4, hR4, h6⟩ := hR
  have hS : St _ _ _ _ [[⟨b3, [s6.v, (.int .i64 t_5.2.at_), (.int .u64 t_5.2.seed.v)], 103⟩], [⟨b2, [(.int .i64 0), (.int .i64 0)], 24⟩]] := hS4.leave hR4 hm4
  have hm4 := MLe.weakX hS4 hm4
  refine q_x (v := (.int .i64 (w64 (t_5.1 - 2)))) hF hS (ex_ibin rfl rfl rfl) rfl rfl fun a hF => ?_
  refine q_x (v := (.int .i64 (w64 (t_5.1 - 2)))) hF hS (ex_assign rfl) rfl rfl fun a hF => ?_
  refine q_end (n_sq ?_)
  refine q_seq ?_
  refine q_region ?_
  refine q_x (v := (.int .i64 (w64 (t_5.1 - 2)))) hF hS (ex_move rfl) rfl rfl fun a hF => ?_
  refine q_x (v := (.pointer (some ⟨b3, 0, none⟩))) hF hS (ex_move rfl) rfl rfl fun a hF => ?_
  refine q_do rfl fun _ hK => wp_buildSlice' (l := ([0, 1, 2, 3, 4, 5, 12, 13, -1] : List Int)) (cells := [(.int .i64 0), (.int .i64 1), (.int .i64 2), (.int .i64 3), (.int .i64 4), (.int .i64 5), (.int .i64 12), (.int .i64 13), (.int .i64 (-1))]) hF hS Try.underlying42 inf3 rfl rfl (by kernel_rfl) rfl rfl rfl ⟨rfl, rfl, rfl, rfl, rfl, rfl, rfl, rfl, rfl, rfl⟩ rfl rfl fun a w q7 s7 hF hS h7 _ => hK _ _ ?_
  obtain ⟨m8, hm8, hS, hz8⟩ := hS.freeze
  have h8 := h7.froz hm8.le hz8
  have hS9 : St _ _ _ _ ([[⟨b3, [s6.v, (.int .i64 t_5.2.at_), (.int .u64 t_5.2.seed.v)], 103⟩]] ++ [[⟨b2, [(.int .i64 0), (.int .i64 0)], 24⟩]]) := hS
  have hE9 := hS9.enter
  obtain ⟨t_10, ht_10, hr⟩ := bindS hr
  refine q_do rfl fun _ hK => wp_callX (vs := [(.pointer (some ⟨b3, 0, none⟩)), s7.v]) hF Try.func100 (by kernel_rfl) rfl rfl rfl (c_spec_l1Cur_among t_5.2 ([0, 1, 2, 3, 4, 5, 12, 13, -1] : List Int) t_10 ht_10 _ m8 b3 s6 (h6.mono hm8.le) s7 h8 _ hE9) fun a w _ hR hF => hK _ _ ?_
  obtain ⟨m9', s11, rfl, hm9, hR9, h11⟩ := hR
  have hS : St _ _ _ _ [[⟨b3, [s11.v, (.int .i64 t_10.2.at_), (.int .u64 t_10.2.seed.v)], 103⟩], [⟨b2, [(.int .i64 0), (.int .i64 0)], 24⟩]] := hS9.leave hR9 hm9
  have hm9 := MLe.weakX hS9 hm9
  refine q_x (v := (.int .i64 (w64 ((w64 (t_5.1 - 2)) + t_10.1)))) hF hS (ex_ibin rfl rfl rfl) rfl rfl fun a hF => ?_
  refine q_x (v := (.int .i64 (w64 ((w64 (t_5.1 - 2)) + t_10.1)))) hF hS (ex_assign rfl) rfl rfl fun a hF => ?_
  refine q_end (n_sq ?_)
  refine q_seq ?_
  refine q_region ?_
  refine q_x (v := (.pointer (some ⟨b3, 0, none⟩))) hF hS (ex_move rfl) rfl rfl fun a hF => ?_
  have hS12 : St _ _ _ _ ([[⟨b3, [s11.v, (.int .i64 t_10.2.at_), (.int .u64 t_10.2.seed.v)], 103⟩]] ++ [[⟨b2, [(.int .i64 0), (.int .i64 0)], 24⟩]]) := hS
  have hE12 := hS12.enter
  obtain ⟨t_13, ht_13, hr⟩ := bindS hr
  refine q_do rfl fun _ hK => wp_callX (vs := [(.pointer (some ⟨b3, 0, none⟩))]) hF Try.func119 (by kernel_rfl) rfl rfl rfl (c_spec_l1Cur_anyRatio t_10.2 t_13 ht_13 _ m9' b3 s11 h11 _ hE12) fun a w _ hR hF => hK _ _ ?_
  obtain ⟨m12', s14, rfl, hm12, hR12, h14⟩ := hR
  have hS : St _ _ _ _ [[⟨b3, [s14.v, (.int .i64 t_13.2.at_), (.int .u64 t_13.2.seed.v)], 103⟩], [⟨b2, [(.int .i64 0), (.int .i64 0)], 24⟩]] := hS12.leave hR12 hm12
  have hm12 := MLe.weakX hS12 hm12
  refine q_x (v := (.int .i64 (w64 (t_5.1 - 2)))) hF hS (ex_move rfl) rfl rfl fun a hF => ?_
  refine q_x (v := (.int .i64 (w64 ((w64 (t_5.1 - 2)) + t_10.1)))) hF hS (ex_move rfl) rfl rfl fun a hF => ?_
  refine q_x (v := (.int .i64 (w64 (t_5.1 - 2)))) hF hS (ex_move rfl) rfl rfl fun a hF => ?_
  refine q_x (v := (.pointer (some ⟨b3, 0, none⟩))) hF hS (ex_move rfl) rfl rfl fun a hF => ?_
  have hS15 : St _ _ _ _ ([[⟨b3, [s14.v, (.int .i64 t_13.2.at_), (.int .u64 t_13.2.seed.v)], 103⟩]] ++ [[⟨b2, [(.int .i64 0), (.int .i64 0)], 24⟩]]) := hS
  have hE15 := hS15.enter
  obtain ⟨t_16, ht_16, hr⟩ := bindS hr
  refine q_do rfl fun _ hK => wp_callX (vs := [(.pointer (some ⟨b3, 0, none⟩)), (.int .i64 5)]) hF Try.func99 (by kernel_rfl) rfl rfl rfl (c_spec_l1Cur_pick t_13.2 5 t_16 ht_16 _ m12' b3 s14 h14 _ hE15) fun a w _ hR hF => hK _ _ ?_
  obtain ⟨m15', s17, rfl, hm15, hR15, h17⟩ := hR
  have hS : St _ _ _ _ [[⟨b3, [s17.v, (.int .i64 t_16.2.at_), (.int .u64 t_16.2.seed.v)], 103⟩], [⟨b2, [(.int .i64 0), (.int .i64 0)], 24⟩]] := hS15.leave hR15 hm15
  have hm15 := MLe.weakX hS15 hm15
  refine q_x (v := (.int .i64 (w64 ((w64 (t_5.1 - 2)) + t_16.1)))) hF hS (ex_ibin rfl rfl rfl) rfl rfl fun a hF => ?_
  refine q_store (vs := [(.int .i64 t_13.1.Num), (.int .i64 t_13.1.Den)]) (cs' := [(.int .i64 t_13.1.Num), (.int .i64 t_13.1.Den)]) 1 0 hF hS sz24 rfl rfl rfl rfl rfl rfl rfl rfl fun a w hF hS => ?_
  refine q_x (v := (.int .i64 (w64 (t_5.1 - 2)))) hF hS (ex_assign rfl) rfl rfl fun a hF => ?_
  refine q_x (v := (.int .i64 (w64 ((w64 (t_5.1 - 2)) + t_10.1)))) hF hS (ex_assign rfl) rfl rfl fun a hF => ?_
  refine q_x (v := (.int .i64 (w64 ((w64 (t_5.1 - 2)) + t_16.1)))) hF hS (ex_assign rfl) rfl rfl fun a hF => ?_
  refine q_end (n_sq (q_ret ?_))
  obtain rfl := someI hr
  exact ret_of hF hS rfl (.cellA (us := [(.int .i64 t_13.1.Num), (.int .i64 t_13.1.Den)]) 1 0 Try.underlying24 rfl sz24 rfl rfl rfl rfl (.tmp rfl (.tmp rfl (.tmp rfl .nil)))) rfl

theorem c_impl_gcdOf (p_a : Int) (p_b : Int) (r : Int) (hr : impl_gcdOf p_a p_b = some r) (w0 : World) (m : Mem) (hv : Vis m w0) :
    Ret Try.prog 157 [(.int .i64 p_a), (.int .i64 p_b)] w0 (fun v _ => v = (.int .i64 r)) := by
  unfold impl_gcdOf at hr
  refine ret_start Try.func157 rfl 20 rfl rfl m hv fun a hF hS => ?_
  refine q_seq ?_
  refine q_region ?_
  refine q_x (v := (.int .i64 0)) hF hS (ex_assign rfl) rfl rfl fun a hF => ?_
  refine q_end (n_sq ?_)
  refine q_seq ?_
  refine q_seq ?_
  refine q_region ?_
  refine q_x (v := (.int .i64 p_a)) hF hS (ex_move rfl) rfl rfl fun a hF => ?_
  refine q_x (v := (.bool (decide (p_a < 0)))) hF hS (ex_ibin rfl rfl rfl) rfl rfl fun a hF => ?_
  refine q_end (n_sq ?_)
  obtain ⟨a_1, hj1, hr⟩ := bindS hr
  refine q_join (fun a w => Fr a 20 [(0, (.int .i64 a_1)), (1, (.int .i64 p_b))] ∧ St [] w0 w m []) ?_ ?_
  · rcases bcase (decide (p_a < 0)) with hc2 | hc2
    · have hj1 := cond_f hc2 hj1
      refine q_cond_f hF rfl hc2 ?_
      refine q_skipc (n_jn ?_)
      obtain rfl := someI hj1
      exact ⟨hF.sub ⟨rfl, rfl, trivial⟩, hS⟩
    · have hj1 := cond_t hc2 hj1
      refine q_cond_t hF rfl hc2 ?_
      refine q_region ?_
      refine q_x (v := (.int .i64 p_a)) hF hS (ex_move rfl) rfl rfl fun a hF => ?_
      refine q_x (v := (.int .i64 (w64 (-p_a)))) hF hS (ex_neg rfl) rfl rfl fun a hF => ?_
      refine q_x (v := (.int .i64 (w64 (-p_a)))) hF hS (ex_assign rfl) rfl rfl fun a hF => ?_
      refine q_end (n_jn ?_)
      obtain rfl := someI hj1
      exact ⟨hF.sub ⟨rfl, rfl, trivial⟩, hS⟩
  · rintro a w ⟨hF, hS⟩
    refine n_sq ?_
    refine q_seq ?_
    refine q_seq ?_
    refine q_region ?_
    refine q_x (v := (.int .i64 p_b)) hF hS (ex_move rfl) rfl rfl fun a hF => ?_
    refine q_x (v := (.bool (decide (p_b < 0)))) hF hS (ex_ibin rfl rfl rfl) rfl rfl fun a hF => ?_
    refine q_end (n_sq ?_)
    obtain ⟨b_2, hj3, hr⟩ := bindS hr
    refine q_join (fun a w => Fr a 20 [(0, (.int .i64 a_1)), (1, (.int .i64 b_2))] ∧ St [] w0 w m []) ?_ ?_
    · rcases bcase (decide (p_b < 0)) with hc4 | hc4
      · have hj3 := cond_f hc4 hj3
        refine q_cond_f hF rfl hc4 ?_
        refine q_skipc (n_jn ?_)
        obtain rfl := someI hj3
        exact ⟨hF.sub ⟨rfl, rfl, trivial⟩, hS⟩
      · have hj3 := cond_t hc4 hj3
        refine q_cond_t hF rfl hc4 ?_
        refine q_region ?_
        refine q_x (v := (.int .i64 p_b)) hF hS (ex_move rfl) rfl rfl fun a hF => ?_
        refine q_x (v := (.int .i64 (w64 (-p_b)))) hF hS (ex_neg rfl) rfl rfl fun a hF => ?_
        refine q_x (v := (.int .i64 (w64 (-p_b)))) hF hS (ex_assign rfl) rfl rfl fun a hF => ?_
        refine q_end (n_jn ?_)
        obtain rfl := someI hj3
        exact ⟨hF.sub ⟨rfl, rfl, trivial⟩, hS⟩
    · rintro a w ⟨hF, hS⟩
      refine n_sq ?_
      refine q_seq ?_
      refine q_block ?_
      obtain ⟨a_6, hl5, hr⟩ := bindS hr
      refine q_loop (fun (s : Int × Int) a w => ∃ a_3, ∃ b_4, s = (a_3, b_4) ∧ Fr a 20 [(0, (.int .i64 a_3)), (1, (.int .i64 b_4))] ∧ St [] w0 w m []) (fun (a_6 : Int) e a w => e = .exit 0 ∧ Fr a 20 [(0, (.int .i64 a_6))] ∧ St [] w0 w m []) hl5 ⟨_, _, rfl, hF.sub ⟨rfl, rfl, trivial⟩, hS⟩ ?_ ?_
      · clear hF hS
        rintro s a w st ⟨a_3, b_4, rfl, hF, hS⟩ hb5
        unfold impl_gcdOf_l1 at hb5
        refine q_seq ?_
        refine q_seq ?_
        refine q_region ?_
        refine q_x (v := (.int .i64 b_4)) hF hS (ex_move rfl) rfl rfl fun a hF => ?_
        refine q_x (v := (.bool (b_4 != 0))) hF hS (ex_ibin rfl rfl rfl) rfl rfl fun a hF => ?_
        refine q_end (n_sq ?_)
        rcases bcase (b_4 != 0) with hc6 | hc6
        · have hb5 := cond_f hc6 hb5
          refine q_cond_f hF rfl hc6 ?_
          refine q_exit (x_sq ?_)
          obtain rfl := someI hb5
          exact ⟨nofun, .inl ⟨rfl, hF.sub ⟨rfl, trivial⟩, hS⟩⟩
        · have hb5 := cond_t hc6 hb5
          refine q_cond_t hF rfl hc6 ?_
          refine q_skipc (n_sq ?_)
          refine q_block ?_
          refine e_region [] mixed fun w' hw' => ?_
          have hS := hS.below hw'
          refine e_p (v := (.int .i64 b_4)) 0 hF rfl (ex_move rfl) rfl rfl (by kernel_rfl) (by kernel_rfl) (by kernel_rfl) fun a hF => ?_
          refine e_p (v := (.int .i64 a_3)) 1 hF rfl (ex_move rfl) rfl rfl (by kernel_rfl) (by kernel_rfl) (by kernel_rfl) fun a hF => ?_
          refine e_p (v := (.int .i64 b_4)) 2 hF rfl (ex_move rfl) rfl rfl (by kernel_rfl) (by kernel_rfl) (by kernel_rfl) fun a hF => ?_
          obtain ⟨t_5, ht_5, hb5⟩ := bindS hb5
          refine e_p (v := (.int .i64 t_5)) 3 hF rfl (ex_rem rfl rfl ht_5) rfl rfl (by kernel_rfl) (by kernel_rfl) (by kernel_rfl) fun a hF => ?_
          refine e_p (v := (.int .i64 b_4)) 4 hF rfl (ex_assign rfl) rfl rfl (by kernel_rfl) (by kernel_rfl) (by kernel_rfl) fun a hF => ?_
          refine e_p (v := (.int .i64 t_5)) 5 hF rfl (ex_assign rfl) rfl rfl (by kernel_rfl) (by kernel_rfl) (by kernel_rfl) fun a hF => ?_
          refine e_end (by kernel_rfl) (n_ib ?_) _
          obtain rfl := someI hb5
          exact ⟨rfl, _, _, rfl, hF.sub ⟨rfl, rfl, trivial⟩, hS⟩
      · rintro e a w ⟨rfl, hF, hS⟩
        refine x_ib (n_sq ?_)
        refine q_seq ?_
        refine q_region ?_
        refine q_x (v := (.int .i64 a_6)) hF hS (ex_move rfl) rfl rfl fun a hF => ?_
        refine q_x (v := (.int .i64 a_6)) hF hS (ex_assign rfl) rfl rfl fun a hF => ?_
        refine q_end (n_sq (q_ret ?_))
        obtain rfl := someI hr
        exact ret_of hF hS rfl (.tmp rfl .nil) rfl

theorem c_impl_IsFrac (p_f : impl_Frac) (r : Bool) (hr : impl_IsFrac p_f = some r) (w0 : World) (m : Mem) (hv : Vis m w0) :
    Ret Try.prog 94 [(.agg #[(.int .i64 p_f.Num), (.int .i64 p_f.Den)])] w0 (fun v _ => v = (.bool r)) := by
  unfold impl_IsFrac at hr
  refine ret_start Try.func94 rfl 29 rfl rfl m hv fun a hF hS => ?_
  refine q_seq ?_
  refine q_region ?_
  refine q_box (cs := [(.int .i64 p_f.Num), (.int .i64 p_f.Den)]) hF hS rfl rfl rfl fun a w b1 hF hS => ?_
  refine q_x (v := (.bool false)) hF hS (ex_assign rfl) rfl rfl fun a hF => ?_
  refine q_end (n_sq ?_)
  refine q_seq ?_
  obtain ⟨t_3, hj1, hr⟩ := bindS hr
  refine q_join (fun a w => Fr a 29 [(2, (.bool t_3))] ∧ St [] w0 w m []) ?_ ?_
  · refine q_region ?_
    refine q_x (v := (.pointer (some ⟨b1, 1, none⟩))) hF hS (ex_fieldAddr Try.underlying24 rfl sz3 rfl rfl) rfl rfl fun a hF => ?_
    refine q_x (v := (.int .i64 p_f.Den)) hF hS (ex_load1 0 0 Try.underlying3 rfl rfl rfl rfl) rfl rfl fun a hF => ?_
    refine q_x (v := (.bool (decide (1 ≤ p_f.Den)))) hF hS (ex_ibin rfl rfl rfl) rfl rfl fun a hF => ?_
    refine q_x (v := (.bool (decide (1 ≤ p_f.Den)))) hF hS (ex_move rfl) rfl rfl fun a hF => ?_
    rcases bcase (decide (1 ≤ p_f.Den)) with hc2 | hc2
    · have hj1 := cond_f hc2 hj1
      refine q_skip hF (wanted_f hF rfl rfl rfl hc2 rfl) rfl fun a hF => ?_
      refine q_skip hF (wanted_f hF rfl rfl rfl hc2 rfl) rfl fun a hF => ?_
      refine q_skip hF (wanted_f hF rfl rfl rfl hc2 rfl) rfl fun a hF => ?_
      refine q_x (v := (.bool false)) hF hS (ex_pick_f rfl rfl hc2) rfl rfl fun a hF => ?_
      refine q_x (v := (.bool false)) hF hS (ex_move rfl) rfl rfl fun a hF => ?_
      refine q_skip hF (wanted_f hF rfl rfl rfl rfl rfl) rfl fun a hF => ?_
      refine q_skip hF (wanted_f hF rfl rfl rfl rfl rfl) rfl fun a hF => ?_
      refine q_skip hF (wanted_f hF rfl rfl rfl rfl rfl) rfl fun a hF => ?_
      refine q_x (v := (.bool false)) hF hS (ex_pick_f rfl rfl rfl) rfl rfl fun a hF => ?_
      refine q_x (v := (.bool false)) hF hS (ex_move rfl) rfl rfl fun a hF => ?_
      refine q_skip hF (wanted_f hF rfl rfl rfl rfl rfl) rfl fun a hF => ?_
      refine q_skip hF (wanted_f hF rfl rfl rfl rfl rfl) rfl fun a hF => ?_
      refine q_skip hF (wanted_f hF rfl rfl rfl rfl rfl) rfl fun a hF => ?_
      refine q_x (v := (.bool false)) hF hS (ex_pick_f rfl rfl rfl) rfl rfl fun a hF => ?_
      refine q_x (v := (.bool false)) hF hS (ex_move rfl) rfl rfl fun a hF => ?_
      refine q_skip hF (wanted_f hF rfl rfl rfl rfl rfl) rfl fun a hF => ?_
      refine q_skip hF (wanted_f hF rfl rfl rfl rfl rfl) rfl fun a hF => ?_
      refine q_skip hF (wanted_f hF rfl rfl rfl rfl rfl) rfl fun a hF => ?_
      refine q_skip hF (wanted_f hF rfl rfl rfl rfl rfl) rfl fun a hF => ?_
      refine q_skip hF (wanted_f hF rfl rfl rfl rfl rfl) rfl fun a hF => ?_
      refine q_skip hF (wanted_f hF rfl rfl rfl rfl rfl) rfl fun a hF => ?_
      refine q_x (v := (.bool false)) hF hS (ex_pick_f rfl rfl rfl) rfl rfl fun a hF => ?_
      refine q_x (v := (.bool false)) hF hS (ex_assign rfl) rfl rfl fun a hF => ?_
      refine q_end (n_jn ?_)
      obtain rfl := someI hj1
      exact ⟨hF.sub ⟨rfl, trivial⟩, hS.mask [false]⟩
    · have hj1 := cond_t hc2 hj1
      refine q_xg (v := (.pointer (some ⟨b1, 1, none⟩))) hF hS (ex_fieldAddr Try.underlying24 rfl sz3 rfl rfl) (wanted_t hF rfl rfl rfl hc2) rfl fun a hF => ?_
      refine q_xg (v := (.int .i64 p_f.Den)) hF hS (ex_load1 0 0 Try.underlying3 rfl rfl rfl rfl) (wanted_t hF rfl rfl rfl hc2) rfl fun a hF => ?_
      refine q_xg (v := (.bool (decide (p_f.Den ≤ 1000000000)))) hF hS (ex_ibin rfl rfl rfl) (wanted_t hF rfl rfl rfl hc2) rfl fun a hF => ?_
      refine q_x (v := (.bool (decide (p_f.Den ≤ 1000000000)))) hF hS (ex_pick_t rfl rfl hc2) rfl rfl fun a hF => ?_
      refine q_x (v := (.bool (decide (p_f.Den ≤ 1000000000)))) hF hS (ex_move rfl) rfl rfl fun a hF => ?_
      rcases bcase (decide (p_f.Den ≤ 1000000000)) with hc3 | hc3
      · have hj1 := cond_f hc3 hj1
        refine q_skip hF (wanted_f hF rfl rfl rfl hc3 rfl) rfl fun a hF => ?_
        refine q_skip hF (wanted_f hF rfl rfl rfl hc3 rfl) rfl fun a hF => ?_
        refine q_skip hF (wanted_f hF rfl rfl rfl hc3 rfl) rfl fun a hF => ?_
        refine q_x (v := (.bool false)) hF hS (ex_pick_f rfl rfl hc3) rfl rfl fun a hF => ?_
        refine q_x (v := (.bool false)) hF hS (ex_move rfl) rfl rfl fun a hF => ?_
        refine q_skip hF (wanted_f hF rfl rfl rfl rfl rfl) rfl fun a hF => ?_
        refine q_skip hF (wanted_f hF rfl rfl rfl rfl rfl) rfl fun a hF => ?_
        refine q_skip hF (wanted_f hF rfl rfl rfl rfl rfl) rfl fun a hF => ?_
        refine q_x (v := (.bool false)) hF hS (ex_pick_f rfl rfl rfl) rfl rfl fun a hF => ?_
        refine q_x (v := (.bool false)) hF hS (ex_move rfl) rfl rfl fun a hF => ?_
        refine q_skip hF (wanted_f hF rfl rfl rfl rfl rfl) rfl fun a hF => ?_
        refine q_skip hF (wanted_f hF rfl rfl rfl rfl rfl) rfl fun a hF => ?_
        refine q_skip hF (wanted_f hF rfl rfl rfl rfl rfl) rfl fun a hF => ?_
        refine q_skip hF (wanted_f hF rfl rfl rfl rfl rfl) rfl fun a hF => ?_
        refine q_skip hF (wanted_f hF rfl rfl rfl rfl rfl) rfl fun a hF => ?_
        refine q_skip hF (wanted_f hF rfl rfl rfl rfl rfl) rfl fun a hF => ?_
        refine q_x (v := (.bool false)) hF hS (ex_pick_f rfl rfl rfl) rfl rfl fun a hF => ?_
        refine q_x (v := (.bool false)) hF hS (ex_assign rfl) rfl rfl fun a hF => ?_
        refine q_end (n_jn ?_)
        obtain rfl := someI hj1
        exact ⟨hF.sub ⟨rfl, trivial⟩, hS.mask [false]⟩
      · have hj1 := cond_t hc3 hj1
        refine q_xg (v := (.pointer (some ⟨b1, 0, none⟩))) hF hS (ex_fieldAddr Try.underlying24 rfl sz3 rfl rfl) (wanted_t hF rfl rfl rfl hc3) rfl fun a hF => ?_
        refine q_xg (v := (.int .i64 p_f.Num)) hF hS (ex_load1 0 0 Try.underlying3 rfl rfl rfl rfl) (wanted_t hF rfl rfl rfl hc3) rfl fun a hF => ?_
        refine q_xg (v := (.bool (decide ((-1000000000) ≤ p_f.Num)))) hF hS (ex_ibin rfl rfl rfl) (wanted_t hF rfl rfl rfl hc3) rfl fun a hF => ?_
        refine q_x (v := (.bool (decide ((-1000000000) ≤ p_f.Num)))) hF hS (ex_pick_t rfl rfl hc3) rfl rfl fun a hF => ?_
        refine q_x (v := (.bool (decide ((-1000000000) ≤ p_f.Num)))) hF hS (ex_move rfl) rfl rfl fun a hF => ?_
        rcases bcase (decide ((-1000000000) ≤ p_f.Num)) with hc4 | hc4
        · have hj1 := cond_f hc4 hj1
          refine q_skip hF (wanted_f hF rfl rfl rfl hc4 rfl) rfl fun a hF => ?_
          refine q_skip hF (wanted_f hF rfl rfl rfl hc4 rfl) rfl fun a hF => ?_
          refine q_skip hF (wanted_f hF rfl rfl rfl hc4 rfl) rfl fun a hF => ?_
          refine q_x (v := (.bool false)) hF hS (ex_pick_f rfl rfl hc4) rfl rfl fun a hF => ?_
          refine q_x (v := (.bool false)) hF hS (ex_move rfl) rfl rfl fun a hF => ?_
          refine q_skip hF (wanted_f hF rfl rfl rfl rfl rfl) rfl fun a hF => ?_
          refine q_skip hF (wanted_f hF rfl rfl rfl rfl rfl) rfl fun a hF => ?_
          refine q_skip hF (wanted_f hF rfl rfl rfl rfl rfl) rfl fun a hF => ?_
          refine q_skip hF (wanted_f hF rfl rfl rfl rfl rfl) rfl fun a hF => ?_
          refine q_skip hF (wanted_f hF rfl rfl rfl rfl rfl) rfl fun a hF => ?_
          refine q_skip hF (wanted_f hF rfl rfl rfl rfl rfl) rfl fun a hF => ?_
          refine q_x (v := (.bool false)) hF hS (ex_pick_f rfl rfl rfl) rfl rfl fun a hF => ?_
          refine q_x (v := (.bool false)) hF hS (ex_assign rfl) rfl rfl fun a hF => ?_
          refine q_end (n_jn ?_)
          obtain rfl := someI hj1
          exact ⟨hF.sub ⟨rfl, trivial⟩, hS.mask [false]⟩
        · have hj1 := cond_t hc4 hj1
          refine q_xg (v := (.pointer (some ⟨b1, 0, none⟩))) hF hS (ex_fieldAddr Try.underlying24 rfl sz3 rfl rfl) (wanted_t hF rfl rfl rfl hc4) rfl fun a hF => ?_
          refine q_xg (v := (.int .i64 p_f.Num)) hF hS (ex_load1 0 0 Try.underlying3 rfl rfl rfl rfl) (wanted_t hF rfl rfl rfl hc4) rfl fun a hF => ?_
          refine q_xg (v := (.bool (decide (p_f.Num ≤ 1000000000)))) hF hS (ex_ibin rfl rfl rfl) (wanted_t hF rfl rfl rfl hc4) rfl fun a hF => ?_
          refine q_x (v := (.bool (decide (p_f.Num ≤ 1000000000)))) hF hS (ex_pick_t rfl rfl hc4) rfl rfl fun a hF => ?_
          refine q_x (v := (.bool (decide (p_f.Num ≤ 1000000000)))) hF hS (ex_move rfl) rfl rfl fun a hF => ?_
          rcases bcase (decide (p_f.Num ≤ 1000000000)) with hc5 | hc5
          · have hj1 := cond_f hc5 hj1
            refine q_skip hF (wanted_f hF rfl rfl rfl hc5 rfl) rfl fun a hF => ?_
            refine q_skip hF (wanted_f hF rfl rfl rfl hc5 rfl) rfl fun a hF => ?_
            refine q_skip hF (wanted_f hF rfl rfl rfl hc5 rfl) rfl fun a hF => ?_
            refine q_skip hF (wanted_f hF rfl rfl rfl hc5 rfl) rfl fun a hF => ?_
            refine q_skip hF (wanted_f hF rfl rfl rfl hc5 rfl) rfl fun a hF => ?_
            refine q_skip hF (wanted_f hF rfl rfl rfl hc5 rfl) rfl fun a hF => ?_
            refine q_x (v := (.bool false)) hF hS (ex_pick_f rfl rfl hc5) rfl rfl fun a hF => ?_
            refine q_x (v := (.bool false)) hF hS (ex_assign rfl) rfl rfl fun a hF => ?_
            refine q_end (n_jn ?_)
            obtain rfl := someI hj1
            exact ⟨hF.sub ⟨rfl, trivial⟩, hS.mask [false]⟩
          · have hj1 := cond_t hc5 hj1
            refine q_xg (v := (.pointer (some ⟨b1, 0, none⟩))) hF hS (ex_fieldAddr Try.underlying24 rfl sz3 rfl rfl) (wanted_t hF rfl rfl rfl hc5) rfl fun a hF => ?_
            refine q_xg (v := (.int .i64 p_f.Num)) hF hS (ex_load1 0 0 Try.underlying3 rfl rfl rfl rfl) (wanted_t hF rfl rfl rfl hc5) rfl fun a hF => ?_
            refine q_xg (v := (.pointer (some ⟨b1, 1, none⟩))) hF hS (ex_fieldAddr Try.underlying24 rfl sz3 rfl rfl) (wanted_t hF rfl rfl rfl hc5) rfl fun a hF => ?_
            refine q_xg (v := (.int .i64 p_f.Den)) hF hS (ex_load1 0 0 Try.underlying3 rfl rfl rfl rfl) (wanted_t hF rfl rfl rfl hc5) rfl fun a hF => ?_
            obtain ⟨t_2, ht_2, hj1⟩ := bindS hj1
            refine q_callg (vs := [(.int .i64 p_f.Num), (.int .i64 p_f.Den)]) hF hS (wanted_t hF rfl rfl rfl hc5) Try.func157 (by kernel_rfl) rfl rfl rfl (c_impl_gcdOf p_f.Num p_f.Den t_2 ht_2 _ m hS.vis) ?_
            rintro a w _ rfl hF hS
            refine q_xg (v := (.bool (t_2 == 1))) hF hS (ex_ibin rfl rfl rfl) (wanted_t hF rfl rfl rfl hc5) rfl fun a hF => ?_
            refine q_x (v := (.bool (t_2 == 1))) hF hS (ex_pick_t rfl rfl hc5) rfl rfl fun a hF => ?_
            refine q_x (v := (.bool (t_2 == 1))) hF hS (ex_assign rfl) rfl rfl fun a hF => ?_
            refine q_end (n_jn ?_)
            obtain rfl := someI hj1
            exact ⟨hF.sub ⟨rfl, trivial⟩, hS.mask [false]⟩
  · rintro a w ⟨hF, hS⟩
    refine n_sq (q_ret ?_)
    obtain rfl := someI hr
    exact ret_of hF hS rfl (.tmp rfl .nil) rfl

theorem c_impl_isRatio (p_a : impl_Frac) (r : Bool) (hr : impl_isRatio p_a = some r) (w0 : World) (m : Mem) (hv : Vis m w0) :
    Ret Try.prog 120 [(.agg #[(.int .i64 p_a.Num), (.int .i64 p_a.Den)])] w0 (fun v _ => v = (.bool r)) := by
  unfold impl_isRatio at hr
  refine ret_start Try.func120 rfl 17 rfl rfl m hv fun a hF hS => ?_
  refine q_seq ?_
  refine q_region ?_
  refine q_box (cs := [(.int .i64 p_a.Num), (.int .i64 p_a.Den)]) hF hS rfl rfl rfl fun a w b1 hF hS => ?_
  refine q_x (v := (.bool false)) hF hS (ex_assign rfl) rfl rfl fun a hF => ?_
  refine q_end (n_sq ?_)
  refine q_seq ?_
  obtain ⟨t_3, hj1, hr⟩ := bindS hr
  refine q_join (fun a w => Fr a 17 [(2, (.bool t_3))] ∧ St [] w0 w m []) ?_ ?_
  · refine q_region ?_
    refine q_x (v := (.agg #[(.int .i64 p_a.Num), (.int .i64 p_a.Den)])) hF hS (ex_loadA (vs := [(.int .i64 p_a.Num), (.int .i64 p_a.Den)]) 0 0 Try.underlying24 rfl sz24 rfl rfl rfl rfl) rfl rfl fun a hF => ?_
    obtain ⟨t_2, ht_2, hj1⟩ := bindS hj1
    refine q_call (vs := [(.agg #[(.int .i64 p_a.Num), (.int .i64 p_a.Den)])]) hF hS Try.func94 (by kernel_rfl) rfl rfl rfl (c_impl_IsFrac p_a t_2 ht_2 _ m hS.vis) ?_
    rintro a w _ rfl hF hS
    refine q_x (v := (.bool t_2)) hF hS (ex_move rfl) rfl rfl fun a hF => ?_
    rcases bcase (t_2) with hc2 | hc2
    · have hj1 := cond_f hc2 hj1
      refine q_skip hF (wanted_f hF rfl rfl rfl hc2 rfl) rfl fun a hF => ?_
      refine q_skip hF (wanted_f hF rfl rfl rfl hc2 rfl) rfl fun a hF => ?_
      refine q_skip hF (wanted_f hF rfl rfl rfl hc2 rfl) rfl fun a hF => ?_
      refine q_x (v := (.bool false)) hF hS (ex_pick_f rfl rfl hc2) rfl rfl fun a hF => ?_
      refine q_x (v := (.bool false)) hF hS (ex_move rfl) rfl rfl fun a hF => ?_
      refine q_skip hF (wanted_f hF rfl rfl rfl rfl rfl) rfl fun a hF => ?_
      refine q_skip hF (wanted_f hF rfl rfl rfl rfl rfl) rfl fun a hF => ?_
      refine q_skip hF (wanted_f hF rfl rfl rfl rfl rfl) rfl fun a hF => ?_
      refine q_skip hF (wanted_f hF rfl rfl rfl rfl rfl) rfl fun a hF => ?_
      refine q_skip hF (wanted_f hF rfl rfl rfl rfl rfl) rfl fun a hF => ?_
      refine q_x (v := (.bool false)) hF hS (ex_pick_f rfl rfl rfl) rfl rfl fun a hF => ?_
      refine q_x (v := (.bool false)) hF hS (ex_assign rfl) rfl rfl fun a hF => ?_
      refine q_end (n_jn ?_)
      obtain rfl := someI hj1
      exact ⟨hF.sub ⟨rfl, trivial⟩, hS.mask [false]⟩
    · have hj1 := cond_t hc2 hj1
      refine q_xg (v := (.pointer (some ⟨b1, 0, none⟩))) hF hS (ex_fieldAddr Try.underlying24 rfl sz3 rfl rfl) (wanted_t hF rfl rfl rfl hc2) rfl fun a hF => ?_
      refine q_xg (v := (.int .i64 p_a.Num)) hF hS (ex_load1 0 0 Try.underlying3 rfl rfl rfl rfl) (wanted_t hF rfl rfl rfl hc2) rfl fun a hF => ?_
      refine q_xg (v := (.bool (decide (0 < p_a.Num)))) hF hS (ex_ibin rfl rfl rfl) (wanted_t hF rfl rfl rfl hc2) rfl fun a hF => ?_
      refine q_x (v := (.bool (decide (0 < p_a.Num)))) hF hS (ex_pick_t rfl rfl hc2) rfl rfl fun a hF => ?_
      refine q_x (v := (.bool (decide (0 < p_a.Num)))) hF hS (ex_move rfl) rfl rfl fun a hF => ?_
      rcases bcase (decide (0 < p_a.Num)) with hc3 | hc3
      · have hj1 := cond_f hc3 hj1
        refine q_skip hF (wanted_f hF rfl rfl rfl hc3 rfl) rfl fun a hF => ?_
        refine q_skip hF (wanted_f hF rfl rfl rfl hc3 rfl) rfl fun a hF => ?_
        refine q_skip hF (wanted_f hF rfl rfl rfl hc3 rfl) rfl fun a hF => ?_
        refine q_skip hF (wanted_f hF rfl rfl rfl hc3 rfl) rfl fun a hF => ?_
        refine q_skip hF (wanted_f hF rfl rfl rfl hc3 rfl) rfl fun a hF => ?_
        refine q_x (v := (.bool false)) hF hS (ex_pick_f rfl rfl hc3) rfl rfl fun a hF => ?_
        refine q_x (v := (.bool false)) hF hS (ex_assign rfl) rfl rfl fun a hF => ?_
        refine q_end (n_jn ?_)
        obtain rfl := someI hj1
        exact ⟨hF.sub ⟨rfl, trivial⟩, hS.mask [false]⟩
      · have hj1 := cond_t hc3 hj1
        refine q_xg (v := (.pointer (some ⟨b1, 0, none⟩))) hF hS (ex_fieldAddr Try.underlying24 rfl sz3 rfl rfl) (wanted_t hF rfl rfl rfl hc3) rfl fun a hF => ?_
        refine q_xg (v := (.int .i64 p_a.Num)) hF hS (ex_load1 0 0 Try.underlying3 rfl rfl rfl rfl) (wanted_t hF rfl rfl rfl hc3) rfl fun a hF => ?_
        refine q_xg (v := (.pointer (some ⟨b1, 1, none⟩))) hF hS (ex_fieldAddr Try.underlying24 rfl sz3 rfl rfl) (wanted_t hF rfl rfl rfl hc3) rfl fun a hF => ?_
        refine q_xg (v := (.int .i64 p_a.Den)) hF hS (ex_load1 0 0 Try.underlying3 rfl rfl rfl rfl) (wanted_t hF rfl rfl rfl hc3) rfl fun a hF => ?_
        refine q_xg (v := (.bool (decide (p_a.Num < p_a.Den)))) hF hS (ex_ibin rfl rfl rfl) (wanted_t hF rfl rfl rfl hc3) rfl fun a hF => ?_
        refine q_x (v := (.bool (decide (p_a.Num < p_a.Den)))) hF hS (ex_pick_t rfl rfl hc3) rfl rfl fun a hF => ?_
        refine q_x (v := (.bool (decide (p_a.Num < p_a.Den)))) hF hS (ex_assign rfl) rfl rfl fun a hF => ?_
        refine q_end (n_jn ?_)
        obtain rfl := someI hj1
        exact ⟨hF.sub ⟨rfl, trivial⟩, hS.mask [false]⟩
  · rintro a w ⟨hF, hS⟩
    refine n_sq (q_ret ?_)
    obtain rfl := someI hr
    exact ret_of hF hS rfl (.tmp rfl .nil) rfl

theorem c_impl_isClamp (p_lo : Int) (p_hi : Int) (r : Bool) (hr : impl_isClamp p_lo p_hi = some r) (w0 : World) (m : Mem) (hv : Vis m w0) :
    Ret Try.prog 121 [(.int .i64 p_lo), (.int .i64 p_hi)] w0 (fun v _ => v = (.bool r)) := by
  unfold impl_isClamp at hr
  refine ret_start Try.func121 rfl 22 rfl rfl m hv fun a hF hS => ?_
  refine q_seq ?_
  refine q_region ?_
  refine q_x (v := (.bool false)) hF hS (ex_assign rfl) rfl rfl fun a hF => ?_
  refine q_end (n_sq ?_)
  refine q_seq ?_
  obtain ⟨t_1, hj1, hr⟩ := bindS hr
  refine q_join (fun a w => Fr a 22 [(4, (.bool t_1))] ∧ St [] w0 w m []) ?_ ?_
  · refine q_region ?_
    refine q_x (v := (.int .i64 p_lo)) hF hS (ex_move rfl) rfl rfl fun a hF => ?_
    refine q_x (v := (.bool (decide ((-1000000000) ≤ p_lo)))) hF hS (ex_ibin rfl rfl rfl) rfl rfl fun a hF => ?_
    refine q_x (v := (.bool (decide ((-1000000000) ≤ p_lo)))) hF hS (ex_move rfl) rfl rfl fun a hF => ?_
    rcases bcase (decide ((-1000000000) ≤ p_lo)) with hc2 | hc2
    · have hj1 := cond_f hc2 hj1
      refine q_skip hF (wanted_f hF rfl rfl rfl hc2 rfl) rfl fun a hF => ?_
      refine q_skip hF (wanted_f hF rfl rfl rfl hc2 rfl) rfl fun a hF => ?_
      refine q_skip hF (wanted_f hF rfl rfl rfl hc2 rfl) rfl fun a hF => ?_
      refine q_x (v := (.bool false)) hF hS (ex_pick_f rfl rfl hc2) rfl rfl fun a hF => ?_
      refine q_x (v := (.bool false)) hF hS (ex_move rfl) rfl rfl fun a hF => ?_
      refine q_skip hF (wanted_f hF rfl rfl rfl rfl rfl) rfl fun a hF => ?_
      refine q_skip hF (wanted_f hF rfl rfl rfl rfl rfl) rfl fun a hF => ?_
      refine q_x (v := (.bool false)) hF hS (ex_pick_f rfl rfl rfl) rfl rfl fun a hF => ?_
      refine q_x (v := (.bool false)) hF hS (ex_move rfl) rfl rfl fun a hF => ?_
      refine q_skip hF (wanted_f hF rfl rfl rfl rfl rfl) rfl fun a hF => ?_
      refine q_skip hF (wanted_f hF rfl rfl rfl rfl rfl) rfl fun a hF => ?_
      refine q_skip hF (wanted_f hF rfl rfl rfl rfl rfl) rfl fun a hF => ?_
      refine q_skip hF (wanted_f hF rfl rfl rfl rfl rfl) rfl fun a hF => ?_
      refine q_x (v := (.bool false)) hF hS (ex_pick_f rfl rfl rfl) rfl rfl fun a hF => ?_
      refine q_x (v := (.bool false)) hF hS (ex_assign rfl) rfl rfl fun a hF => ?_
      refine q_end (n_jn ?_)
      obtain rfl := someI hj1
      exact ⟨hF.sub ⟨rfl, trivial⟩, hS⟩
    · have hj1 := cond_t hc2 hj1
      refine q_xg (v := (.int .i64 p_lo)) hF hS (ex_move rfl) (wanted_t hF rfl rfl rfl hc2) rfl fun a hF => ?_
      refine q_xg (v := (.int .i64 p_hi)) hF hS (ex_move rfl) (wanted_t hF rfl rfl rfl hc2) rfl fun a hF => ?_
      refine q_xg (v := (.bool (decide (p_lo ≤ p_hi)))) hF hS (ex_ibin rfl rfl rfl) (wanted_t hF rfl rfl rfl hc2) rfl fun a hF => ?_
      refine q_x (v := (.bool (decide (p_lo ≤ p_hi)))) hF hS (ex_pick_t rfl rfl hc2) rfl rfl fun a hF => ?_
      refine q_x (v := (.bool (decide (p_lo ≤ p_hi)))) hF hS (ex_move rfl) rfl rfl fun a hF => ?_
      rcases bcase (decide (p_lo ≤ p_hi)) with hc3 | hc3
      · have hj1 := cond_f hc3 hj1
        refine q_skip hF (wanted_f hF rfl rfl rfl hc3 rfl) rfl fun a hF => ?_
        refine q_skip hF (wanted_f hF rfl rfl rfl hc3 rfl) rfl fun a hF => ?_
        refine q_x (v := (.bool false)) hF hS (ex_pick_f rfl rfl hc3) rfl rfl fun a hF => ?_
        refine q_x (v := (.bool false)) hF hS (ex_move rfl) rfl rfl fun a hF => ?_
        refine q_skip hF (wanted_f hF rfl rfl rfl rfl rfl) rfl fun a hF => ?_
        refine q_skip hF (wanted_f hF rfl rfl rfl rfl rfl) rfl fun a hF => ?_
        refine q_skip hF (wanted_f hF rfl rfl rfl rfl rfl) rfl fun a hF => ?_
        refine q_skip hF (wanted_f hF rfl rfl rfl rfl rfl) rfl fun a hF => ?_
        refine q_x (v := (.bool false)) hF hS (ex_pick_f rfl rfl rfl) rfl rfl fun a hF => ?_
        refine q_x (v := (.bool false)) hF hS (ex_assign rfl) rfl rfl fun a hF => ?_
        refine q_end (n_jn ?_)
        obtain rfl := someI hj1
        exact ⟨hF.sub ⟨rfl, trivial⟩, hS⟩
      · have hj1 := cond_t hc3 hj1
        refine q_xg (v := (.int .i64 p_hi)) hF hS (ex_move rfl) (wanted_t hF rfl rfl rfl hc3) rfl fun a hF => ?_
        refine q_xg (v := (.bool (decide (p_hi ≤ 1000000000)))) hF hS (ex_ibin rfl rfl rfl) (wanted_t hF rfl rfl rfl hc3) rfl fun a hF => ?_
        refine q_x (v := (.bool (decide (p_hi ≤ 1000000000)))) hF hS (ex_pick_t rfl rfl hc3) rfl rfl fun a hF => ?_
        refine q_x (v := (.bool (decide (p_hi ≤ 1000000000)))) hF hS (ex_move rfl) rfl rfl fun a hF => ?_
        rcases bcase (decide (p_hi ≤ 1000000000)) with hc4 | hc4
        · have hj1 := cond_f hc4 hj1
          refine q_skip hF (wanted_f hF rfl rfl rfl hc4 rfl) rfl fun a hF => ?_
          refine q_skip hF (wanted_f hF rfl rfl rfl hc4 rfl) rfl fun a hF => ?_
          refine q_skip hF (wanted_f hF rfl rfl rfl hc4 rfl) rfl fun a hF => ?_
          refine q_skip hF (wanted_f hF rfl rfl rfl hc4 rfl) rfl fun a hF => ?_
          refine q_x (v := (.bool false)) hF hS (ex_pick_f rfl rfl hc4) rfl rfl fun a hF => ?_
          refine q_x (v := (.bool false)) hF hS (ex_assign rfl) rfl rfl fun a hF => ?_
          refine q_end (n_jn ?_)
          obtain rfl := someI hj1
          exact ⟨hF.sub ⟨rfl, trivial⟩, hS⟩
        · have hj1 := cond_t hc4 hj1
          refine q_xg (v := (.int .i64 p_hi)) hF hS (ex_move rfl) (wanted_t hF rfl rfl rfl hc4) rfl fun a hF => ?_
          refine q_xg (v := (.int .i64 p_lo)) hF hS (ex_move rfl) (wanted_t hF rfl rfl rfl hc4) rfl fun a hF => ?_
          refine q_xg (v := (.int .i64 (w64 (p_hi - p_lo)))) hF hS (ex_ibin rfl rfl rfl) (wanted_t hF rfl rfl rfl hc4) rfl fun a hF => ?_
          refine q_xg (v := (.bool (decide ((w64 (p_hi - p_lo)) ≤ 12)))) hF hS (ex_ibin rfl rfl rfl) (wanted_t hF rfl rfl rfl hc4) rfl fun a hF => ?_
          refine q_x (v := (.bool (decide ((w64 (p_hi - p_lo)) ≤ 12)))) hF hS (ex_pick_t rfl rfl hc4) rfl rfl fun a hF => ?_
          refine q_x (v := (.bool (decide ((w64 (p_hi - p_lo)) ≤ 12)))) hF hS (ex_assign rfl) rfl rfl fun a hF => ?_
          refine q_end (n_jn ?_)
          obtain rfl := someI hj1
          exact ⟨hF.sub ⟨rfl, trivial⟩, hS⟩
  · rintro a w ⟨hF, hS⟩
    refine n_sq (q_ret ?_)
    obtain rfl := someI hr
    exact ret_of hF hS rfl (.tmp rfl .nil) rfl

theorem c_impl_reduced (p_n : Int) (p_d : Int) (r : impl_Frac × Bool) (hr : impl_reduced p_n p_d = some r) (w0 : World) (m : Mem) (hv : Vis m w0) :
    Ret Try.prog 114 [(.int .i64 p_n), (.int .i64 p_d)] w0 (fun v _ => v = (.tuple #[(.agg #[(.int .i64 r.1.Num), (.int .i64 r.1.Den)]), (.bool r.2)])) := by
  unfold impl_reduced at hr
  refine ret_start Try.func114 rfl 36 rfl rfl m hv fun a hF hS => ?_
  refine q_seq ?_
  refine q_region ?_
  refine q_alloc (cs := [(.int .i64 0), (.int .i64 0)]) hF hS rfl rfl rfl fun a w b1 hF hS => ?_
  refine q_x (v := (.bool false)) hF hS (ex_assign rfl) rfl rfl fun a hF => ?_
  refine q_end (n_sq ?_)
  refine q_seq ?_
  refine q_region ?_
  refine q_x (v := (.int .i64 p_n)) hF hS (ex_move rfl) rfl rfl fun a hF => ?_
  refine q_x (v := (.int .i64 p_d)) hF hS (ex_move rfl) rfl rfl fun a hF => ?_
  obtain ⟨t_2, ht_2, hr⟩ := bindS hr
  refine q_call (vs := [(.int .i64 p_n), (.int .i64 p_d)]) hF hS Try.func157 (by kernel_rfl) rfl rfl rfl (c_impl_gcdOf p_n p_d t_2 ht_2 _ m hS.vis) ?_
  rintro a w _ rfl hF hS
  refine q_x (v := (.int .i64 t_2)) hF hS (ex_assign rfl) rfl rfl fun a hF => ?_
  refine q_end (n_sq ?_)
  refine q_seq ?_
  refine e_region [] mixed fun w' hw' => ?_
  have hS := hS.below hw'
  refine e_p (v := (.int .i64 p_n)) 0 hF rfl (ex_move rfl) rfl rfl (by kernel_rfl) (by kernel_rfl) (by kernel_rfl) fun a hF => ?_
  refine e_p (v := (.int .i64 t_2)) 1 hF rfl (ex_move rfl) rfl rfl (by kernel_rfl) (by kernel_rfl) (by kernel_rfl) fun a hF => ?_
  obtain ⟨t_3, ht_3, hr⟩ := bindS hr
  refine e_p (v := (.int .i64 t_3)) 2 hF rfl (ex_quo rfl rfl ht_3) rfl rfl (by kernel_rfl) (by kernel_rfl) (by kernel_rfl) fun a hF => ?_
  refine e_p (v := (.int .i64 p_d)) 3 hF rfl (ex_move rfl) rfl rfl (by kernel_rfl) (by kernel_rfl) (by kernel_rfl) fun a hF => ?_
  refine e_p (v := (.int .i64 t_2)) 4 hF rfl (ex_move rfl) rfl rfl (by kernel_rfl) (by kernel_rfl) (by kernel_rfl) fun a hF => ?_
  obtain ⟨t_4, ht_4, hr⟩ := bindS hr
  refine e_p (v := (.int .i64 t_4)) 5 hF rfl (ex_quo rfl rfl ht_4) rfl rfl (by kernel_rfl) (by kernel_rfl) (by kernel_rfl) fun a hF => ?_
  refine e_p (v := (.int .i64 t_3)) 6 hF rfl (ex_assign rfl) rfl rfl (by kernel_rfl) (by kernel_rfl) (by kernel_rfl) fun a hF => ?_
  refine e_p (v := (.int .i64 t_4)) 7 hF rfl (ex_assign rfl) rfl rfl (by kernel_rfl) (by kernel_rfl) (by kernel_rfl) fun a hF => ?_
  refine e_end (by kernel_rfl) (n_sq ?_) _
  refine q_seq ?_
  refine q_seq ?_
  refine q_region ?_
  refine q_x (v := (.int .i64 t_4)) hF hS (ex_move rfl) rfl rfl fun a hF => ?_
  refine q_x (v := (.bool (decide (t_4 < 0)))) hF hS (ex_ibin rfl rfl rfl) rfl rfl fun a hF => ?_
  refine q_end (n_sq ?_)
  obtain ⟨j1, hj1, hr⟩ := bindS hr
  refine q_join (fun a w => ∃ n_5, ∃ d_6, j1 = (n_5, d_6) ∧ Fr a 36 [(0, (.int .i64 n_5)), (1, (.int .i64 d_6)), (4, (.pointer (some ⟨b1, 0, none⟩)))] ∧ St [] w0 w m [[⟨b1, [(.int .i64 0), (.int .i64 0)], 24⟩]]) ?_ ?_
  · rcases bcase (decide (t_4 < 0)) with hc2 | hc2
    · have hj1 := cond_f hc2 hj1
      refine q_cond_f hF rfl hc2 ?_
      refine q_skipc (n_jn ?_)
      obtain rfl := someI hj1
      exact ⟨_, _, rfl, hF.sub ⟨rfl, rfl, rfl, trivial⟩, hS⟩
    · have hj1 := cond_t hc2 hj1
      refine q_cond_t hF rfl hc2 ?_
      refine q_region ?_
      refine q_x (v := (.int .i64 t_3)) hF hS (ex_move rfl) rfl rfl fun a hF => ?_
      refine q_x (v := (.int .i64 (w64 (-t_3)))) hF hS (ex_neg rfl) rfl rfl fun a hF => ?_
      refine q_x (v := (.int .i64 t_4)) hF hS (ex_move rfl) rfl rfl fun a hF => ?_
      refine q_x (v := (.int .i64 (w64 (-t_4)))) hF hS (ex_neg rfl) rfl rfl fun a hF => ?_
      refine q_x (v := (.int .i64 (w64 (-t_3)))) hF hS (ex_assign rfl) rfl rfl fun a hF => ?_
      refine q_x (v := (.int .i64 (w64 (-t_4)))) hF hS (ex_assign rfl) rfl rfl fun a hF => ?_
      refine q_end (n_jn ?_)
      obtain rfl := someI hj1
      exact ⟨_, _, rfl, hF.sub ⟨rfl, rfl, rfl, trivial⟩, hS⟩
  · rintro a w ⟨n_5, d_6, rfl, hF, hS⟩
    refine n_sq ?_
    refine q_seq ?_
    refine q_seq ?_
    obtain ⟨t_7, hj3, hr⟩ := bindS hr
    refine q_join (fun a w => Fr a 36 [(0, (.int .i64 n_5)), (1, (.int .i64 d_6)), (4, (.pointer (some ⟨b1, 0, none⟩))), (31, (.bool t_7))] ∧ St [] w0 w m [[⟨b1, [(.int .i64 0), (.int .i64 0)], 24⟩]]) ?_ ?_
    · refine q_region ?_
      refine q_x (v := (.int .i64 n_5)) hF hS (ex_move rfl) rfl rfl fun a hF => ?_
      refine q_x (v := (.bool (decide (1000000000 < n_5)))) hF hS (ex_ibin rfl rfl rfl) rfl rfl fun a hF => ?_
      refine q_x (v := (.bool (decide (1000000000 < n_5)))) hF hS (ex_move rfl) rfl rfl fun a hF => ?_
      rcases bcase (decide (1000000000 < n_5)) with hc4 | hc4
      · have hj3 := cond_f hc4 hj3
        refine q_xg (v := (.int .i64 n_5)) hF hS (ex_move rfl) (wanted_t hF rfl rfl rfl hc4) rfl fun a hF => ?_
        refine q_xg (v := (.bool (decide (n_5 < (-1000000000))))) hF hS (ex_ibin rfl rfl rfl) (wanted_t hF rfl rfl rfl hc4) rfl fun a hF => ?_
        refine q_x (v := (.bool (decide (n_5 < (-1000000000))))) hF hS (ex_pick_f rfl rfl hc4) rfl rfl fun a hF => ?_
        refine q_x (v := (.bool (decide (n_5 < (-1000000000))))) hF hS (ex_move rfl) rfl rfl fun a hF => ?_
        rcases bcase (decide (n_5 < (-1000000000))) with hc5 | hc5
        · have hj3 := cond_f hc5 hj3
          refine q_xg (v := (.int .i64 d_6)) hF hS (ex_move rfl) (wanted_t hF rfl rfl rfl hc5) rfl fun a hF => ?_
          refine q_xg (v := (.bool (decide (1000000000 < d_6)))) hF hS (ex_ibin rfl rfl rfl) (wanted_t hF rfl rfl rfl hc5) rfl fun a hF => ?_
          refine q_x (v := (.bool (decide (1000000000 < d_6)))) hF hS (ex_pick_f rfl rfl hc5) rfl rfl fun a hF => ?_
          refine q_end (n_jn ?_)
          obtain rfl := someI hj3
          exact ⟨hF.sub ⟨rfl, rfl, rfl, rfl, trivial⟩, hS⟩
        · have hj3 := cond_t hc5 hj3
          refine q_skip hF (wanted_f hF rfl rfl rfl hc5 rfl) rfl fun a hF => ?_
          refine q_skip hF (wanted_f hF rfl rfl rfl hc5 rfl) rfl fun a hF => ?_
          refine q_x (v := (.bool true)) hF hS (ex_pick_t rfl rfl hc5) rfl rfl fun a hF => ?_
          refine q_end (n_jn ?_)
          obtain rfl := someI hj3
          exact ⟨hF.sub ⟨rfl, rfl, rfl, rfl, trivial⟩, hS⟩
      · have hj3 := cond_t hc4 hj3
        refine q_skip hF (wanted_f hF rfl rfl rfl hc4 rfl) rfl fun a hF => ?_
        refine q_skip hF (wanted_f hF rfl rfl rfl hc4 rfl) rfl fun a hF => ?_
        refine q_x (v := (.bool true)) hF hS (ex_pick_t rfl rfl hc4) rfl rfl fun a hF => ?_
        refine q_x (v := (.bool true)) hF hS (ex_move rfl) rfl rfl fun a hF => ?_
        refine q_skip hF (wanted_f hF rfl rfl rfl rfl rfl) rfl fun a hF => ?_
        refine q_skip hF (wanted_f hF rfl rfl rfl rfl rfl) rfl fun a hF => ?_
        refine q_x (v := (.bool true)) hF hS (ex_pick_t rfl rfl rfl) rfl rfl fun a hF => ?_
        refine q_end (n_jn ?_)
        obtain rfl := someI hj3
        exact ⟨hF.sub ⟨rfl, rfl, rfl, rfl, trivial⟩, hS⟩
    · rintro a w ⟨hF, hS⟩
      refine n_sq ?_
      rcases bcase (t_7) with hc6 | hc6
      · have hr := cond_f hc6 hr
        refine q_cond_f hF rfl hc6 ?_
        refine q_skipc (n_sq ?_)
        refine q_seq ?_
        refine q_region ?_
        refine q_x (v := (.int .i64 n_5)) hF hS (ex_move rfl) rfl rfl fun a hF => ?_
        refine q_x (v := (.int .i64 d_6)) hF hS (ex_move rfl) rfl rfl fun a hF => ?_
        refine q_x (v := (.agg #[(.int .i64 n_5), (.int .i64 d_6)])) hF hS (ex_build (cells := [(.int .i64 n_5), (.int .i64 d_6)]) rfl (by kernel_rfl)) rfl rfl fun a hF => ?_
        refine q_store (vs := [(.int .i64 n_5), (.int .i64 d_6)]) (cs' := [(.int .i64 n_5), (.int .i64 d_6)]) 0 0 hF hS sz24 rfl rfl rfl rfl rfl rfl rfl rfl fun a w hF hS => ?_
        refine q_x (v := (.bool true)) hF hS (ex_assign rfl) rfl rfl fun a hF => ?_
        refine q_end (n_sq (q_ret ?_))
        obtain rfl := someI hr
        exact ret_of hF hS rfl (.cellA (us := [(.int .i64 n_5), (.int .i64 d_6)]) 0 0 Try.underlying24 rfl sz24 rfl rfl rfl rfl (.tmp rfl .nil)) rfl
      · have hr := cond_t hc6 hr
        refine q_cond_t hF rfl hc6 ?_
        refine q_seq ?_
        refine q_region ?_
        refine q_x (v := (.agg #[(.int .i64 0), (.int .i64 0)])) hF hS (ex_build (cells := [(.int .i64 0), (.int .i64 0)]) rfl (by kernel_rfl)) rfl rfl fun a hF => ?_
        refine q_store (vs := [(.int .i64 0), (.int .i64 0)]) (cs' := [(.int .i64 0), (.int .i64 0)]) 0 0 hF hS sz24 rfl rfl rfl rfl rfl rfl rfl rfl fun a w hF hS => ?_
        refine q_x (v := (.bool false)) hF hS (ex_assign rfl) rfl rfl fun a hF => ?_
        refine q_end (n_sq (q_ret (r_sq ?_)))
        obtain rfl := someI hr
        exact ret_of hF hS rfl (.cellA (us := [(.int .i64 0), (.int .i64 0)]) 0 0 Try.underlying24 rfl sz24 rfl rfl rfl rfl (.tmp rfl .nil)) rfl

theorem c_impl_MulFrac (p_a : impl_Frac) (p_b : impl_Frac) (r : impl_Frac × Bool) (hr : impl_MulFrac p_a p_b = some r) (w0 : World) (m : Mem) (hv : Vis m w0) :
    Ret Try.prog 103 [(.agg #[(.int .i64 p_a.Num), (.int .i64 p_a.Den)]), (.agg #[(.int .i64 p_b.Num), (.int .i64 p_b.Den)])] w0 (fun v _ => v = (.tuple #[(.agg #[(.int .i64 r.1.Num), (.int .i64 r.1.Den)]), (.bool r.2)])) := by
  unfold impl_MulFrac at hr
  refine ret_start Try.func103 rfl 28 rfl rfl m hv fun a hF hS => ?_
  refine q_seq ?_
  refine q_region ?_
  refine q_box (cs := [(.int .i64 p_a.Num), (.int .i64 p_a.Den)]) hF hS rfl rfl rfl fun a w b1 hF hS => ?_
  refine q_box (cs := [(.int .i64 p_b.Num), (.int .i64 p_b.Den)]) hF hS rfl rfl rfl fun a w b2 hF hS => ?_
  refine q_alloc (cs := [(.int .i64 0), (.int .i64 0)]) hF hS rfl rfl rfl fun a w b3 hF hS => ?_
  refine q_x (v := (.bool false)) hF hS (ex_assign rfl) rfl rfl fun a hF => ?_
  refine q_end (n_sq ?_)
  refine q_seq ?_
  refine q_seq ?_
  obtain ⟨t_6, hj1, hr⟩ := bindS hr
  refine q_join (fun a w => Fr a 28 [(2, (.pointer (some ⟨b1, 0, none⟩))), (3, (.pointer (some ⟨b2, 0, none⟩))), (4, (.pointer (some ⟨b3, 0, none⟩))), (13, (.bool t_6))] ∧ St [] w0 w m [[⟨b3, [(.int .i64 0), (.int .i64 0)], 24⟩], [⟨b2, [(.int .i64 p_b.Num), (.int .i64 p_b.Den)], 24⟩], [⟨b1, [(.int .i64 p_a.Num), (.int .i64 p_a.Den)], 24⟩]]) ?_ ?_
  · refine q_region ?_
    refine q_x (v := (.agg #[(.int .i64 p_a.Num), (.int .i64 p_a.Den)])) hF hS (ex_loadA (vs := [(.int .i64 p_a.Num), (.int .i64 p_a.Den)]) 2 0 Try.underlying24 rfl sz24 rfl rfl rfl rfl) rfl rfl fun a hF => ?_
    obtain ⟨t_4, ht_4, hj1⟩ := bindS hj1
    refine q_call (vs := [(.agg #[(.int .i64 p_a.Num), (.int .i64 p_a.Den)])]) hF hS Try.func94 (by kernel_rfl) rfl rfl rfl (c_impl_IsFrac p_a t_4 ht_4 _ m hS.vis) ?_
    rintro a w _ rfl hF hS
    refine q_x (v := (.bool (!t_4))) hF hS (ex_not rfl) rfl rfl fun a hF => ?_
    refine q_x (v := (.bool (!t_4))) hF hS (ex_move rfl) rfl rfl fun a hF => ?_
    rcases bcase (!t_4) with hc2 | hc2
    · have hj1 := cond_f hc2 hj1
      refine q_xg (v := (.agg #[(.int .i64 p_b.Num), (.int .i64 p_b.Den)])) hF hS (ex_loadA (vs := [(.int .i64 p_b.Num), (.int .i64 p_b.Den)]) 1 0 Try.underlying24 rfl sz24 rfl rfl rfl rfl) (wanted_t hF rfl rfl rfl hc2) rfl fun a hF => ?_
      obtain ⟨t_5, ht_5, hj1⟩ := bindS hj1
      refine q_callg (vs := [(.agg #[(.int .i64 p_b.Num), (.int .i64 p_b.Den)])]) hF hS (wanted_t hF rfl rfl rfl hc2) Try.func94 (by kernel_rfl) rfl rfl rfl (c_impl_IsFrac p_b t_5 ht_5 _ m hS.vis) ?_
      rintro a w _ rfl hF hS
      refine q_xg (v := (.bool (!t_5))) hF hS (ex_not rfl) (wanted_t hF rfl rfl rfl hc2) rfl fun a hF => ?_
      refine q_x (v := (.bool (!t_5))) hF hS (ex_pick_f rfl rfl hc2) rfl rfl fun a hF => ?_
      refine q_end (n_jn ?_)
      obtain rfl := someI hj1
      exact ⟨hF.sub ⟨rfl, rfl, rfl, rfl, trivial⟩, hS⟩
    · have hj1 := cond_t hc2 hj1
      refine q_skip hF (wanted_f hF rfl rfl rfl hc2 rfl) rfl fun a hF => ?_
      refine q_skip hF (wanted_f hF rfl rfl rfl hc2 rfl) rfl fun a hF => ?_
      refine q_skip hF (wanted_f hF rfl rfl rfl hc2 rfl) rfl fun a hF => ?_
      refine q_x (v := (.bool true)) hF hS (ex_pick_t rfl rfl hc2) rfl rfl fun a hF => ?_
      refine q_end (n_jn ?_)
      obtain rfl := someI hj1
      exact ⟨hF.sub ⟨rfl, rfl, rfl, rfl, trivial⟩, hS⟩
  · rintro a w ⟨hF, hS⟩
    refine n_sq ?_
    rcases bcase (t_6) with hc3 | hc3
    · have hr := cond_f hc3 hr
      refine q_cond_f hF rfl hc3 ?_
      refine q_skipc (n_sq ?_)
      refine q_seq ?_
      refine q_region ?_
      refine q_x (v := (.pointer (some ⟨b1, 0, none⟩))) hF hS (ex_fieldAddr Try.underlying24 rfl sz3 rfl rfl) rfl rfl fun a hF => ?_
      refine q_x (v := (.int .i64 p_a.Num)) hF hS (ex_load1 2 0 Try.underlying3 rfl rfl rfl rfl) rfl rfl fun a hF => ?_
      refine q_x (v := (.pointer (some ⟨b2, 0, none⟩))) hF hS (ex_fieldAddr Try.underlying24 rfl sz3 rfl rfl) rfl rfl fun a hF => ?_
      refine q_x (v := (.int .i64 p_b.Num)) hF hS (ex_load1 1 0 Try.underlying3 rfl rfl rfl rfl) rfl rfl fun a hF => ?_
      refine q_x (v := (.int .i64 (w64 (p_a.Num * p_b.Num)))) hF hS (ex_ibin rfl rfl rfl) rfl rfl fun a hF => ?_
      refine q_x (v := (.pointer (some ⟨b1, 1, none⟩))) hF hS (ex_fieldAddr Try.underlying24 rfl sz3 rfl rfl) rfl rfl fun a hF => ?_
      refine q_x (v := (.int .i64 p_a.Den)) hF hS (ex_load1 2 0 Try.underlying3 rfl rfl rfl rfl) rfl rfl fun a hF => ?_
      refine q_x (v := (.pointer (some ⟨b2, 1, none⟩))) hF hS (ex_fieldAddr Try.underlying24 rfl sz3 rfl rfl) rfl rfl fun a hF => ?_
      refine q_x (v := (.int .i64 p_b.Den)) hF hS (ex_load1 1 0 Try.underlying3 rfl rfl rfl rfl) rfl rfl fun a hF => ?_
      refine q_x (v := (.int .i64 (w64 (p_a.Den * p_b.Den)))) hF hS (ex_ibin rfl rfl rfl) rfl rfl fun a hF => ?_
      obtain ⟨t_7, ht_7, hr⟩ := bindS hr
      refine q_call (vs := [(.int .i64 (w64 (p_a.Num * p_b.Num))), (.int .i64 (w64 (p_a.Den * p_b.Den)))]) hF hS Try.func114 (by kernel_rfl) rfl rfl rfl (c_impl_reduced (w64 (p_a.Num * p_b.Num)) (w64 (p_a.Den * p_b.Den)) t_7 ht_7 _ m hS.vis) ?_
      rintro a w _ rfl hF hS
      refine q_x (v := (.agg #[(.int .i64 t_7.1.Num), (.int .i64 t_7.1.Den)])) hF hS (ex_extract rfl rfl) rfl rfl fun a hF => ?_
      refine q_x (v := (.bool t_7.2)) hF hS (ex_extract rfl rfl) rfl rfl fun a hF => ?_
      refine q_store (vs := [(.int .i64 t_7.1.Num), (.int .i64 t_7.1.Den)]) (cs' := [(.int .i64 t_7.1.Num), (.int .i64 t_7.1.Den)]) 0 0 hF hS sz24 rfl rfl rfl rfl rfl rfl rfl rfl fun a w hF hS => ?_
      refine q_x (v := (.bool t_7.2)) hF hS (ex_assign rfl) rfl rfl fun a hF => ?_
      refine q_end (n_sq (q_ret ?_))
      obtain rfl := someI hr
      exact ret_of hF hS rfl (.cellA (us := [(.int .i64 t_7.1.Num), (.int .i64 t_7.1.Den)]) 0 0 Try.underlying24 rfl sz24 rfl rfl rfl rfl (.tmp rfl .nil)) rfl
    · have hr := cond_t hc3 hr
      refine q_cond_t hF rfl hc3 ?_
      refine q_seq ?_
      refine q_region ?_
      refine q_x (v := (.agg #[(.int .i64 0), (.int .i64 0)])) hF hS (ex_build (cells := [(.int .i64 0), (.int .i64 0)]) rfl (by kernel_rfl)) rfl rfl fun a hF => ?_
      refine q_store (vs := [(.int .i64 0), (.int .i64 0)]) (cs' := [(.int .i64 0), (.int .i64 0)]) 0 0 hF hS sz24 rfl rfl rfl rfl rfl rfl rfl rfl fun a w hF hS => ?_
      refine q_x (v := (.bool false)) hF hS (ex_assign rfl) rfl rfl fun a hF => ?_
      refine q_end (n_sq (q_ret (r_sq ?_)))
      obtain rfl := someI hr
      exact ret_of hF hS rfl (.cellA (us := [(.int .i64 0), (.int .i64 0)]) 0 0 Try.underlying24 rfl sz24 rfl rfl rfl rfl (.tmp rfl .nil)) rfl

theorem c_impl_PowFrac (p_f : impl_Frac) (p_k : Int) (r : impl_Frac × Bool) (hr : impl_PowFrac p_f p_k = some r) (w0 : World) (m : Mem) (hv : Vis m w0) :
    Ret Try.prog 102 [(.agg #[(.int .i64 p_f.Num), (.int .i64 p_f.Den)]), (.int .i64 p_k)] w0 (fun v _ => v = (.tuple #[(.agg #[(.int .i64 r.1.Num), (.int .i64 r.1.Den)]), (.bool r.2)])) := by
  unfold impl_PowFrac at hr
  refine ret_start Try.func102 rfl 37 rfl rfl m hv fun a hF hS => ?_
  refine q_seq ?_
  refine q_region ?_
  refine q_box (cs := [(.int .i64 p_f.Num), (.int .i64 p_f.Den)]) hF hS rfl rfl rfl fun a w b1 hF hS => ?_
  refine q_alloc (cs := [(.int .i64 0), (.int .i64 0)]) hF hS rfl rfl rfl fun a w b2 hF hS => ?_
  refine q_x (v := (.bool false)) hF hS (ex_assign rfl) rfl rfl fun a hF => ?_
  refine q_end (n_sq ?_)
  refine q_seq ?_
  refine q_seq ?_
  obtain ⟨t_4, hj1, hr⟩ := bindS hr
  refine q_join (fun a w => Fr a 37 [(1, (.int .i64 p_k)), (2, (.pointer (some ⟨b1, 0, none⟩))), (4, (.pointer (some ⟨b2, 0, none⟩))), (19, (.bool t_4))] ∧ St [] w0 w m [[⟨b2, [(.int .i64 0), (.int .i64 0)], 24⟩], [⟨b1, [(.int .i64 p_f.Num), (.int .i64 p_f.Den)], 24⟩]]) ?_ ?_
  · refine q_region ?_
    refine q_x (v := (.agg #[(.int .i64 p_f.Num), (.int .i64 p_f.Den)])) hF hS (ex_loadA (vs := [(.int .i64 p_f.Num), (.int .i64 p_f.Den)]) 1 0 Try.underlying24 rfl sz24 rfl rfl rfl rfl) rfl rfl fun a hF => ?_
    obtain ⟨t_3, ht_3, hj1⟩ := bindS hj1
    refine q_call (vs := [(.agg #[(.int .i64 p_f.Num), (.int .i64 p_f.Den)])]) hF hS Try.func94 (by kernel_rfl) rfl rfl rfl (c_impl_IsFrac p_f t_3 ht_3 _ m hS.vis) ?_
    rintro a w _ rfl hF hS
    refine q_x (v := (.bool (!t_3))) hF hS (ex_not rfl) rfl rfl fun a hF => ?_
    refine q_x (v := (.bool (!t_3))) hF hS (ex_move rfl) rfl rfl fun a hF => ?_
    rcases bcase (!t_3) with hc2 | hc2
    · have hj1 := cond_f hc2 hj1
      refine q_xg (v := (.int .i64 p_k)) hF hS (ex_move rfl) (wanted_t hF rfl rfl rfl hc2) rfl fun a hF => ?_
      refine q_xg (v := (.bool (decide (p_k < 0)))) hF hS (ex_ibin rfl rfl rfl) (wanted_t hF rfl rfl rfl hc2) rfl fun a hF => ?_
      refine q_x (v := (.bool (decide (p_k < 0)))) hF hS (ex_pick_f rfl rfl hc2) rfl rfl fun a hF => ?_
      refine q_x (v := (.bool (decide (p_k < 0)))) hF hS (ex_move rfl) rfl rfl fun a hF => ?_
      rcases bcase (decide (p_k < 0)) with hc3 | hc3
      · have hj1 := cond_f hc3 hj1
        refine q_xg (v := (.int .i64 p_k)) hF hS (ex_move rfl) (wanted_t hF rfl rfl rfl hc3) rfl fun a hF => ?_
        refine q_xg (v := (.bool (decide (60 < p_k)))) hF hS (ex_ibin rfl rfl rfl) (wanted_t hF rfl rfl rfl hc3) rfl fun a hF => ?_
        refine q_x (v := (.bool (decide (60 < p_k)))) hF hS (ex_pick_f rfl rfl hc3) rfl rfl fun a hF => ?_
        refine q_end (n_jn ?_)
        obtain rfl := someI hj1
        exact ⟨hF.sub ⟨rfl, rfl, rfl, rfl, trivial⟩, hS⟩
      · have hj1 := cond_t hc3 hj1
        refine q_skip hF (wanted_f hF rfl rfl rfl hc3 rfl) rfl fun a hF => ?_
        refine q_skip hF (wanted_f hF rfl rfl rfl hc3 rfl) rfl fun a hF => ?_
        refine q_x (v := (.bool true)) hF hS (ex_pick_t rfl rfl hc3) rfl rfl fun a hF => ?_
        refine q_end (n_jn ?_)
        obtain rfl := someI hj1
        exact ⟨hF.sub ⟨rfl, rfl, rfl, rfl, trivial⟩, hS⟩
    · have hj1 := cond_t hc2 hj1
      refine q_skip hF (wanted_f hF rfl rfl rfl hc2 rfl) rfl fun a hF => ?_
      refine q_skip hF (wanted_f hF rfl rfl rfl hc2 rfl) rfl fun a hF => ?_
      refine q_x (v := (.bool true)) hF hS (ex_pick_t rfl rfl hc2) rfl rfl fun a hF => ?_
      refine q_x (v := (.bool true)) hF hS (ex_move rfl) rfl rfl fun a hF => ?_
      refine q_skip hF (wanted_f hF rfl rfl rfl rfl rfl) rfl fun a hF => ?_
      refine q_skip hF (wanted_f hF rfl rfl rfl rfl rfl) rfl fun a hF => ?_
      refine q_x (v := (.bool true)) hF hS (ex_pick_t rfl rfl rfl) rfl rfl fun a hF => ?_
      refine q_end (n_jn ?_)
      obtain rfl := someI hj1
      exact ⟨hF.sub ⟨rfl, rfl, rfl, rfl, trivial⟩, hS⟩
  · rintro a w ⟨hF, hS⟩
    refine n_sq ?_
    rcases bcase (t_4) with hc4 | hc4
    · have hr := cond_f hc4 hr
      refine q_cond_f hF rfl hc4 ?_
      refine q_skipc (n_sq ?_)
      refine q_seq ?_
      refine q_region ?_
      refine q_x (v := (.agg #[(.int .i64 1), (.int .i64 1)])) hF hS (ex_build (cells := [(.int .i64 1), (.int .i64 1)]) rfl (by kernel_rfl)) rfl rfl fun a hF => ?_
      refine q_alloc (cs := [(.int .i64 0), (.int .i64 0)]) hF hS rfl rfl rfl fun a w b5 hF hS => ?_
      refine q_store (vs := [(.int .i64 1), (.int .i64 1)]) (cs' := [(.int .i64 1), (.int .i64 1)]) 0 0 hF hS sz24 rfl rfl rfl rfl rfl rfl rfl rfl fun a w hF hS => ?_
      refine q_end (n_sq ?_)
      refine q_seq ?_
      refine q_seq ?_
      refine q_region ?_
      refine q_x (v := (.int .i64 p_k)) hF hS (ex_move rfl) rfl rfl fun a hF => ?_
      refine q_x (v := (.int .i64 0)) hF hS (ex_move rfl) rfl rfl fun a hF => ?_
      refine q_end (n_sq ?_)
      refine q_block ?_
      obtain ⟨o5, hl5, hr⟩ := bindS hr
      refine q_loop (fun (s : Int × impl_Frac) a w => ∃ t_6, ∃ p_7, s = (t_6, p_7) ∧ Fr a 37 [(2, (.pointer (some ⟨b1, 0, none⟩))), (4, (.pointer (some ⟨b2, 0, none⟩))), (6, (.pointer (some ⟨b5, 0, none⟩))), (22, (.int .i64 p_k)), (23, (.int .i64 t_6))] ∧ St [] w0 w m [[⟨b5, [(.int .i64 p_7.Num), (.int .i64 p_7.Den)], 24⟩], [⟨b2, [(.int .i64 0), (.int .i64 0)], 24⟩], [⟨b1, [(.int .i64 p_f.Num), (.int .i64 p_f.Den)], 24⟩]]) (fun (o : (impl_Frac) ⊕ (impl_Frac × Bool)) e a w => ∃ p_10, o = .inl p_10 ∧ e = .exit 0 ∧ Fr a 37 [(4, (.pointer (some ⟨b2, 0, none⟩))), (6, (.pointer (some ⟨b5, 0, none⟩)))] ∧ St [] w0 w m [[⟨b5, [(.int .i64 p_10.Num), (.int .i64 p_10.Den)], 24⟩], [⟨b2, [(.int .i64 0), (.int .i64 0)], 24⟩]]) hl5 ⟨_, _, rfl, hF.sub ⟨rfl, rfl, rfl, rfl, rfl, trivial⟩, hS⟩ ?_ ?_
      · clear hF hS
        rintro s a w st ⟨t_6, p_7, rfl, hF, hS⟩ hb5
        unfold impl_PowFrac_l1 at hb5
        refine q_seq ?_
        refine q_region ?_
        refine q_x (v := (.bool (decide (t_6 < p_k)))) hF hS (ex_ibin rfl rfl rfl) rfl rfl fun a hF => ?_
        refine q_end (n_sq ?_)
        refine q_seq ?_
        rcases bcase (decide (t_6 < p_k)) with hc6 | hc6
        · have hb5 := cond_f hc6 hb5
          refine q_cond_f hF rfl hc6 ?_
          refine q_exit (x_sq ?_)
          obtain rfl := someI hb5
          exact ⟨nofun, .inl ⟨_, rfl, rfl, hF.sub ⟨rfl, rfl, trivial⟩, hS.mask [true, true, false]⟩⟩
        · have hb5 := cond_t hc6 hb5
          refine q_cond_t hF rfl hc6 ?_
          refine q_skipc (n_sq ?_)
          refine q_seq ?_
          refine q_block ?_
          refine q_seq ?_
          refine q_region ?_
          refine q_x (v := (.agg #[(.int .i64 p_7.Num), (.int .i64 p_7.Den)])) hF hS (ex_loadA (vs := [(.int .i64 p_7.Num), (.int .i64 p_7.Den)]) 0 0 Try.underlying24 rfl sz24 rfl rfl rfl rfl) rfl rfl fun a hF => ?_
          refine q_x (v := (.agg #[(.int .i64 p_f.Num), (.int .i64 p_f.Den)])) hF hS (ex_loadA (vs := [(.int .i64 p_f.Num), (.int .i64 p_f.Den)]) 2 0 Try.underlying24 rfl sz24 rfl rfl rfl rfl) rfl rfl fun a hF => ?_
          obtain ⟨t_8, ht_8, hb5⟩ := bindS hb5
          refine q_call (vs := [(.agg #[(.int .i64 p_7.Num), (.int .i64 p_7.Den)]), (.agg #[(.int .i64 p_f.Num), (.int .i64 p_f.Den)])]) hF hS Try.func103 (by kernel_rfl) rfl rfl rfl (c_impl_MulFrac p_7 p_f t_8 ht_8 _ m hS.vis) ?_
          rintro a w _ rfl hF hS
          refine q_x (v := (.tuple #[(.agg #[(.int .i64 t_8.1.Num), (.int .i64 t_8.1.Den)]), (.bool t_8.2)])) hF hS (ex_move rfl) rfl rfl fun a hF => ?_
          refine q_x (v := (.agg #[(.int .i64 t_8.1.Num), (.int .i64 t_8.1.Den)])) hF hS (ex_extract rfl rfl) rfl rfl fun a hF => ?_
          refine q_x (v := (.bool t_8.2)) hF hS (ex_extract rfl rfl) rfl rfl fun a hF => ?_
          refine q_alloc (cs := [(.int .i64 0), (.int .i64 0)]) hF hS rfl rfl rfl fun a w b9 hF hS => ?_
          refine q_store (vs := [(.int .i64 t_8.1.Num), (.int .i64 t_8.1.Den)]) (cs' := [(.int .i64 t_8.1.Num), (.int .i64 t_8.1.Den)]) 0 0 hF hS sz24 rfl rfl rfl rfl rfl rfl rfl rfl fun a w hF hS => ?_
          refine q_x (v := (.bool t_8.2)) hF hS (ex_assign rfl) rfl rfl fun a hF => ?_
          refine q_end (n_sq ?_)
          refine q_seq ?_
          refine q_seq ?_
          refine q_region ?_
          refine q_x (v := (.bool t_8.2)) hF hS (ex_move rfl) rfl rfl fun a hF => ?_
          refine q_x (v := (.bool (!t_8.2))) hF hS (ex_not rfl) rfl rfl fun a hF => ?_
          refine q_end (n_sq ?_)
          rcases bcase (!t_8.2) with hc7 | hc7
          · have hb5 := cond_f hc7 hb5
            refine q_cond_f hF rfl hc7 ?_
            refine q_skipc (n_sq ?_)
            refine q_region ?_
            refine q_x (v := (.agg #[(.int .i64 t_8.1.Num), (.int .i64 t_8.1.Den)])) hF hS (ex_loadA (vs := [(.int .i64 t_8.1.Num), (.int .i64 t_8.1.Den)]) 0 0 Try.underlying24 rfl sz24 rfl rfl rfl rfl) rfl rfl fun a hF => ?_
            refine q_store (vs := [(.int .i64 t_8.1.Num), (.int .i64 t_8.1.Den)]) (cs' := [(.int .i64 t_8.1.Num), (.int .i64 t_8.1.Den)]) 1 0 hF hS sz24 rfl rfl rfl rfl rfl rfl rfl rfl fun a w hF hS => ?_
            refine q_end (n_ib (n_sq ?_))
            refine q_region ?_
            refine q_x (v := (.int .i64 (w64 (t_6 + 1)))) hF hS (ex_ibin rfl rfl rfl) rfl rfl fun a hF => ?_
            refine q_x (v := (.int .i64 (w64 (t_6 + 1)))) hF hS (ex_move rfl) rfl rfl fun a hF => ?_
            refine q_end ?_
            obtain rfl := someI hb5
            exact ⟨rfl, _, _, rfl, hF.sub ⟨rfl, rfl, rfl, rfl, rfl, trivial⟩, hS.mask [false, true, true, true]⟩
          · have hb5 := cond_t hc7 hb5
            refine q_cond_t hF rfl hc7 ?_
            refine q_seq ?_
            refine q_region ?_
            refine q_x (v := (.agg #[(.int .i64 0), (.int .i64 0)])) hF hS (ex_build (cells := [(.int .i64 0), (.int .i64 0)]) rfl (by kernel_rfl)) rfl rfl fun a hF => ?_
            refine q_store (vs := [(.int .i64 0), (.int .i64 0)]) (cs' := [(.int .i64 0), (.int .i64 0)]) 2 0 hF hS sz24 rfl rfl rfl rfl rfl rfl rfl rfl fun a w hF hS => ?_
            refine q_x (v := (.bool false)) hF hS (ex_assign rfl) rfl rfl fun a hF => ?_
            refine q_end (n_sq (q_ret (r_sq (r_ib (r_sq ?_)))))
            obtain rfl := someI hb5
            refine ⟨nofun, .inr fun ho => ?_⟩
            subst ho
            refine r_ib (r_sq ?_)
            obtain rfl := someI hr
            exact ret_of hF hS rfl (.cellA (us := [(.int .i64 0), (.int .i64 0)]) 2 0 Try.underlying24 rfl sz24 rfl rfl rfl rfl (.tmp rfl .nil)) rfl
      · rintro e a w ⟨p_10, rfl, rfl, hF, hS⟩
        refine x_ib (n_sq ?_)
        refine q_seq ?_
        refine q_region ?_
        refine q_x (v := (.agg #[(.int .i64 p_10.Num), (.int .i64 p_10.Den)])) hF hS (ex_loadA (vs := [(.int .i64 p_10.Num), (.int .i64 p_10.Den)]) 0 0 Try.underlying24 rfl sz24 rfl rfl rfl rfl) rfl rfl fun a hF => ?_
        refine q_store (vs := [(.int .i64 p_10.Num), (.int .i64 p_10.Den)]) (cs' := [(.int .i64 p_10.Num), (.int .i64 p_10.Den)]) 1 0 hF hS sz24 rfl rfl rfl rfl rfl rfl rfl rfl fun a w hF hS => ?_
        refine q_x (v := (.bool true)) hF hS (ex_assign rfl) rfl rfl fun a hF => ?_
        refine q_end (n_sq (q_ret ?_))
        obtain rfl := someI hr
        exact ret_of hF hS rfl (.cellA (us := [(.int .i64 p_10.Num), (.int .i64 p_10.Den)]) 1 0 Try.underlying24 rfl sz24 rfl rfl rfl rfl (.tmp rfl .nil)) rfl
    · have hr := cond_t hc4 hr
      refine q_cond_t hF rfl hc4 ?_
      refine q_seq ?_
      refine q_region ?_
      refine q_x (v := (.agg #[(.int .i64 0), (.int .i64 0)])) hF hS (ex_build (cells := [(.int .i64 0), (.int .i64 0)]) rfl (by kernel_rfl)) rfl rfl fun a hF => ?_
      refine q_store (vs := [(.int .i64 0), (.int .i64 0)]) (cs' := [(.int .i64 0), (.int .i64 0)]) 0 0 hF hS sz24 rfl rfl rfl rfl rfl rfl rfl rfl fun a w hF hS => ?_
      refine q_x (v := (.bool false)) hF hS (ex_assign rfl) rfl rfl fun a hF => ?_
      refine q_end (n_sq (q_ret (r_sq ?_)))
      obtain rfl := someI hr
      exact ret_of hF hS rfl (.cellA (us := [(.int .i64 0), (.int .i64 0)]) 0 0 Try.underlying24 rfl sz24 rfl rfl rfl rfl (.tmp rfl .nil)) rfl

theorem c_impl_AddFrac (p_a : impl_Frac) (p_b : impl_Frac) (r : impl_Frac × Bool) (hr : impl_AddFrac p_a p_b = some r) (w0 : World) (m : Mem) (hv : Vis m w0) :
    Ret Try.prog 118 [(.agg #[(.int .i64 p_a.Num), (.int .i64 p_a.Den)]), (.agg #[(.int .i64 p_b.Num), (.int .i64 p_b.Den)])] w0 (fun v _ => v = (.tuple #[(.agg #[(.int .i64 r.1.Num), (.int .i64 r.1.Den)]), (.bool r.2)])) := by
  unfold impl_AddFrac at hr
  refine ret_start Try.func118 rfl 34 rfl rfl m hv fun a hF hS => ?_
  refine q_seq ?_
  refine q_region ?_
  refine q_box (cs := [(.int .i64 p_a.Num), (.int .i64 p_a.Den)]) hF hS rfl rfl rfl fun a w b1 hF hS => ?_
  refine q_box (cs := [(.int .i64 p_b.Num), (.int .i64 p_b.Den)]) hF hS rfl rfl rfl fun a w b2 hF hS => ?_
  refine q_alloc (cs := [(.int .i64 0), (.int .i64 0)]) hF hS rfl rfl rfl fun a w b3 hF hS => ?_
  refine q_x (v := (.bool false)) hF hS (ex_assign rfl) rfl rfl fun a hF => ?_
  refine q_end (n_sq ?_)
  refine q_seq ?_
  refine q_seq ?_
  obtain ⟨t_6, hj1, hr⟩ := bindS hr
  refine q_join (fun a w => Fr a 34 [(2, (.pointer (some ⟨b1, 0, none⟩))), (3, (.pointer (some ⟨b2, 0, none⟩))), (4, (.pointer (some ⟨b3, 0, none⟩))), (13, (.bool t_6))] ∧ St [] w0 w m [[⟨b3, [(.int .i64 0), (.int .i64 0)], 24⟩], [⟨b2, [(.int .i64 p_b.Num), (.int .i64 p_b.Den)], 24⟩], [⟨b1, [(.int .i64 p_a.Num), (.int .i64 p_a.Den)], 24⟩]]) ?_ ?_
  · refine q_region ?_
    refine q_x (v := (.agg #[(.int .i64 p_a.Num), (.int .i64 p_a.Den)])) hF hS (ex_loadA (vs := [(.int .i64 p_a.Num), (.int .i64 p_a.Den)]) 2 0 Try.underlying24 rfl sz24 rfl rfl rfl rfl) rfl rfl fun a hF => ?_
    obtain ⟨t_4, ht_4, hj1⟩ := bindS hj1
    refine q_call (vs := [(.agg #[(.int .i64 p_a.Num), (.int .i64 p_a.Den)])]) hF hS Try.func94 (by kernel_rfl) rfl rfl rfl (c_impl_IsFrac p_a t_4 ht_4 _ m hS.vis) ?_
    rintro a w _ rfl hF hS
    refine q_x (v := (.bool (!t_4))) hF hS (ex_not rfl) rfl rfl fun a hF => ?_
    refine q_x (v := (.bool (!t_4))) hF hS (ex_move rfl) rfl rfl fun a hF => ?_
    rcases bcase (!t_4) with hc2 | hc2
    · have hj1 := cond_f hc2 hj1
      refine q_xg (v := (.agg #[(.int .i64 p_b.Num), (.int .i64 p_b.Den)])) hF hS (ex_loadA (vs := [(.int .i64 p_b.Num), (.int .i64 p_b.Den)]) 1 0 Try.underlying24 rfl sz24 rfl rfl rfl rfl) (wanted_t hF rfl rfl rfl hc2) rfl fun a hF => ?_
      obtain ⟨t_5, ht_5, hj1⟩ := bindS hj1
      refine q_callg (vs := [(.agg #[(.int .i64 p_b.Num), (.int .i64 p_b.Den)])]) hF hS (wanted_t hF rfl rfl rfl hc2) Try.func94 (by kernel_rfl) rfl rfl rfl (c_impl_IsFrac p_b t_5 ht_5 _ m hS.vis) ?_
      rintro a w _ rfl hF hS
      refine q_xg (v := (.bool (!t_5))) hF hS (ex_not rfl) (wanted_t hF rfl rfl rfl hc2) rfl fun a hF => ?_
      refine q_x (v := (.bool (!t_5))) hF hS (ex_pick_f rfl rfl hc2) rfl rfl fun a hF => ?_
      refine q_end (n_jn ?_)
      obtain rfl := someI hj1
      exact ⟨hF.sub ⟨rfl, rfl, rfl, rfl, trivial⟩, hS⟩
    · have hj1 := cond_t hc2 hj1
      refine q_skip hF (wanted_f hF rfl rfl rfl hc2 rfl) rfl fun a hF => ?_
      refine q_skip hF (wanted_f hF rfl rfl rfl hc2 rfl) rfl fun a hF => ?_
      refine q_skip hF (wanted_f hF rfl rfl rfl hc2 rfl) rfl fun a hF => ?_
      refine q_x (v := (.bool true)) hF hS (ex_pick_t rfl rfl hc2) rfl rfl fun a hF => ?_
      refine q_end (n_jn ?_)
      obtain rfl := someI hj1
      exact ⟨hF.sub ⟨rfl, rfl, rfl, rfl, trivial⟩, hS⟩
  · rintro a w ⟨hF, hS⟩
    refine n_sq ?_
    rcases bcase (t_6) with hc3 | hc3
    · have hr := cond_f hc3 hr
      refine q_cond_f hF rfl hc3 ?_
      refine q_skipc (n_sq ?_)
      refine q_seq ?_
      refine q_region ?_
      refine q_x (v := (.pointer (some ⟨b1, 0, none⟩))) hF hS (ex_fieldAddr Try.underlying24 rfl sz3 rfl rfl) rfl rfl fun a hF => ?_
      refine q_x (v := (.int .i64 p_a.Num)) hF hS (ex_load1 2 0 Try.underlying3 rfl rfl rfl rfl) rfl rfl fun a hF => ?_
      refine q_x (v := (.pointer (some ⟨b2, 1, none⟩))) hF hS (ex_fieldAddr Try.underlying24 rfl sz3 rfl rfl) rfl rfl fun a hF => ?_
      refine q_x (v := (.int .i64 p_b.Den)) hF hS (ex_load1 1 0 Try.underlying3 rfl rfl rfl rfl) rfl rfl fun a hF => ?_
      refine q_x (v := (.int .i64 (w64 (p_a.Num * p_b.Den)))) hF hS (ex_ibin rfl rfl rfl) rfl rfl fun a hF => ?_
      refine q_x (v := (.pointer (some ⟨b2, 0, none⟩))) hF hS (ex_fieldAddr Try.underlying24 rfl sz3 rfl rfl) rfl rfl fun a hF => ?_
      refine q_x (v := (.int .i64 p_b.Num)) hF hS (ex_load1 1 0 Try.underlying3 rfl rfl rfl rfl) rfl rfl fun a hF => ?_
      refine q_x (v := (.pointer (some ⟨b1, 1, none⟩))) hF hS (ex_fieldAddr Try.underlying24 rfl sz3 rfl rfl) rfl rfl fun a hF => ?_
      refine q_x (v := (.int .i64 p_a.Den)) hF hS (ex_load1 2 0 Try.underlying3 rfl rfl rfl rfl) rfl rfl fun a hF => ?_
      refine q_x (v := (.int .i64 (w64 (p_b.Num * p_a.Den)))) hF hS (ex_ibin rfl rfl rfl) rfl rfl fun a hF => ?_
      refine q_x (v := (.int .i64 (w64 ((w64 (p_a.Num * p_b.Den)) + (w64 (p_b.Num * p_a.Den)))))) hF hS (ex_ibin rfl rfl rfl) rfl rfl fun a hF => ?_
      refine q_x (v := (.pointer (some ⟨b1, 1, none⟩))) hF hS (ex_fieldAddr Try.underlying24 rfl sz3 rfl rfl) rfl rfl fun a hF => ?_
      refine q_x (v := (.int .i64 p_a.Den)) hF hS (ex_load1 2 0 Try.underlying3 rfl rfl rfl rfl) rfl rfl fun a hF => ?_
      refine q_x (v := (.pointer (some ⟨b2, 1, none⟩))) hF hS (ex_fieldAddr Try.underlying24 rfl sz3 rfl rfl) rfl rfl fun a hF => ?_
      refine q_x (v := (.int .i64 p_b.Den)) hF hS (ex_load1 1 0 Try.underlying3 rfl rfl rfl rfl) rfl rfl fun a hF => ?_
      refine q_x (v := (.int .i64 (w64 (p_a.Den * p_b.Den)))) hF hS (ex_ibin rfl rfl rfl) rfl rfl fun a hF => ?_
      obtain ⟨t_7, ht_7, hr⟩ := bindS hr
      refine q_call (vs := [(.int .i64 (w64 ((w64 (p_a.Num * p_b.Den)) + (w64 (p_b.Num * p_a.Den))))), (.int .i64 (w64 (p_a.Den * p_b.Den)))]) hF hS Try.func114 (by kernel_rfl) rfl rfl rfl (c_impl_reduced (w64 ((w64 (p_a.Num * p_b.Den)) + (w64 (p_b.Num * p_a.Den)))) (w64 (p_a.Den * p_b.Den)) t_7 ht_7 _ m hS.vis) ?_
      rintro a w _ rfl hF hS
      refine q_x (v := (.agg #[(.int .i64 t_7.1.Num), (.int .i64 t_7.1.Den)])) hF hS (ex_extract rfl rfl) rfl rfl fun a hF => ?_
      refine q_x (v := (.bool t_7.2)) hF hS (ex_extract rfl rfl) rfl rfl fun a hF => ?_
      refine q_store (vs := [(.int .i64 t_7.1.Num), (.int .i64 t_7.1.Den)]) (cs' := [(.int .i64 t_7.1.Num), (.int .i64 t_7.1.Den)]) 0 0 hF hS sz24 rfl rfl rfl rfl rfl rfl rfl rfl fun a w hF hS => ?_
      refine q_x (v := (.bool t_7.2)) hF hS (ex_assign rfl) rfl rfl fun a hF => ?_
      refine q_end (n_sq (q_ret ?_))
      obtain rfl := someI hr
      exact ret_of hF hS rfl (.cellA (us := [(.int .i64 t_7.1.Num), (.int .i64 t_7.1.Den)]) 0 0 Try.underlying24 rfl sz24 rfl rfl rfl rfl (.tmp rfl .nil)) rfl
    · have hr := cond_t hc3 hr
      refine q_cond_t hF rfl hc3 ?_
      refine q_seq ?_
      refine q_region ?_
      refine q_x (v := (.agg #[(.int .i64 0), (.int .i64 0)])) hF hS (ex_build (cells := [(.int .i64 0), (.int .i64 0)]) rfl (by kernel_rfl)) rfl rfl fun a hF => ?_
      refine q_store (vs := [(.int .i64 0), (.int .i64 0)]) (cs' := [(.int .i64 0), (.int .i64 0)]) 0 0 hF hS sz24 rfl rfl rfl rfl rfl rfl rfl rfl fun a w hF hS => ?_
      refine q_x (v := (.bool false)) hF hS (ex_assign rfl) rfl rfl fun a hF => ?_
      refine q_end (n_sq (q_ret (r_sq ?_)))
      obtain rfl := someI hr
      exact ret_of hF hS rfl (.cellA (us := [(.int .i64 0), (.int .i64 0)]) 0 0 Try.underlying24 rfl sz24 rfl rfl rfl rfl (.tmp rfl .nil)) rfl

theorem c_impl_moreOne (p_a : impl_Frac) (r : impl_Frac × Bool) (hr : impl_moreOne p_a = some r) (w0 : World) (m : Mem) (hv : Vis m w0) :
    Ret Try.prog 165 [(.agg #[(.int .i64 p_a.Num), (.int .i64 p_a.Den)])] w0 (fun v _ => v = (.tuple #[(.agg #[(.int .i64 r.1.Num), (.int .i64 r.1.Den)]), (.bool r.2)])) := by
  unfold impl_moreOne at hr
  refine ret_start Try.func165 rfl 9 rfl rfl m hv fun a hF hS => ?_
  refine q_seq ?_
  refine q_region ?_
  refine q_box (cs := [(.int .i64 p_a.Num), (.int .i64 p_a.Den)]) hF hS rfl rfl rfl fun a w b1 hF hS => ?_
  refine q_alloc (cs := [(.int .i64 0), (.int .i64 0)]) hF hS rfl rfl rfl fun a w b2 hF hS => ?_
  refine q_x (v := (.bool false)) hF hS (ex_assign rfl) rfl rfl fun a hF => ?_
  refine q_end (n_sq ?_)
  refine q_seq ?_
  refine q_region ?_
  refine q_x (v := (.agg #[(.int .i64 1), (.int .i64 1)])) hF hS (ex_build (cells := [(.int .i64 1), (.int .i64 1)]) rfl (by kernel_rfl)) rfl rfl fun a hF => ?_
  refine q_x (v := (.agg #[(.int .i64 p_a.Num), (.int .i64 p_a.Den)])) hF hS (ex_loadA (vs := [(.int .i64 p_a.Num), (.int .i64 p_a.Den)]) 1 0 Try.underlying24 rfl sz24 rfl rfl rfl rfl) rfl rfl fun a hF => ?_
  obtain ⟨t_3, ht_3, hr⟩ := bindS hr
  refine q_call (vs := [(.agg #[(.int .i64 1), (.int .i64 1)]), (.agg #[(.int .i64 p_a.Num), (.int .i64 p_a.Den)])]) hF hS Try.func118 (by kernel_rfl) rfl rfl rfl (c_impl_AddFrac (impl_Frac.mk 1 1) p_a t_3 ht_3 _ m hS.vis) ?_
  rintro a w _ rfl hF hS
  refine q_x (v := (.agg #[(.int .i64 t_3.1.Num), (.int .i64 t_3.1.Den)])) hF hS (ex_extract rfl rfl) rfl rfl fun a hF => ?_
  refine q_x (v := (.bool t_3.2)) hF hS (ex_extract rfl rfl) rfl rfl fun a hF => ?_
  refine q_store (vs := [(.int .i64 t_3.1.Num), (.int .i64 t_3.1.Den)]) (cs' := [(.int .i64 t_3.1.Num), (.int .i64 t_3.1.Den)]) 0 0 hF hS sz24 rfl rfl rfl rfl rfl rfl rfl rfl fun a w hF hS => ?_
  refine q_x (v := (.bool t_3.2)) hF hS (ex_assign rfl) rfl rfl fun a hF => ?_
  refine q_end (n_sq (q_ret ?_))
  obtain rfl := someI hr
  exact ret_of hF hS rfl (.cellA (us := [(.int .i64 t_3.1.Num), (.int .i64 t_3.1.Den)]) 0 0 Try.underlying24 rfl sz24 rfl rfl rfl rfl (.tmp rfl .nil)) rfl

theorem c_impl_DivFrac (p_a : impl_Frac) (p_b : impl_Frac) (r : impl_Frac × Bool) (hr : impl_DivFrac p_a p_b = some r) (w0 : World) (m : Mem) (hv : Vis m w0) :
    Ret Try.prog 80 [(.agg #[(.int .i64 p_a.Num), (.int .i64 p_a.Den)]), (.agg #[(.int .i64 p_b.Num), (.int .i64 p_b.Den)])] w0 (fun v _ => v = (.tuple #[(.agg #[(.int .i64 r.1.Num), (.int .i64 r.1.Den)]), (.bool r.2)])) := by
  unfold impl_DivFrac at hr
  refine ret_start Try.func80 rfl 33 rfl rfl m hv fun a hF hS => ?_
  refine q_seq ?_
  refine q_region ?_
  refine q_box (cs := [(.int .i64 p_a.Num), (.int .i64 p_a.Den)]) hF hS rfl rfl rfl fun a w b1 hF hS => ?_
  refine q_box (cs := [(.int .i64 p_b.Num), (.int .i64 p_b.Den)]) hF hS rfl rfl rfl fun a w b2 hF hS => ?_
  refine q_alloc (cs := [(.int .i64 0), (.int .i64 0)]) hF hS rfl rfl rfl fun a w b3 hF hS => ?_
  refine q_x (v := (.bool false)) hF hS (ex_assign rfl) rfl rfl fun a hF => ?_
  refine q_end (n_sq ?_)
  refine q_seq ?_
  refine q_seq ?_
  obtain ⟨t_6, hj1, hr⟩ := bindS hr
  refine q_join (fun a w => Fr a 33 [(2, (.pointer (some ⟨b1, 0, none⟩))), (3, (.pointer (some ⟨b2, 0, none⟩))), (4, (.pointer (some ⟨b3, 0, none⟩))), (18, (.bool t_6))] ∧ St [] w0 w m [[⟨b3, [(.int .i64 0), (.int .i64 0)], 24⟩], [⟨b2, [(.int .i64 p_b.Num), (.int .i64 p_b.Den)], 24⟩], [⟨b1, [(.int .i64 p_a.Num), (.int .i64 p_a.Den)], 24⟩]]) ?_ ?_
  · refine q_region ?_
    refine q_x (v := (.agg #[(.int .i64 p_a.Num), (.int .i64 p_a.Den)])) hF hS (ex_loadA (vs := [(.int .i64 p_a.Num), (.int .i64 p_a.Den)]) 2 0 Try.underlying24 rfl sz24 rfl rfl rfl rfl) rfl rfl fun a hF => ?_
    obtain ⟨t_4, ht_4, hj1⟩ := bindS hj1
    refine q_call (vs := [(.agg #[(.int .i64 p_a.Num), (.int .i64 p_a.Den)])]) hF hS Try.func94 (by kernel_rfl) rfl rfl rfl (c_impl_IsFrac p_a t_4 ht_4 _ m hS.vis) ?_
    rintro a w _ rfl hF hS
    refine q_x (v := (.bool (!t_4))) hF hS (ex_not rfl) rfl rfl fun a hF => ?_
    refine q_x (v := (.bool (!t_4))) hF hS (ex_move rfl) rfl rfl fun a hF => ?_
    rcases bcase (!t_4) with hc2 | hc2
    · have hj1 := cond_f hc2 hj1
      refine q_xg (v := (.agg #[(.int .i64 p_b.Num), (.int .i64 p_b.Den)])) hF hS (ex_loadA (vs := [(.int .i64 p_b.Num), (.int .i64 p_b.Den)]) 1 0 Try.underlying24 rfl sz24 rfl rfl rfl rfl) (wanted_t hF rfl rfl rfl hc2) rfl fun a hF => ?_
      obtain ⟨t_5, ht_5, hj1⟩ := bindS hj1
      refine q_callg (vs := [(.agg #[(.int .i64 p_b.Num), (.int .i64 p_b.Den)])]) hF hS (wanted_t hF rfl rfl rfl hc2) Try.func94 (by kernel_rfl) rfl rfl rfl (c_impl_IsFrac p_b t_5 ht_5 _ m hS.vis) ?_
      rintro a w _ rfl hF hS
      refine q_xg (v := (.bool (!t_5))) hF hS (ex_not rfl) (wanted_t hF rfl rfl rfl hc2) rfl fun a hF => ?_
      refine q_x (v := (.bool (!t_5))) hF hS (ex_pick_f rfl rfl hc2) rfl rfl fun a hF => ?_
      refine q_x (v := (.bool (!t_5))) hF hS (ex_move rfl) rfl rfl fun a hF => ?_
      rcases bcase (!t_5) with hc3 | hc3
      · have hj1 := cond_f hc3 hj1
        refine q_xg (v := (.pointer (some ⟨b2, 0, none⟩))) hF hS (ex_fieldAddr Try.underlying24 rfl sz3 rfl rfl) (wanted_t hF rfl rfl rfl hc3) rfl fun a hF => ?_
        refine q_xg (v := (.int .i64 p_b.Num)) hF hS (ex_load1 1 0 Try.underlying3 rfl rfl rfl rfl) (wanted_t hF rfl rfl rfl hc3) rfl fun a hF => ?_
        refine q_xg (v := (.bool (p_b.Num == 0))) hF hS (ex_ibin rfl rfl rfl) (wanted_t hF rfl rfl rfl hc3) rfl fun a hF => ?_
        refine q_x (v := (.bool (p_b.Num == 0))) hF hS (ex_pick_f rfl rfl hc3) rfl rfl fun a hF => ?_
        refine q_end (n_jn ?_)
        obtain rfl := someI hj1
        exact ⟨hF.sub ⟨rfl, rfl, rfl, rfl, trivial⟩, hS⟩
      · have hj1 := cond_t hc3 hj1
        refine q_skip hF (wanted_f hF rfl rfl rfl hc3 rfl) rfl fun a hF => ?_
        refine q_skip hF (wanted_f hF rfl rfl rfl hc3 rfl) rfl fun a hF => ?_
        refine q_skip hF (wanted_f hF rfl rfl rfl hc3 rfl) rfl fun a hF => ?_
        refine q_x (v := (.bool true)) hF hS (ex_pick_t rfl rfl hc3) rfl rfl fun a hF => ?_
        refine q_end (n_jn ?_)
        obtain rfl := someI hj1
        exact ⟨hF.sub ⟨rfl, rfl, rfl, rfl, trivial⟩, hS⟩
    · have hj1 := cond_t hc2 hj1
      refine q_skip hF (wanted_f hF rfl rfl rfl hc2 rfl) rfl fun a hF => ?_
      refine q_skip hF (wanted_f hF rfl rfl rfl hc2 rfl) rfl fun a hF => ?_
      refine q_skip hF (wanted_f hF rfl rfl rfl hc2 rfl) rfl fun a hF => ?_
      refine q_x (v := (.bool true)) hF hS (ex_pick_t rfl rfl hc2) rfl rfl fun a hF => ?_
      refine q_x (v := (.bool true)) hF hS (ex_move rfl) rfl rfl fun a hF => ?_
      refine q_skip hF (wanted_f hF rfl rfl rfl rfl rfl) rfl fun a hF => ?_
      refine q_skip hF (wanted_f hF rfl rfl rfl rfl rfl) rfl fun a hF => ?_
      refine q_skip hF (wanted_f hF rfl rfl rfl rfl rfl) rfl fun a hF => ?_
      refine q_x (v := (.bool true)) hF hS (ex_pick_t rfl rfl rfl) rfl rfl fun a hF => ?_
      refine q_end (n_jn ?_)
      obtain rfl := someI hj1
      exact ⟨hF.sub ⟨rfl, rfl, rfl, rfl, trivial⟩, hS⟩
  · rintro a w ⟨hF, hS⟩
    refine n_sq ?_
    rcases bcase (t_6) with hc4 | hc4
    · have hr := cond_f hc4 hr
      refine q_cond_f hF rfl hc4 ?_
      refine q_skipc (n_sq ?_)
      refine q_seq ?_
      refine q_region ?_
      refine q_x (v := (.pointer (some ⟨b1, 0, none⟩))) hF hS (ex_fieldAddr Try.underlying24 rfl sz3 rfl rfl) rfl rfl fun a hF => ?_
      refine q_x (v := (.int .i64 p_a.Num)) hF hS (ex_load1 2 0 Try.underlying3 rfl rfl rfl rfl) rfl rfl fun a hF => ?_
      refine q_x (v := (.pointer (some ⟨b2, 1, none⟩))) hF hS (ex_fieldAddr Try.underlying24 rfl sz3 rfl rfl) rfl rfl fun a hF => ?_
      refine q_x (v := (.int .i64 p_b.Den)) hF hS (ex_load1 1 0 Try.underlying3 rfl rfl rfl rfl) rfl rfl fun a hF => ?_
      refine q_x (v := (.int .i64 (w64 (p_a.Num * p_b.Den)))) hF hS (ex_ibin rfl rfl rfl) rfl rfl fun a hF => ?_
      refine q_x (v := (.pointer (some ⟨b1, 1, none⟩))) hF hS (ex_fieldAddr Try.underlying24 rfl sz3 rfl rfl) rfl rfl fun a hF => ?_
      refine q_x (v := (.int .i64 p_a.Den)) hF hS (ex_load1 2 0 Try.underlying3 rfl rfl rfl rfl) rfl rfl fun a hF => ?_
      refine q_x (v := (.pointer (some ⟨b2, 0, none⟩))) hF hS (ex_fieldAddr Try.underlying24 rfl sz3 rfl rfl) rfl rfl fun a hF => ?_
      refine q_x (v := (.int .i64 p_b.Num)) hF hS (ex_load1 1 0 Try.underlying3 rfl rfl rfl rfl) rfl rfl fun a hF => ?_
      refine q_x (v := (.int .i64 (w64 (p_a.Den * p_b.Num)))) hF hS (ex_ibin rfl rfl rfl) rfl rfl fun a hF => ?_
      obtain ⟨t_7, ht_7, hr⟩ := bindS hr
      refine q_call (vs := [(.int .i64 (w64 (p_a.Num * p_b.Den))), (.int .i64 (w64 (p_a.Den * p_b.Num)))]) hF hS Try.func114 (by kernel_rfl) rfl rfl rfl (c_impl_reduced (w64 (p_a.Num * p_b.Den)) (w64 (p_a.Den * p_b.Num)) t_7 ht_7 _ m hS.vis) ?_
      rintro a w _ rfl hF hS
      refine q_x (v := (.agg #[(.int .i64 t_7.1.Num), (.int .i64 t_7.1.Den)])) hF hS (ex_extract rfl rfl) rfl rfl fun a hF => ?_
      refine q_x (v := (.bool t_7.2)) hF hS (ex_extract rfl rfl) rfl rfl fun a hF => ?_
      refine q_store (vs := [(.int .i64 t_7.1.Num), (.int .i64 t_7.1.Den)]) (cs' := [(.int .i64 t_7.1.Num), (.int .i64 t_7.1.Den)]) 0 0 hF hS sz24 rfl rfl rfl rfl rfl rfl rfl rfl fun a w hF hS => ?_
      refine q_x (v := (.bool t_7.2)) hF hS (ex_assign rfl) rfl rfl fun a hF => ?_
      refine q_end (n_sq (q_ret ?_))
      obtain rfl := someI hr
      exact ret_of hF hS rfl (.cellA (us := [(.int .i64 t_7.1.Num), (.int .i64 t_7.1.Den)]) 0 0 Try.underlying24 rfl sz24 rfl rfl rfl rfl (.tmp rfl .nil)) rfl
    · have hr := cond_t hc4 hr
      refine q_cond_t hF rfl hc4 ?_
      refine q_seq ?_
      refine q_region ?_
      refine q_x (v := (.agg #[(.int .i64 0), (.int .i64 0)])) hF hS (ex_build (cells := [(.int .i64 0), (.int .i64 0)]) rfl (by kernel_rfl)) rfl rfl fun a hF => ?_
      refine q_store (vs := [(.int .i64 0), (.int .i64 0)]) (cs' := [(.int .i64 0), (.int .i64 0)]) 0 0 hF hS sz24 rfl rfl rfl rfl rfl rfl rfl rfl fun a w hF hS => ?_
      refine q_x (v := (.bool false)) hF hS (ex_assign rfl) rfl rfl fun a hF => ?_
      refine q_end (n_sq (q_ret (r_sq ?_)))
      obtain rfl := someI hr
      exact ret_of hF hS rfl (.cellA (us := [(.int .i64 0), (.int .i64 0)]) 0 0 Try.underlying24 rfl sz24 rfl rfl rfl rfl (.tmp rfl .nil)) rfl

theorem c_impl_geoTail (p_a : impl_Frac) (p_k : Int) (r : impl_Frac × Bool) (hr : impl_geoTail p_a p_k = some r) (w0 : World) (m : Mem) (hv : Vis m w0) :
    Ret Try.prog 129 [(.agg #[(.int .i64 p_a.Num), (.int .i64 p_a.Den)]), (.int .i64 p_k)] w0 (fun v _ => v = (.tuple #[(.agg #[(.int .i64 r.1.Num), (.int .i64 r.1.Den)]), (.bool r.2)])) := by
  unfold impl_geoTail at hr
  refine ret_start Try.func129 rfl 31 rfl rfl m hv fun a hF hS => ?_
  refine q_seq ?_
  refine q_region ?_
  refine q_box (cs := [(.int .i64 p_a.Num), (.int .i64 p_a.Den)]) hF hS rfl rfl rfl fun a w b1 hF hS => ?_
  refine q_alloc (cs := [(.int .i64 0), (.int .i64 0)]) hF hS rfl rfl rfl fun a w b2 hF hS => ?_
  refine q_x (v := (.bool false)) hF hS (ex_assign rfl) rfl rfl fun a hF => ?_
  refine q_end (n_sq ?_)
  refine q_seq ?_
  refine q_region ?_
  refine q_x (v := (.agg #[(.int .i64 p_a.Num), (.int .i64 p_a.Den)])) hF hS (ex_loadA (vs := [(.int .i64 p_a.Num), (.int .i64 p_a.Den)]) 1 0 Try.underlying24 rfl sz24 rfl rfl rfl rfl) rfl rfl fun a hF => ?_
  refine q_x (v := (.int .i64 p_k)) hF hS (ex_move rfl) rfl rfl fun a hF => ?_
  obtain ⟨t_3, ht_3, hr⟩ := bindS hr
  refine q_call (vs := [(.agg #[(.int .i64 p_a.Num), (.int .i64 p_a.Den)]), (.int .i64 p_k)]) hF hS Try.func102 (by kernel_rfl) rfl rfl rfl (c_impl_PowFrac p_a p_k t_3 ht_3 _ m hS.vis) ?_
  rintro a w _ rfl hF hS
  refine q_x (v := (.tuple #[(.agg #[(.int .i64 t_3.1.Num), (.int .i64 t_3.1.Den)]), (.bool t_3.2)])) hF hS (ex_move rfl) rfl rfl fun a hF => ?_
  refine q_x (v := (.agg #[(.int .i64 t_3.1.Num), (.int .i64 t_3.1.Den)])) hF hS (ex_extract rfl rfl) rfl rfl fun a hF => ?_
  refine q_x (v := (.bool t_3.2)) hF hS (ex_extract rfl rfl) rfl rfl fun a hF => ?_
  refine q_alloc (cs := [(.int .i64 0), (.int .i64 0)]) hF hS rfl rfl rfl fun a w b4 hF hS => ?_
  refine q_store (vs := [(.int .i64 t_3.1.Num), (.int .i64 t_3.1.Den)]) (cs' := [(.int .i64 t_3.1.Num), (.int .i64 t_3.1.Den)]) 0 0 hF hS sz24 rfl rfl rfl rfl rfl rfl rfl rfl fun a w hF hS => ?_
  refine q_x (v := (.bool t_3.2)) hF hS (ex_assign rfl) rfl rfl fun a hF => ?_
  refine q_end (n_sq ?_)
  refine q_seq ?_
  refine q_seq ?_
  refine q_region ?_
  refine q_x (v := (.bool t_3.2)) hF hS (ex_move rfl) rfl rfl fun a hF => ?_
  refine q_x (v := (.bool (!t_3.2))) hF hS (ex_not rfl) rfl rfl fun a hF => ?_
  refine q_end (n_sq ?_)
  rcases bcase (!t_3.2) with hc1 | hc1
  · have hr := cond_f hc1 hr
    refine q_cond_f hF rfl hc1 ?_
    refine q_skipc (n_sq ?_)
    refine q_seq ?_
    refine q_region ?_
    refine q_x (v := (.agg #[(.int .i64 p_a.Num), (.int .i64 p_a.Den)])) hF hS (ex_loadA (vs := [(.int .i64 p_a.Num), (.int .i64 p_a.Den)]) 2 0 Try.underlying24 rfl sz24 rfl rfl rfl rfl) rfl rfl fun a hF => ?_
    obtain ⟨t_5, ht_5, hr⟩ := bindS hr
    refine q_call (vs := [(.agg #[(.int .i64 p_a.Num), (.int .i64 p_a.Den)])]) hF hS Try.func165 (by kernel_rfl) rfl rfl rfl (c_impl_moreOne p_a t_5 ht_5 _ m hS.vis) ?_
    rintro a w _ rfl hF hS
    refine q_x (v := (.tuple #[(.agg #[(.int .i64 t_5.1.Num), (.int .i64 t_5.1.Den)]), (.bool t_5.2)])) hF hS (ex_move rfl) rfl rfl fun a hF => ?_
    refine q_x (v := (.agg #[(.int .i64 t_5.1.Num), (.int .i64 t_5.1.Den)])) hF hS (ex_extract rfl rfl) rfl rfl fun a hF => ?_
    refine q_x (v := (.bool t_5.2)) hF hS (ex_extract rfl rfl) rfl rfl fun a hF => ?_
    refine q_alloc (cs := [(.int .i64 0), (.int .i64 0)]) hF hS rfl rfl rfl fun a w b6 hF hS => ?_
    refine q_store (vs := [(.int .i64 t_5.1.Num), (.int .i64 t_5.1.Den)]) (cs' := [(.int .i64 t_5.1.Num), (.int .i64 t_5.1.Den)]) 0 0 hF hS sz24 rfl rfl rfl rfl rfl rfl rfl rfl fun a w hF hS => ?_
    refine q_x (v := (.bool t_5.2)) hF hS (ex_assign rfl) rfl rfl fun a hF => ?_
    refine q_end (n_sq ?_)
    refine q_seq ?_
    refine q_seq ?_
    refine q_region ?_
    refine q_x (v := (.bool t_5.2)) hF hS (ex_move rfl) rfl rfl fun a hF => ?_
    refine q_x (v := (.bool (!t_5.2))) hF hS (ex_not rfl) rfl rfl fun a hF => ?_
    refine q_end (n_sq ?_)
    rcases bcase (!t_5.2) with hc2 | hc2
    · have hr := cond_f hc2 hr
      refine q_cond_f hF rfl hc2 ?_
      refine q_skipc (n_sq ?_)
      refine q_seq ?_
      refine q_region ?_
      refine q_x (v := (.agg #[(.int .i64 t_3.1.Num), (.int .i64 t_3.1.Den)])) hF hS (ex_loadA (vs := [(.int .i64 t_3.1.Num), (.int .i64 t_3.1.Den)]) 1 0 Try.underlying24 rfl sz24 rfl rfl rfl rfl) rfl rfl fun a hF => ?_
      refine q_x (v := (.agg #[(.int .i64 t_5.1.Num), (.int .i64 t_5.1.Den)])) hF hS (ex_loadA (vs := [(.int .i64 t_5.1.Num), (.int .i64 t_5.1.Den)]) 0 0 Try.underlying24 rfl sz24 rfl rfl rfl rfl) rfl rfl fun a hF => ?_
      obtain ⟨t_7, ht_7, hr⟩ := bindS hr
      refine q_call (vs := [(.agg #[(.int .i64 t_3.1.Num), (.int .i64 t_3.1.Den)]), (.agg #[(.int .i64 t_5.1.Num), (.int .i64 t_5.1.Den)])]) hF hS Try.func80 (by kernel_rfl) rfl rfl rfl (c_impl_DivFrac t_3.1 t_5.1 t_7 ht_7 _ m hS.vis) ?_
      rintro a w _ rfl hF hS
      refine q_x (v := (.agg #[(.int .i64 t_7.1.Num), (.int .i64 t_7.1.Den)])) hF hS (ex_extract rfl rfl) rfl rfl fun a hF => ?_
      refine q_x (v := (.bool t_7.2)) hF hS (ex_extract rfl rfl) rfl rfl fun a hF => ?_
      refine q_store (vs := [(.int .i64 t_7.1.Num), (.int .i64 t_7.1.Den)]) (cs' := [(.int .i64 t_7.1.Num), (.int .i64 t_7.1.Den)]) 2 0 hF hS sz24 rfl rfl rfl rfl rfl rfl rfl rfl fun a w hF hS => ?_
      refine q_x (v := (.bool t_7.2)) hF hS (ex_assign rfl) rfl rfl fun a hF => ?_
      refine q_end (n_sq (q_ret ?_))
      obtain rfl := someI hr
      exact ret_of hF hS rfl (.cellA (us := [(.int .i64 t_7.1.Num), (.int .i64 t_7.1.Den)]) 2 0 Try.underlying24 rfl sz24 rfl rfl rfl rfl (.tmp rfl .nil)) rfl
    · have hr := cond_t hc2 hr
      refine q_cond_t hF rfl hc2 ?_
      refine q_seq ?_
      refine q_region ?_
      refine q_x (v := (.agg #[(.int .i64 0), (.int .i64 0)])) hF hS (ex_build (cells := [(.int .i64 0), (.int .i64 0)]) rfl (by kernel_rfl)) rfl rfl fun a hF => ?_
      refine q_store (vs := [(.int .i64 0), (.int .i64 0)]) (cs' := [(.int .i64 0), (.int .i64 0)]) 2 0 hF hS sz24 rfl rfl rfl rfl rfl rfl rfl rfl fun a w hF hS => ?_
      refine q_x (v := (.bool false)) hF hS (ex_assign rfl) rfl rfl fun a hF => ?_
      refine q_end (n_sq (q_ret (r_sq ?_)))
      obtain rfl := someI hr
      exact ret_of hF hS rfl (.cellA (us := [(.int .i64 0), (.int .i64 0)]) 2 0 Try.underlying24 rfl sz24 rfl rfl rfl rfl (.tmp rfl .nil)) rfl
  · have hr := cond_t hc1 hr
    refine q_cond_t hF rfl hc1 ?_
    refine q_seq ?_
    refine q_region ?_
    refine q_x (v := (.agg #[(.int .i64 0), (.int .i64 0)])) hF hS (ex_build (cells := [(.int .i64 0), (.int .i64 0)]) rfl (by kernel_rfl)) rfl rfl fun a hF => ?_
    refine q_store (vs := [(.int .i64 0), (.int .i64 0)]) (cs' := [(.int .i64 0), (.int .i64 0)]) 1 0 hF hS sz24 rfl rfl rfl rfl rfl rfl rfl rfl fun a w hF hS => ?_
    refine q_x (v := (.bool false)) hF hS (ex_assign rfl) rfl rfl fun a hF => ?_
    refine q_end (n_sq (q_ret (r_sq ?_)))
    obtain rfl := someI hr
    exact ret_of hF hS rfl (.cellA (us := [(.int .i64 0), (.int .i64 0)]) 1 0 Try.underlying24 rfl sz24 rfl rfl rfl rfl (.tmp rfl .nil)) rfl

theorem c_impl_lessOne (p_a : impl_Frac) (r : impl_Frac) (hr : impl_lessOne p_a = some r) (w0 : World) (m : Mem) (hv : Vis m w0) :
    Ret Try.prog 132 [(.agg #[(.int .i64 p_a.Num), (.int .i64 p_a.Den)])] w0 (fun v _ => v = (.agg #[(.int .i64 r.Num), (.int .i64 r.Den)])) := by
  unfold impl_lessOne at hr
  refine ret_start Try.func132 rfl 11 rfl rfl m hv fun a hF hS => ?_
  refine q_seq ?_
  refine q_region ?_
  refine q_box (cs := [(.int .i64 p_a.Num), (.int .i64 p_a.Den)]) hF hS rfl rfl rfl fun a w b1 hF hS => ?_
  refine q_alloc (cs := [(.int .i64 0), (.int .i64 0)]) hF hS rfl rfl rfl fun a w b2 hF hS => ?_
  refine q_end (n_sq ?_)
  refine q_seq ?_
  refine q_region ?_
  refine q_x (v := (.pointer (some ⟨b1, 1, none⟩))) hF hS (ex_fieldAddr Try.underlying24 rfl sz3 rfl rfl) rfl rfl fun a hF => ?_
  refine q_x (v := (.int .i64 p_a.Den)) hF hS (ex_load1 1 0 Try.underlying3 rfl rfl rfl rfl) rfl rfl fun a hF => ?_
  refine q_x (v := (.pointer (some ⟨b1, 0, none⟩))) hF hS (ex_fieldAddr Try.underlying24 rfl sz3 rfl rfl) rfl rfl fun a hF => ?_
  refine q_x (v := (.int .i64 p_a.Num)) hF hS (ex_load1 1 0 Try.underlying3 rfl rfl rfl rfl) rfl rfl fun a hF => ?_
  refine q_x (v := (.int .i64 (w64 (p_a.Den - p_a.Num)))) hF hS (ex_ibin rfl rfl rfl) rfl rfl fun a hF => ?_
  refine q_x (v := (.pointer (some ⟨b1, 1, none⟩))) hF hS (ex_fieldAddr Try.underlying24 rfl sz3 rfl rfl) rfl rfl fun a hF => ?_
  refine q_x (v := (.int .i64 p_a.Den)) hF hS (ex_load1 1 0 Try.underlying3 rfl rfl rfl rfl) rfl rfl fun a hF => ?_
  refine q_x (v := (.agg #[(.int .i64 (w64 (p_a.Den - p_a.Num))), (.int .i64 p_a.Den)])) hF hS (ex_build (cells := [(.int .i64 (w64 (p_a.Den - p_a.Num))), (.int .i64 p_a.Den)]) rfl (by kernel_rfl)) rfl rfl fun a hF => ?_
  refine q_store (vs := [(.int .i64 (w64 (p_a.Den - p_a.Num))), (.int .i64 p_a.Den)]) (cs' := [(.int .i64 (w64 (p_a.Den - p_a.Num))), (.int .i64 p_a.Den)]) 0 0 hF hS sz24 rfl rfl rfl rfl rfl rfl rfl rfl fun a w hF hS => ?_
  refine q_end (n_sq (q_ret ?_))
  obtain rfl := someI hr
  exact ret_of hF hS rfl (.cellA (us := [(.int .i64 (w64 (p_a.Den - p_a.Num))), (.int .i64 p_a.Den)]) 0 0 Try.underlying24 rfl sz24 rfl rfl rfl rfl .nil) rfl

theorem c_impl_geoMass (p_a : impl_Frac) (p_k : Int) (r : impl_Frac × Bool) (hr : impl_geoMass p_a p_k = some r) (w0 : World) (m : Mem) (hv : Vis m w0) :
    Ret Try.prog 127 [(.agg #[(.int .i64 p_a.Num), (.int .i64 p_a.Den)]), (.int .i64 p_k)] w0 (fun v _ => v = (.tuple #[(.agg #[(.int .i64 r.1.Num), (.int .i64 r.1.Den)]), (.bool r.2)])) := by
  unfold impl_geoMass at hr
  refine ret_start Try.func127 rfl 42 rfl rfl m hv fun a hF hS => ?_
  refine q_seq ?_
  refine q_region ?_
  refine q_box (cs := [(.int .i64 p_a.Num), (.int .i64 p_a.Den)]) hF hS rfl rfl rfl fun a w b1 hF hS => ?_
  refine q_alloc (cs := [(.int .i64 0), (.int .i64 0)]) hF hS rfl rfl rfl fun a w b2 hF hS => ?_
  refine q_x (v := (.bool false)) hF hS (ex_assign rfl) rfl rfl fun a hF => ?_
  refine q_end (n_sq ?_)
  refine q_seq ?_
  refine q_region ?_
  refine q_x (v := (.agg #[(.int .i64 p_a.Num), (.int .i64 p_a.Den)])) hF hS (ex_loadA (vs := [(.int .i64 p_a.Num), (.int .i64 p_a.Den)]) 1 0 Try.underlying24 rfl sz24 rfl rfl rfl rfl) rfl rfl fun a hF => ?_
  obtain ⟨t_3, ht_3, hr⟩ := bindS hr
  refine q_call (vs := [(.agg #[(.int .i64 p_a.Num), (.int .i64 p_a.Den)])]) hF hS Try.func165 (by kernel_rfl) rfl rfl rfl (c_impl_moreOne p_a t_3 ht_3 _ m hS.vis) ?_
  rintro a w _ rfl hF hS
  refine q_x (v := (.tuple #[(.agg #[(.int .i64 t_3.1.Num), (.int .i64 t_3.1.Den)]), (.bool t_3.2)])) hF hS (ex_move rfl) rfl rfl fun a hF => ?_
  refine q_x (v := (.agg #[(.int .i64 t_3.1.Num), (.int .i64 t_3.1.Den)])) hF hS (ex_extract rfl rfl) rfl rfl fun a hF => ?_
  refine q_x (v := (.bool t_3.2)) hF hS (ex_extract rfl rfl) rfl rfl fun a hF => ?_
  refine q_alloc (cs := [(.int .i64 0), (.int .i64 0)]) hF hS rfl rfl rfl fun a w b4 hF hS => ?_
  refine q_store (vs := [(.int .i64 t_3.1.Num), (.int .i64 t_3.1.Den)]) (cs' := [(.int .i64 t_3.1.Num), (.int .i64 t_3.1.Den)]) 0 0 hF hS sz24 rfl rfl rfl rfl rfl rfl rfl rfl fun a w hF hS => ?_
  refine q_x (v := (.bool t_3.2)) hF hS (ex_assign rfl) rfl rfl fun a hF => ?_
  refine q_end (n_sq ?_)
  refine q_seq ?_
  refine q_seq ?_
  refine q_region ?_
  refine q_x (v := (.bool t_3.2)) hF hS (ex_move rfl) rfl rfl fun a hF => ?_
  refine q_x (v := (.bool (!t_3.2))) hF hS (ex_not rfl) rfl rfl fun a hF => ?_
  refine q_end (n_sq ?_)
  rcases bcase (!t_3.2) with hc1 | hc1
  · have hr := cond_f hc1 hr
    refine q_cond_f hF rfl hc1 ?_
    refine q_skipc (n_sq ?_)
    refine q_seq ?_
    obtain ⟨j2, hj2, hr⟩ := bindS hr
    refine q_join (fun a w => ∃ b9, ∃ ok_10, ∃ c_11, j2 = (ok_10, c_11) ∧ Fr a 42 [(1, (.int .i64 p_k)), (2, (.pointer (some ⟨b1, 0, none⟩))), (4, (.pointer (some ⟨b2, 0, none⟩))), (7, (.bool ok_10)), (8, (.pointer (some ⟨b9, 0, none⟩)))] ∧ St [] w0 w m [[⟨b9, [(.int .i64 c_11.Num), (.int .i64 c_11.Den)], 24⟩], [⟨b2, [(.int .i64 0), (.int .i64 0)], 24⟩], [⟨b1, [(.int .i64 p_a.Num), (.int .i64 p_a.Den)], 24⟩]]) ?_ ?_
    · refine e_region [8] mixed fun w' hw' => ?_
      have hS := hS.below hw'
      refine e_x (v := (.agg #[(.int .i64 p_a.Num), (.int .i64 p_a.Den)])) 0 hF hS rfl (ex_loadA (vs := [(.int .i64 p_a.Num), (.int .i64 p_a.Den)]) 2 0 Try.underlying24 rfl sz24 rfl rfl rfl rfl) rfl rfl (by kernel_rfl) (by kernel_rfl) (by kernel_rfl) (by kernel_rfl) fun a hF => ?_
      refine e_x (v := (.agg #[(.int .i64 t_3.1.Num), (.int .i64 t_3.1.Den)])) 2 hF hS rfl (ex_loadA (vs := [(.int .i64 t_3.1.Num), (.int .i64 t_3.1.Den)]) 0 0 Try.underlying24 rfl sz24 rfl rfl rfl rfl) rfl rfl (by kernel_rfl) (by kernel_rfl) (by kernel_rfl) (by kernel_rfl) fun a hF => ?_
      obtain ⟨t_7, ht_7, hj2⟩ := bindS hj2
      obtain ⟨t_8, ht_8, hj2⟩ := bindS hj2
      refine e_all [1, 7] (by kernel_rfl) rfl ⟨?_, ?_, trivial⟩
      · refine e_call (vs := [(.agg #[(.int .i64 p_a.Num), (.int .i64 p_a.Den)])]) hF hS rfl Try.func132 (by kernel_rfl) rfl rfl rfl (c_impl_lessOne p_a t_7 ht_7 _ m hS.vis) ?_
        rintro a w _ rfl hF hS
        refine e_all [3, 7] (by kernel_rfl) rfl ⟨?_, ?_, trivial⟩
        · refine e_call (vs := [(.agg #[(.int .i64 t_7.Num), (.int .i64 t_7.Den)]), (.agg #[(.int .i64 t_3.1.Num), (.int .i64 t_3.1.Den)])]) hF hS rfl Try.func80 (by kernel_rfl) rfl rfl rfl (c_impl_DivFrac t_7 t_3.1 t_8 ht_8 _ m hS.vis) ?_
          rintro a w _ rfl hF hS
          refine e_p (v := (.tuple #[(.agg #[(.int .i64 t_8.1.Num), (.int .i64 t_8.1.Den)]), (.bool t_8.2)])) 4 hF rfl (ex_move rfl) rfl rfl (by kernel_rfl) (by kernel_rfl) (by kernel_rfl) fun a hF => ?_
          refine e_p (v := (.agg #[(.int .i64 t_8.1.Num), (.int .i64 t_8.1.Den)])) 5 hF rfl (ex_extract rfl rfl) rfl rfl (by kernel_rfl) (by kernel_rfl) (by kernel_rfl) fun a hF => ?_
          refine e_p (v := (.bool t_8.2)) 6 hF rfl (ex_extract rfl rfl) rfl rfl (by kernel_rfl) (by kernel_rfl) (by kernel_rfl) fun a hF => ?_
          refine e_one 7 (by kernel_rfl) ?_
          refine e_alloc (cs := [(.int .i64 0), (.int .i64 0)]) hF hS rfl rfl rfl rfl fun a w b9 hF hS => ?_
          refine e_one 8 (by kernel_rfl) ?_
          refine e_store (vs := [(.int .i64 t_8.1.Num), (.int .i64 t_8.1.Den)]) (cs' := [(.int .i64 t_8.1.Num), (.int .i64 t_8.1.Den)]) 0 0 hF hS rfl rfl sz24 rfl rfl rfl rfl rfl rfl rfl rfl fun a w hF hS => ?_
          refine e_p (v := (.bool t_8.2)) 9 hF rfl (ex_assign rfl) rfl rfl (by kernel_rfl) (by kernel_rfl) (by kernel_rfl) fun a hF => ?_
          refine e_end (by kernel_rfl) (n_jn ?_) _
          obtain rfl := someI hj2
          exact ⟨b9, _, _, rfl, hF.sub ⟨rfl, rfl, rfl, rfl, rfl, trivial⟩, hS.mask [true, false, true, true]⟩
        · refine e_alloc (cs := [(.int .i64 0), (.int .i64 0)]) hF hS rfl rfl rfl rfl fun a w b9 hF hS => ?_
          refine e_one 3 (by kernel_rfl) ?_
          refine e_call (vs := [(.agg #[(.int .i64 t_7.Num), (.int .i64 t_7.Den)]), (.agg #[(.int .i64 t_3.1.Num), (.int .i64 t_3.1.Den)])]) hF hS rfl Try.func80 (by kernel_rfl) rfl rfl rfl (c_impl_DivFrac t_7 t_3.1 t_8 ht_8 _ m hS.vis) ?_
          rintro a w _ rfl hF hS
          refine e_p (v := (.tuple #[(.agg #[(.int .i64 t_8.1.Num), (.int .i64 t_8.1.Den)]), (.bool t_8.2)])) 4 hF rfl (ex_move rfl) rfl rfl (by kernel_rfl) (by kernel_rfl) (by kernel_rfl) fun a hF => ?_
          refine e_p (v := (.agg #[(.int .i64 t_8.1.Num), (.int .i64 t_8.1.Den)])) 5 hF rfl (ex_extract rfl rfl) rfl rfl (by kernel_rfl) (by kernel_rfl) (by kernel_rfl) fun a hF => ?_
          refine e_p (v := (.bool t_8.2)) 6 hF rfl (ex_extract rfl rfl) rfl rfl (by kernel_rfl) (by kernel_rfl) (by kernel_rfl) fun a hF => ?_
          refine e_one 8 (by kernel_rfl) ?_
          refine e_store (vs := [(.int .i64 t_8.1.Num), (.int .i64 t_8.1.Den)]) (cs' := [(.int .i64 t_8.1.Num), (.int .i64 t_8.1.Den)]) 0 0 hF hS rfl rfl sz24 rfl rfl rfl rfl rfl rfl rfl rfl fun a w hF hS => ?_
          refine e_p (v := (.bool t_8.2)) 9 hF rfl (ex_assign rfl) rfl rfl (by kernel_rfl) (by kernel_rfl) (by kernel_rfl) fun a hF => ?_
          refine e_end (by kernel_rfl) (n_jn ?_) _
          obtain rfl := someI hj2
          exact ⟨b9, _, _, rfl, hF.sub ⟨rfl, rfl, rfl, rfl, rfl, trivial⟩, hS.mask [true, false, true, true]⟩
      · refine e_alloc (cs := [(.int .i64 0), (.int .i64 0)]) hF hS rfl rfl rfl rfl fun a w b9 hF hS => ?_
        refine e_one 1 (by kernel_rfl) ?_
        refine e_call (vs := [(.agg #[(.int .i64 p_a.Num), (.int .i64 p_a.Den)])]) hF hS rfl Try.func132 (by kernel_rfl) rfl rfl rfl (c_impl_lessOne p_a t_7 ht_7 _ m hS.vis) ?_
        rintro a w _ rfl hF hS
        refine e_one 3 (by kernel_rfl) ?_
        refine e_call (vs := [(.agg #[(.int .i64 t_7.Num), (.int .i64 t_7.Den)]), (.agg #[(.int .i64 t_3.1.Num), (.int .i64 t_3.1.Den)])]) hF hS rfl Try.func80 (by kernel_rfl) rfl rfl rfl (c_impl_DivFrac t_7 t_3.1 t_8 ht_8 _ m hS.vis) ?_
        rintro a w _ rfl hF hS
        refine e_p (v := (.tuple #[(.agg #[(.int .i64 t_8.1.Num), (.int .i64 t_8.1.Den)]), (.bool t_8.2)])) 4 hF rfl (ex_move rfl) rfl rfl (by kernel_rfl) (by kernel_rfl) (by kernel_rfl) fun a hF => ?_
        refine e_p (v := (.agg #[(.int .i64 t_8.1.Num), (.int .i64 t_8.1.Den)])) 5 hF rfl (ex_extract rfl rfl) rfl rfl (by kernel_rfl) (by kernel_rfl) (by kernel_rfl) fun a hF => ?_
        refine e_p (v := (.bool t_8.2)) 6 hF rfl (ex_extract rfl rfl) rfl rfl (by kernel_rfl) (by kernel_rfl) (by kernel_rfl) fun a hF => ?_
        refine e_one 8 (by kernel_rfl) ?_
        refine e_store (vs := [(.int .i64 t_8.1.Num), (.int .i64 t_8.1.Den)]) (cs' := [(.int .i64 t_8.1.Num), (.int .i64 t_8.1.Den)]) 0 0 hF hS rfl rfl sz24 rfl rfl rfl rfl rfl rfl rfl rfl fun a w hF hS => ?_
        refine e_p (v := (.bool t_8.2)) 9 hF rfl (ex_assign rfl) rfl rfl (by kernel_rfl) (by kernel_rfl) (by kernel_rfl) fun a hF => ?_
        refine e_end (by kernel_rfl) (n_jn ?_) _
        obtain rfl := someI hj2
        exact ⟨b9, _, _, rfl, hF.sub ⟨rfl, rfl, rfl, rfl, rfl, trivial⟩, hS.mask [true, false, true, true]⟩
    · rintro a w ⟨b9, ok_10, c_11, rfl, hF, hS⟩
      refine n_sq ?_
      refine q_seq ?_
      refine q_seq ?_
      refine q_region ?_
      refine q_x (v := (.bool ok_10)) hF hS (ex_move rfl) rfl rfl fun a hF => ?_
      refine q_x (v := (.bool (!ok_10))) hF hS (ex_not rfl) rfl rfl fun a hF => ?_
      refine q_end (n_sq ?_)
      rcases bcase (!ok_10) with hc3 | hc3
      · have hr := cond_f hc3 hr
        refine q_cond_f hF rfl hc3 ?_
        refine q_skipc (n_sq ?_)
        refine q_seq ?_
        refine q_region ?_
        refine q_x (v := (.agg #[(.int .i64 p_a.Num), (.int .i64 p_a.Den)])) hF hS (ex_loadA (vs := [(.int .i64 p_a.Num), (.int .i64 p_a.Den)]) 2 0 Try.underlying24 rfl sz24 rfl rfl rfl rfl) rfl rfl fun a hF => ?_
        refine q_x (v := (.int .i64 p_k)) hF hS (ex_move rfl) rfl rfl fun a hF => ?_
        obtain ⟨t_12, ht_12, hr⟩ := bindS hr
        refine q_call (vs := [(.agg #[(.int .i64 p_a.Num), (.int .i64 p_a.Den)]), (.int .i64 p_k)]) hF hS Try.func102 (by kernel_rfl) rfl rfl rfl (c_impl_PowFrac p_a p_k t_12 ht_12 _ m hS.vis) ?_
        rintro a w _ rfl hF hS
        refine q_x (v := (.tuple #[(.agg #[(.int .i64 t_12.1.Num), (.int .i64 t_12.1.Den)]), (.bool t_12.2)])) hF hS (ex_move rfl) rfl rfl fun a hF => ?_
        refine q_x (v := (.agg #[(.int .i64 t_12.1.Num), (.int .i64 t_12.1.Den)])) hF hS (ex_extract rfl rfl) rfl rfl fun a hF => ?_
        refine q_x (v := (.bool t_12.2)) hF hS (ex_extract rfl rfl) rfl rfl fun a hF => ?_
        refine q_alloc (cs := [(.int .i64 0), (.int .i64 0)]) hF hS rfl rfl rfl fun a w b13 hF hS => ?_
        refine q_store (vs := [(.int .i64 t_12.1.Num), (.int .i64 t_12.1.Den)]) (cs' := [(.int .i64 t_12.1.Num), (.int .i64 t_12.1.Den)]) 0 0 hF hS sz24 rfl rfl rfl rfl rfl rfl rfl rfl fun a w hF hS => ?_
        refine q_x (v := (.bool t_12.2)) hF hS (ex_assign rfl) rfl rfl fun a hF => ?_
        refine q_end (n_sq ?_)
        refine q_seq ?_
        refine q_seq ?_
        refine q_region ?_
        refine q_x (v := (.bool t_12.2)) hF hS (ex_move rfl) rfl rfl fun a hF => ?_
        refine q_x (v := (.bool (!t_12.2))) hF hS (ex_not rfl) rfl rfl fun a hF => ?_
        refine q_end (n_sq ?_)
        rcases bcase (!t_12.2) with hc4 | hc4
        · have hr := cond_f hc4 hr
          refine q_cond_f hF rfl hc4 ?_
          refine q_skipc (n_sq ?_)
          refine q_seq ?_
          refine q_region ?_
          refine q_x (v := (.agg #[(.int .i64 c_11.Num), (.int .i64 c_11.Den)])) hF hS (ex_loadA (vs := [(.int .i64 c_11.Num), (.int .i64 c_11.Den)]) 1 0 Try.underlying24 rfl sz24 rfl rfl rfl rfl) rfl rfl fun a hF => ?_
          refine q_x (v := (.agg #[(.int .i64 t_12.1.Num), (.int .i64 t_12.1.Den)])) hF hS (ex_loadA (vs := [(.int .i64 t_12.1.Num), (.int .i64 t_12.1.Den)]) 0 0 Try.underlying24 rfl sz24 rfl rfl rfl rfl) rfl rfl fun a hF => ?_
          obtain ⟨t_14, ht_14, hr⟩ := bindS hr
          refine q_call (vs := [(.agg #[(.int .i64 c_11.Num), (.int .i64 c_11.Den)]), (.agg #[(.int .i64 t_12.1.Num), (.int .i64 t_12.1.Den)])]) hF hS Try.func103 (by kernel_rfl) rfl rfl rfl (c_impl_MulFrac c_11 t_12.1 t_14 ht_14 _ m hS.vis) ?_
          rintro a w _ rfl hF hS
          refine q_x (v := (.agg #[(.int .i64 t_14.1.Num), (.int .i64 t_14.1.Den)])) hF hS (ex_extract rfl rfl) rfl rfl fun a hF => ?_
          refine q_x (v := (.bool t_14.2)) hF hS (ex_extract rfl rfl) rfl rfl fun a hF => ?_
          refine q_store (vs := [(.int .i64 t_14.1.Num), (.int .i64 t_14.1.Den)]) (cs' := [(.int .i64 t_14.1.Num), (.int .i64 t_14.1.Den)]) 2 0 hF hS sz24 rfl rfl rfl rfl rfl rfl rfl rfl fun a w hF hS => ?_
          refine q_x (v := (.bool t_14.2)) hF hS (ex_assign rfl) rfl rfl fun a hF => ?_
          refine q_end (n_sq (q_ret ?_))
          obtain rfl := someI hr
          exact ret_of hF hS rfl (.cellA (us := [(.int .i64 t_14.1.Num), (.int .i64 t_14.1.Den)]) 2 0 Try.underlying24 rfl sz24 rfl rfl rfl rfl (.tmp rfl .nil)) rfl
        · have hr := cond_t hc4 hr
          refine q_cond_t hF rfl hc4 ?_
          refine q_seq ?_
          refine q_region ?_
          refine q_x (v := (.agg #[(.int .i64 0), (.int .i64 0)])) hF hS (ex_build (cells := [(.int .i64 0), (.int .i64 0)]) rfl (by kernel_rfl)) rfl rfl fun a hF => ?_
          refine q_store (vs := [(.int .i64 0), (.int .i64 0)]) (cs' := [(.int .i64 0), (.int .i64 0)]) 2 0 hF hS sz24 rfl rfl rfl rfl rfl rfl rfl rfl fun a w hF hS => ?_
          refine q_x (v := (.bool false)) hF hS (ex_assign rfl) rfl rfl fun a hF => ?_
          refine q_end (n_sq (q_ret (r_sq ?_)))
          obtain rfl := someI hr
          exact ret_of hF hS rfl (.cellA (us := [(.int .i64 0), (.int .i64 0)]) 2 0 Try.underlying24 rfl sz24 rfl rfl rfl rfl (.tmp rfl .nil)) rfl
      · have hr := cond_t hc3 hr
        refine q_cond_t hF rfl hc3 ?_
        refine q_seq ?_
        refine q_region ?_
        refine q_x (v := (.agg #[(.int .i64 0), (.int .i64 0)])) hF hS (ex_build (cells := [(.int .i64 0), (.int .i64 0)]) rfl (by kernel_rfl)) rfl rfl fun a hF => ?_
        refine q_store (vs := [(.int .i64 0), (.int .i64 0)]) (cs' := [(.int .i64 0), (.int .i64 0)]) 1 0 hF hS sz24 rfl rfl rfl rfl rfl rfl rfl rfl fun a w hF hS => ?_
        refine q_x (v := (.bool false)) hF hS (ex_assign rfl) rfl rfl fun a hF => ?_
        refine q_end (n_sq (q_ret (r_sq ?_)))
        obtain rfl := someI hr
        exact ret_of hF hS rfl (.cellA (us := [(.int .i64 0), (.int .i64 0)]) 1 0 Try.underlying24 rfl sz24 rfl rfl rfl rfl (.tmp rfl .nil)) rfl
  · have hr := cond_t hc1 hr
    refine q_cond_t hF rfl hc1 ?_
    refine q_seq ?_
    refine q_region ?_
    refine q_x (v := (.agg #[(.int .i64 0), (.int .i64 0)])) hF hS (ex_build (cells := [(.int .i64 0), (.int .i64 0)]) rfl (by kernel_rfl)) rfl rfl fun a hF => ?_
    refine q_store (vs := [(.int .i64 0), (.int .i64 0)]) (cs' := [(.int .i64 0), (.int .i64 0)]) 1 0 hF hS sz24 rfl rfl rfl rfl rfl rfl rfl rfl fun a w hF hS => ?_
    refine q_x (v := (.bool false)) hF hS (ex_assign rfl) rfl rfl fun a hF => ?_
    refine q_end (n_sq (q_ret (r_sq ?_)))
    obtain rfl := someI hr
    exact ret_of hF hS rfl (.cellA (us := [(.int .i64 0), (.int .i64 0)]) 1 0 Try.underlying24 rfl sz24 rfl rfl rfl rfl (.tmp rfl .nil)) rfl

theorem c_impl_clampedMasses (p_a : impl_Frac) (p_lo : Int) (p_hi : Int) (p_x : Int) (r : (List impl_Frac) × Bool) (hr : impl_clampedMasses p_a p_lo p_hi p_x = some r) (w0 : World) (m : Mem) (hv : Vis m w0) :
    Ret Try.prog 122 [(.agg #[(.int .i64 p_a.Num), (.int .i64 p_a.Den)]), (.int .i64 p_lo), (.int .i64 p_hi), (.int .i64 p_x)] w0 (fun v w => ∃ (q0' : Piece) (s0' : Sl), v = (.tuple #[s0'.v, (.bool r.2)]) ∧ St [] w0 w m [q0'] ∧ OwnL m 24 q0' s0' r.1) := by
  unfold impl_clampedMasses at hr
  refine ret_start Try.func122 rfl 74 rfl rfl m hv fun a hF hS => ?_
  refine q_seq ?_
  refine q_region ?_
  refine q_box (cs := [(.int .i64 p_a.Num), (.int .i64 p_a.Den)]) hF hS rfl rfl rfl fun a w b1 hF hS => ?_
  refine q_x (v := nilS.v) hF hS (ex_assign rfl) rfl rfl fun a hF => ?_
  refine q_x (v := (.bool false)) hF hS (ex_assign rfl) rfl rfl fun a hF => ?_
  refine q_end (n_sq ?_)
  refine q_seq ?_
  refine q_seq ?_
  refine q_region ?_
  refine q_x (v := (.int .i64 p_lo)) hF hS (ex_move rfl) rfl rfl fun a hF => ?_
  refine q_x (v := (.int .i64 p_hi)) hF hS (ex_move rfl) rfl rfl fun a hF => ?_
  refine q_x (v := (.bool (p_lo == p_hi))) hF hS (ex_ibin rfl rfl rfl) rfl rfl fun a hF => ?_
  refine q_end (n_sq ?_)
  rcases bcase (p_lo == p_hi) with hc1 | hc1
  · have hr := cond_f hc1 hr
    refine q_cond_f hF rfl hc1 ?_
    refine q_skipc (n_sq ?_)
    refine q_seq ?_
    refine q_region ?_
    refine q_x (v := (.int .i64 p_hi)) hF hS (ex_move rfl) rfl rfl fun a hF => ?_
    refine q_x (v := (.int .i64 p_lo)) hF hS (ex_move rfl) rfl rfl fun a hF => ?_
    refine q_x (v := (.int .i64 (w64 (p_hi - p_lo)))) hF hS (ex_ibin rfl rfl rfl) rfl rfl fun a hF => ?_
    refine q_x (v := (.int .i64 (w64 ((w64 (p_hi - p_lo)) + 1)))) hF hS (ex_ibin rfl rfl rfl) rfl rfl fun a hF => ?_
    obtain ⟨l_2, hl_2, hr⟩ := bindS hr
    refine q_do rfl fun _ hK => wp_make (z := ((impl_Frac.mk 0 0) : impl_Frac)) hF hS Try.underlying56 inf24 rfl rfl rfl rfl rfl (by decide) hl_2 rfl fun a w q3 s3 hF hS h3 _ => hK _ _ ?_
    refine q_x (v := s3.v) hF hS (ex_assign rfl) rfl rfl fun a hF => ?_
    refine q_end (n_sq ?_)
    refine q_seq ?_
    refine q_seq ?_
    refine q_region ?_
    refine q_x (v := s3.v) hF hS (ex_move rfl) rfl rfl fun a hF => ?_
    refine q_x (v := (.int .i64 (goLen l_2))) hF hS (ex_len Try.underlying56 rfl h3.len) rfl rfl fun a hF => ?_
    refine q_x (v := (.int .i64 0)) hF hS (ex_move rfl) rfl rfl fun a hF => ?_
    refine q_end (n_sq ?_)
    refine q_block ?_
    obtain ⟨o2, hl2, hr⟩ := bindS hr
    refine q_loop (fun (s : (List impl_Frac) × Int) a w => ∃ (q5 : Piece), ∃ out_4, ∃ t_6, s = (out_4, t_6) ∧ Fr a 74 [(1, (.int .i64 p_lo)), (2, (.int .i64 p_hi)), (3, (.int .i64 p_x)), (4, (.pointer (some ⟨b1, 0, none⟩))), (10, s3.v), (25, (.int .i64 (goLen l_2))), (26, (.int .i64 t_6))] ∧ St [] w0 w m [q5, [⟨b1, [(.int .i64 p_a.Num), (.int .i64 p_a.Den)], 24⟩]] ∧ OwnL m 24 q5 s3 out_4) (fun (o : ((List impl_Frac)) ⊕ ((List impl_Frac) × Bool)) e a w => ∃ (q20 : Piece), ∃ out_19, o = .inl out_19 ∧ e = .exit 0 ∧ Fr a 74 [(10, s3.v)] ∧ St [] w0 w m [q20] ∧ OwnL m 24 q20 s3 out_19) hl2 ⟨q3, _, _, rfl, hF.sub ⟨rfl, rfl, rfl, rfl, rfl, rfl, rfl, trivial⟩, hS, h3⟩ ?_ ?_
    · clear hF hS
      rintro s a w st ⟨q5, out_4, t_6, rfl, hF, hS, h5⟩ hb2
      unfold impl_clampedMasses_l1 at hb2
      refine q_seq ?_
      refine q_region ?_
      refine q_x (v := (.bool (decide (t_6 < (goLen l_2))))) hF hS (ex_ibin rfl rfl rfl) rfl rfl fun a hF => ?_
      refine q_end (n_sq ?_)
      refine q_seq ?_
      rcases bcase (decide (t_6 < (goLen l_2))) with hc3 | hc3
      · have hb2 := cond_f hc3 hb2
        refine q_cond_f hF rfl hc3 ?_
        refine q_exit (x_sq ?_)
        obtain rfl := someI hb2
        exact ⟨nofun, .inl ⟨q5, _, rfl, rfl, hF.sub ⟨rfl, trivial⟩, hS.mask [true, false], h5⟩⟩
      · have hb2 := cond_t hc3 hb2
        refine q_cond_t hF rfl hc3 ?_
        refine q_skipc (n_sq ?_)
        refine q_seq ?_
        refine q_block ?_
        refine q_seq ?_
        refine q_region ?_
        refine q_x (v := (.int .i64 t_6)) hF hS (ex_move rfl) rfl rfl fun a hF => ?_
        refine q_x (v := (.int .i64 t_6)) hF hS (ex_assign rfl) rfl rfl fun a hF => ?_
        refine q_end (n_sq ?_)
        refine q_seq ?_
        refine q_region ?_
        refine q_x (v := (.int .i64 p_lo)) hF hS (ex_move rfl) rfl rfl fun a hF => ?_
        refine q_x (v := (.int .i64 t_6)) hF hS (ex_move rfl) rfl rfl fun a hF => ?_
        refine q_x (v := (.int .i64 (w64 (p_lo + t_6)))) hF hS (ex_ibin rfl rfl rfl) rfl rfl fun a hF => ?_
        refine q_x (v := (.int .i64 (w64 (p_lo + t_6)))) hF hS (ex_assign rfl) rfl rfl fun a hF => ?_
        refine q_end (n_sq ?_)
        refine q_seq ?_
        refine q_region ?_
        refine q_x (v := (.bool false)) hF hS (ex_assign rfl) rfl rfl fun a hF => ?_
        refine q_end (n_sq ?_)
        refine q_seq ?_
        refine q_seq ?_
        obtain ⟨t_7, hj4, hb2⟩ := bindS hb2
        refine q_join (fun a w => Fr a 74 [(1, (.int .i64 p_lo)), (2, (.int .i64 p_hi)), (3, (.int .i64 p_x)), (4, (.pointer (some ⟨b1, 0, none⟩))), (10, s3.v), (11, (.int .i64 t_6)), (12, (.int .i64 (w64 (p_lo + t_6)))), (25, (.int .i64 (goLen l_2))), (26, (.int .i64 t_6)), (39, (.bool t_7))] ∧ St [] w0 w m [q5, [⟨b1, [(.int .i64 p_a.Num), (.int .i64 p_a.Den)], 24⟩]]) ?_ ?_
        · refine q_region ?_
          refine q_x (v := (.int .i64 (w64 (p_lo + t_6)))) hF hS (ex_move rfl) rfl rfl fun a hF => ?_
          refine q_x (v := (.int .i64 p_lo)) hF hS (ex_move rfl) rfl rfl fun a hF => ?_
          refine q_x (v := (.bool ((w64 (p_lo + t_6)) == p_lo))) hF hS (ex_ibin rfl rfl rfl) rfl rfl fun a hF => ?_
          refine q_x (v := (.bool ((w64 (p_lo + t_6)) == p_lo))) hF hS (ex_move rfl) rfl rfl fun a hF => ?_
          rcases bcase ((w64 (p_lo + t_6)) == p_lo) with hc5 | hc5
          · have hj4 := cond_f hc5 hj4
            refine q_xg (v := (.int .i64 (w64 (p_lo + t_6)))) hF hS (ex_move rfl) (wanted_t hF rfl rfl rfl hc5) rfl fun a hF => ?_
            refine q_xg (v := (.int .i64 p_hi)) hF hS (ex_move rfl) (wanted_t hF rfl rfl rfl hc5) rfl fun a hF => ?_
            refine q_xg (v := (.bool ((w64 (p_lo + t_6)) == p_hi))) hF hS (ex_ibin rfl rfl rfl) (wanted_t hF rfl rfl rfl hc5) rfl fun a hF => ?_
            refine q_x (v := (.bool ((w64 (p_lo + t_6)) == p_hi))) hF hS (ex_pick_f rfl rfl hc5) rfl rfl fun a hF => ?_
            refine q_end (n_jn ?_)
            obtain rfl := someI hj4
            exact ⟨hF.sub ⟨rfl, rfl, rfl, rfl, rfl, rfl, rfl, rfl, rfl, rfl, trivial⟩, hS⟩
          · have hj4 := cond_t hc5 hj4
            refine q_skip hF (wanted_f hF rfl rfl rfl hc5 rfl) rfl fun a hF => ?_
            refine q_skip hF (wanted_f hF rfl rfl rfl hc5 rfl) rfl fun a hF => ?_
            refine q_skip hF (wanted_f hF rfl rfl rfl hc5 rfl) rfl fun a hF => ?_
            refine q_x (v := (.bool true)) hF hS (ex_pick_t rfl rfl hc5) rfl rfl fun a hF => ?_
            refine q_end (n_jn ?_)
            obtain rfl := someI hj4
            exact ⟨hF.sub ⟨rfl, rfl, rfl, rfl, rfl, rfl, rfl, rfl, rfl, rfl, trivial⟩, hS⟩
        · rintro a w ⟨hF, hS⟩
          refine n_sq ?_
          obtain ⟨j6, hj6, hb2⟩ := bindS hb2
          refine q_join (fun a w => ∃ (q17 : Piece), ∃ out_16, ∃ ok_18, j6 = (out_16, ok_18) ∧ Fr a 74 [(1, (.int .i64 p_lo)), (2, (.int .i64 p_hi)), (3, (.int .i64 p_x)), (4, (.pointer (some ⟨b1, 0, none⟩))), (10, s3.v), (13, (.bool ok_18)), (25, (.int .i64 (goLen l_2))), (26, (.int .i64 t_6))] ∧ St [] w0 w m [q17, [⟨b1, [(.int .i64 p_a.Num), (.int .i64 p_a.Den)], 24⟩]] ∧ OwnL m 24 q17 s3 out_16) ?_ ?_
          · rcases bcase (t_7) with hc7 | hc7
            · have hj6 := cond_f hc7 hj6
              refine q_cond_f hF rfl hc7 ?_
              refine q_region ?_
              refine q_x (v := s3.v) hF hS (ex_move rfl) rfl rfl fun a hF => ?_
              refine q_x (v := (.int .i64 t_6)) hF hS (ex_move rfl) rfl rfl fun a hF => ?_
              refine q_x (v := (.agg #[(.int .i64 p_a.Num), (.int .i64 p_a.Den)])) hF hS (ex_loadA (vs := [(.int .i64 p_a.Num), (.int .i64 p_a.Den)]) 1 0 Try.underlying24 rfl sz24 rfl rfl rfl rfl) rfl rfl fun a hF => ?_
              refine q_x (v := (.int .i64 p_x)) hF hS (ex_move rfl) rfl rfl fun a hF => ?_
              refine q_x (v := (.int .i64 (w64 (p_lo + t_6)))) hF hS (ex_move rfl) rfl rfl fun a hF => ?_
              refine q_x (v := (.int .i64 (w64 (p_x - (w64 (p_lo + t_6)))))) hF hS (ex_ibin rfl rfl rfl) rfl rfl fun a hF => ?_
              refine q_x (v := (.int .i64 (w64 (p_lo + t_6)))) hF hS (ex_move rfl) rfl rfl fun a hF => ?_
              refine q_x (v := (.int .i64 p_x)) hF hS (ex_move rfl) rfl rfl fun a hF => ?_
              refine q_x (v := (.int .i64 (w64 ((w64 (p_lo + t_6)) - p_x)))) hF hS (ex_ibin rfl rfl rfl) rfl rfl fun a hF => ?_
              refine q_x (v := (.int .i64 (max (w64 (p_x - (w64 (p_lo + t_6)))) (w64 ((w64 (p_lo + t_6)) - p_x))))) hF hS (ex_max rfl rfl) rfl rfl fun a hF => ?_
              obtain ⟨t_8, ht_8, hj6⟩ := bindS hj6
              refine q_call (vs := [(.agg #[(.int .i64 p_a.Num), (.int .i64 p_a.Den)]), (.int .i64 (max (w64 (p_x - (w64 (p_lo + t_6)))) (w64 ((w64 (p_lo + t_6)) - p_x))))]) hF hS Try.func127 (by kernel_rfl) rfl rfl rfl (c_impl_geoMass p_a (max (w64 (p_x - (w64 (p_lo + t_6)))) (w64 ((w64 (p_lo + t_6)) - p_x))) t_8 ht_8 _ m hS.vis) ?_
              rintro a w _ rfl hF hS
              refine q_x (v := (.tuple #[(.agg #[(.int .i64 t_8.1.Num), (.int .i64 t_8.1.Den)]), (.bool t_8.2)])) hF hS (ex_move rfl) rfl rfl fun a hF => ?_
              refine q_x (v := (.agg #[(.int .i64 t_8.1.Num), (.int .i64 t_8.1.Den)])) hF hS (ex_extract rfl rfl) rfl rfl fun a hF => ?_
              refine q_x (v := (.bool t_8.2)) hF hS (ex_extract rfl rfl) rfl rfl fun a hF => ?_
              obtain ⟨e_9, he_9, hj6⟩ := bindS hj6
              obtain ⟨vs10, at10, d10⟩ := h5.at he_9 2 rfl
              obtain rfl : vs10 = [(.int .i64 e_9.Num), (.int .i64 e_9.Den)] := d10
              refine q_x (v := (elP s3 (t_6.toNat * 2))) hF hS (ex_indexAddr Try.underlying56 sz24 rfl rfl (h5.idx he_9)) rfl rfl fun a hF => ?_
              refine q_do rfl fun _ hK => wp_storeE (e' := t_8.1) (us := [(.int .i64 t_8.1.Num), (.int .i64 t_8.1.Den)]) (vs := [(.int .i64 e_9.Num), (.int .i64 e_9.Den)]) 0 hF hS h5 sz24 rfl rfl rfl rfl rfl rfl rfl he_9 at10 rfl rfl rfl fun w q11 hS h11 => hK _ _ ?_
              refine q_x (v := (.bool t_8.2)) hF hS (ex_assign rfl) rfl rfl fun a hF => ?_
              refine q_end (n_jn ?_)
              obtain rfl := someI hj6
              exact ⟨q11, _, _, rfl, hF.sub ⟨rfl, rfl, rfl, rfl, rfl, rfl, rfl, rfl, trivial⟩, hS, h11⟩
            · have hj6 := cond_t hc7 hj6
              refine q_cond_t hF rfl hc7 ?_
              refine q_region ?_
              refine q_x (v := s3.v) hF hS (ex_move rfl) rfl rfl fun a hF => ?_
              refine q_x (v := (.int .i64 t_6)) hF hS (ex_move rfl) rfl rfl fun a hF => ?_
              refine q_x (v := (.agg #[(.int .i64 p_a.Num), (.int .i64 p_a.Den)])) hF hS (ex_loadA (vs := [(.int .i64 p_a.Num), (.int .i64 p_a.Den)]) 1 0 Try.underlying24 rfl sz24 rfl rfl rfl rfl) rfl rfl fun a hF => ?_
              refine q_x (v := (.int .i64 p_x)) hF hS (ex_move rfl) rfl rfl fun a hF => ?_
              refine q_x (v := (.int .i64 (w64 (p_lo + t_6)))) hF hS (ex_move rfl) rfl rfl fun a hF => ?_
              refine q_x (v := (.int .i64 (w64 (p_x - (w64 (p_lo + t_6)))))) hF hS (ex_ibin rfl rfl rfl) rfl rfl fun a hF => ?_
              refine q_x (v := (.int .i64 (w64 (p_lo + t_6)))) hF hS (ex_move rfl) rfl rfl fun a hF => ?_
              refine q_x (v := (.int .i64 p_x)) hF hS (ex_move rfl) rfl rfl fun a hF => ?_
              refine q_x (v := (.int .i64 (w64 ((w64 (p_lo + t_6)) - p_x)))) hF hS (ex_ibin rfl rfl rfl) rfl rfl fun a hF => ?_
              refine q_x (v := (.int .i64 (max (w64 (p_x - (w64 (p_lo + t_6)))) (w64 ((w64 (p_lo + t_6)) - p_x))))) hF hS (ex_max rfl rfl) rfl rfl fun a hF => ?_
              obtain ⟨t_12, ht_12, hj6⟩ := bindS hj6
              refine q_call (vs := [(.agg #[(.int .i64 p_a.Num), (.int .i64 p_a.Den)]), (.int .i64 (max (w64 (p_x - (w64 (p_lo + t_6)))) (w64 ((w64 (p_lo + t_6)) - p_x))))]) hF hS Try.func129 (by kernel_rfl) rfl rfl rfl (c_impl_geoTail p_a (max (w64 (p_x - (w64 (p_lo + t_6)))) (w64 ((w64 (p_lo + t_6)) - p_x))) t_12 ht_12 _ m hS.vis) ?_
              rintro a w _ rfl hF hS
              refine q_x (v := (.tuple #[(.agg #[(.int .i64 t_12.1.Num), (.int .i64 t_12.1.Den)]), (.bool t_12.2)])) hF hS (ex_move rfl) rfl rfl fun a hF => ?_
              refine q_x (v := (.agg #[(.int .i64 t_12.1.Num), (.int .i64 t_12.1.Den)])) hF hS (ex_extract rfl rfl) rfl rfl fun a hF => ?_
              refine q_x (v := (.bool t_12.2)) hF hS (ex_extract rfl rfl) rfl rfl fun a hF => ?_
              obtain ⟨e_13, he_13, hj6⟩ := bindS hj6
              obtain ⟨vs14, at14, d14⟩ := h5.at he_13 2 rfl
              obtain rfl : vs14 = [(.int .i64 e_13.Num), (.int .i64 e_13.Den)] := d14
              refine q_x (v := (elP s3 (t_6.toNat * 2))) hF hS (ex_indexAddr Try.underlying56 sz24 rfl rfl (h5.idx he_13)) rfl rfl fun a hF => ?_
              refine q_do rfl fun _ hK => wp_storeE (e' := t_12.1) (us := [(.int .i64 t_12.1.Num), (.int .i64 t_12.1.Den)]) (vs := [(.int .i64 e_13.Num), (.int .i64 e_13.Den)]) 0 hF hS h5 sz24 rfl rfl rfl rfl rfl rfl rfl he_13 at14 rfl rfl rfl fun w q15 hS h15 => hK _ _ ?_
              refine q_x (v := (.bool t_12.2)) hF hS (ex_assign rfl) rfl rfl fun a hF => ?_
              refine q_end (n_jn ?_)
              obtain rfl := someI hj6
              exact ⟨q15, _, _, rfl, hF.sub ⟨rfl, rfl, rfl, rfl, rfl, rfl, rfl, rfl, trivial⟩, hS, h15⟩
          · rintro a w ⟨q17, out_16, ok_18, rfl, hF, hS, h17⟩
            refine n_sq ?_
            refine q_seq ?_
            refine q_region ?_
            refine q_x (v := (.bool ok_18)) hF hS (ex_move rfl) rfl rfl fun a hF => ?_
            refine q_x (v := (.bool (!ok_18))) hF hS (ex_not rfl) rfl rfl fun a hF => ?_
            refine q_end (n_sq ?_)
            rcases bcase (!ok_18) with hc8 | hc8
            · have hb2 := cond_f hc8 hb2
              refine q_cond_f hF rfl hc8 ?_
              refine q_skipc (n_ib (n_sq ?_))
              refine q_region ?_
              refine q_x (v := (.int .i64 (w64 (t_6 + 1)))) hF hS (ex_ibin rfl rfl rfl) rfl rfl fun a hF => ?_
              refine q_x (v := (.int .i64 (w64 (t_6 + 1)))) hF hS (ex_move rfl) rfl rfl fun a hF => ?_
              refine q_end ?_
              obtain rfl := someI hb2
              exact ⟨rfl, q17, _, _, rfl, hF.sub ⟨rfl, rfl, rfl, rfl, rfl, rfl, rfl, trivial⟩, hS, h17⟩
            · have hb2 := cond_t hc8 hb2
              refine q_cond_t hF rfl hc8 ?_
              refine q_seq ?_
              refine q_region ?_
              refine q_x (v := nilS.v) hF hS (ex_assign rfl) rfl rfl fun a hF => ?_
              refine q_x (v := (.bool false)) hF hS (ex_assign rfl) rfl rfl fun a hF => ?_
              refine q_end (n_sq (q_ret (r_ib (r_sq ?_))))
              obtain rfl := someI hb2
              refine ⟨nofun, .inr fun ho => ?_⟩
              subst ho
              refine r_ib (r_sq ?_)
              obtain rfl := someI hr
              exact ret_of hF hS rfl (.tmp rfl (.tmp rfl .nil)) ⟨[], nilS, rfl, hS.sel [2] (by decide), (OwnL.nil (α := impl_Frac) m 24)⟩
    · rintro e a w ⟨q20, out_19, rfl, rfl, hF, hS, h20⟩
      refine x_ib (n_sq ?_)
      refine q_seq ?_
      refine q_region ?_
      refine q_x (v := s3.v) hF hS (ex_move rfl) rfl rfl fun a hF => ?_
      refine q_x (v := s3.v) hF hS (ex_assign rfl) rfl rfl fun a hF => ?_
      refine q_x (v := (.bool true)) hF hS (ex_assign rfl) rfl rfl fun a hF => ?_
      refine q_end (n_sq (q_ret ?_))
      obtain rfl := someI hr
      exact ret_of hF hS rfl (.tmp rfl (.tmp rfl .nil)) ⟨q20, s3, rfl, hS.sel [0] (by decide), h20⟩
  · have hr := cond_t hc1 hr
    refine q_cond_t hF rfl hc1 ?_
    refine q_seq ?_
    refine q_region ?_
    refine q_x (v := (.agg #[(.int .i64 1), (.int .i64 1)])) hF hS (ex_build (cells := [(.int .i64 1), (.int .i64 1)]) rfl (by kernel_rfl)) rfl rfl fun a hF => ?_
    refine q_do rfl fun _ hK => wp_buildSlice' (l := ([(impl_Frac.mk 1 1)] : List impl_Frac)) (cells := [(.int .i64 1), (.int .i64 1)]) hF hS Try.underlying56 inf24 rfl rfl (by kernel_rfl) rfl rfl rfl ⟨rfl, rfl⟩ rfl rfl fun a w q21 s21 hF hS h21 _ => hK _ _ ?_
    refine q_x (v := s21.v) hF hS (ex_assign rfl) rfl rfl fun a hF => ?_
    refine q_x (v := (.bool true)) hF hS (ex_assign rfl) rfl rfl fun a hF => ?_
    refine q_end (n_sq (q_ret (r_sq ?_)))
    obtain rfl := someI hr
    exact ret_of hF hS rfl (.tmp rfl (.tmp rfl .nil)) ⟨q21, s21, rfl, hS.sel [0] (by decide), h21⟩

theorem c_impl_ClampedMasses (p_a : impl_Frac) (p_lo : Int) (p_hi : Int) (p_x : Int) (r : (List impl_Frac) × Bool) (hr : impl_ClampedMasses p_a p_lo p_hi p_x = some r) (w0 : World) (m : Mem) (hv : Vis m w0) :
    Ret Try.prog 39 [(.agg #[(.int .i64 p_a.Num), (.int .i64 p_a.Den)]), (.int .i64 p_lo), (.int .i64 p_hi), (.int .i64 p_x)] w0 (fun v w => ∃ (q0' : Piece) (s0' : Sl), v = (.tuple #[s0'.v, (.bool r.2)]) ∧ St [] w0 w m [q0'] ∧ OwnL m 24 q0' s0' r.1) := by
  unfold impl_ClampedMasses at hr
  refine ret_start Try.func39 rfl 36 rfl rfl m hv fun a hF hS => ?_
  refine q_seq ?_
  refine q_region ?_
  refine q_box (cs := [(.int .i64 p_a.Num), (.int .i64 p_a.Den)]) hF hS rfl rfl rfl fun a w b1 hF hS => ?_
  refine q_x (v := nilS.v) hF hS (ex_assign rfl) rfl rfl fun a hF => ?_
  refine q_x (v := (.bool false)) hF hS (ex_assign rfl) rfl rfl fun a hF => ?_
  refine q_end (n_sq ?_)
  refine q_seq ?_
  refine q_seq ?_
  obtain ⟨t_4, hj1, hr⟩ := bindS hr
  refine q_join (fun a w => Fr a 36 [(1, (.int .i64 p_lo)), (2, (.int .i64 p_hi)), (3, (.int .i64 p_x)), (4, (.pointer (some ⟨b1, 0, none⟩))), (28, (.bool t_4))] ∧ St [] w0 w m [[⟨b1, [(.int .i64 p_a.Num), (.int .i64 p_a.Den)], 24⟩]]) ?_ ?_
  · refine q_region ?_
    refine q_x (v := (.agg #[(.int .i64 p_a.Num), (.int .i64 p_a.Den)])) hF hS (ex_loadA (vs := [(.int .i64 p_a.Num), (.int .i64 p_a.Den)]) 0 0 Try.underlying24 rfl sz24 rfl rfl rfl rfl) rfl rfl fun a hF => ?_
    obtain ⟨t_2, ht_2, hj1⟩ := bindS hj1
    refine q_call (vs := [(.agg #[(.int .i64 p_a.Num), (.int .i64 p_a.Den)])]) hF hS Try.func120 (by kernel_rfl) rfl rfl rfl (c_impl_isRatio p_a t_2 ht_2 _ m hS.vis) ?_
    rintro a w _ rfl hF hS
    refine q_x (v := (.bool (!t_2))) hF hS (ex_not rfl) rfl rfl fun a hF => ?_
    refine q_x (v := (.bool (!t_2))) hF hS (ex_move rfl) rfl rfl fun a hF => ?_
    rcases bcase (!t_2) with hc2 | hc2
    · have hj1 := cond_f hc2 hj1
      refine q_xg (v := (.int .i64 p_lo)) hF hS (ex_move rfl) (wanted_t hF rfl rfl rfl hc2) rfl fun a hF => ?_
      refine q_xg (v := (.int .i64 p_hi)) hF hS (ex_move rfl) (wanted_t hF rfl rfl rfl hc2) rfl fun a hF => ?_
      obtain ⟨t_3, ht_3, hj1⟩ := bindS hj1
      refine q_callg (vs := [(.int .i64 p_lo), (.int .i64 p_hi)]) hF hS (wanted_t hF rfl rfl rfl hc2) Try.func121 (by kernel_rfl) rfl rfl rfl (c_impl_isClamp p_lo p_hi t_3 ht_3 _ m hS.vis) ?_
      rintro a w _ rfl hF hS
      refine q_xg (v := (.bool (!t_3))) hF hS (ex_not rfl) (wanted_t hF rfl rfl rfl hc2) rfl fun a hF => ?_
      refine q_x (v := (.bool (!t_3))) hF hS (ex_pick_f rfl rfl hc2) rfl rfl fun a hF => ?_
      refine q_x (v := (.bool (!t_3))) hF hS (ex_move rfl) rfl rfl fun a hF => ?_
      rcases bcase (!t_3) with hc3 | hc3
      · have hj1 := cond_f hc3 hj1
        refine q_xg (v := (.int .i64 p_x)) hF hS (ex_move rfl) (wanted_t hF rfl rfl rfl hc3) rfl fun a hF => ?_
        refine q_xg (v := (.int .i64 p_lo)) hF hS (ex_move rfl) (wanted_t hF rfl rfl rfl hc3) rfl fun a hF => ?_
        refine q_xg (v := (.bool (decide (p_x < p_lo)))) hF hS (ex_ibin rfl rfl rfl) (wanted_t hF rfl rfl rfl hc3) rfl fun a hF => ?_
        refine q_x (v := (.bool (decide (p_x < p_lo)))) hF hS (ex_pick_f rfl rfl hc3) rfl rfl fun a hF => ?_
        refine q_x (v := (.bool (decide (p_x < p_lo)))) hF hS (ex_move rfl) rfl rfl fun a hF => ?_
        rcases bcase (decide (p_x < p_lo)) with hc4 | hc4
        · have hj1 := cond_f hc4 hj1
          refine q_xg (v := (.int .i64 p_x)) hF hS (ex_move rfl) (wanted_t hF rfl rfl rfl hc4) rfl fun a hF => ?_
          refine q_xg (v := (.int .i64 p_hi)) hF hS (ex_move rfl) (wanted_t hF rfl rfl rfl hc4) rfl fun a hF => ?_
          refine q_xg (v := (.bool (decide (p_hi < p_x)))) hF hS (ex_ibin rfl rfl rfl) (wanted_t hF rfl rfl rfl hc4) rfl fun a hF => ?_
          refine q_x (v := (.bool (decide (p_hi < p_x)))) hF hS (ex_pick_f rfl rfl hc4) rfl rfl fun a hF => ?_
          refine q_end (n_jn ?_)
          obtain rfl := someI hj1
          exact ⟨hF.sub ⟨rfl, rfl, rfl, rfl, rfl, trivial⟩, hS⟩
        · have hj1 := cond_t hc4 hj1
          refine q_skip hF (wanted_f hF rfl rfl rfl hc4 rfl) rfl fun a hF => ?_
          refine q_skip hF (wanted_f hF rfl rfl rfl hc4 rfl) rfl fun a hF => ?_
          refine q_skip hF (wanted_f hF rfl rfl rfl hc4 rfl) rfl fun a hF => ?_
          refine q_x (v := (.bool true)) hF hS (ex_pick_t rfl rfl hc4) rfl rfl fun a hF => ?_
          refine q_end (n_jn ?_)
          obtain rfl := someI hj1
          exact ⟨hF.sub ⟨rfl, rfl, rfl, rfl, rfl, trivial⟩, hS⟩
      · have hj1 := cond_t hc3 hj1
        refine q_skip hF (wanted_f hF rfl rfl rfl hc3 rfl) rfl fun a hF => ?_
        refine q_skip hF (wanted_f hF rfl rfl rfl hc3 rfl) rfl fun a hF => ?_
        refine q_skip hF (wanted_f hF rfl rfl rfl hc3 rfl) rfl fun a hF => ?_
        refine q_x (v := (.bool true)) hF hS (ex_pick_t rfl rfl hc3) rfl rfl fun a hF => ?_
        refine q_x (v := (.bool true)) hF hS (ex_move rfl) rfl rfl fun a hF => ?_
        refine q_skip hF (wanted_f hF rfl rfl rfl rfl rfl) rfl fun a hF => ?_
        refine q_skip hF (wanted_f hF rfl rfl rfl rfl rfl) rfl fun a hF => ?_
        refine q_skip hF (wanted_f hF rfl rfl rfl rfl rfl) rfl fun a hF => ?_
        refine q_x (v := (.bool true)) hF hS (ex_pick_t rfl rfl rfl) rfl rfl fun a hF => ?_
        refine q_end (n_jn ?_)
        obtain rfl := someI hj1
        exact ⟨hF.sub ⟨rfl, rfl, rfl, rfl, rfl, trivial⟩, hS⟩
    · have hj1 := cond_t hc2 hj1
      refine q_skip hF (wanted_f hF rfl rfl rfl hc2 rfl) rfl fun a hF => ?_
      refine q_skip hF (wanted_f hF rfl rfl rfl hc2 rfl) rfl fun a hF => ?_
      refine q_skip hF (wanted_f hF rfl rfl rfl hc2 rfl) rfl fun a hF => ?_
      refine q_skip hF (wanted_f hF rfl rfl rfl hc2 rfl) rfl fun a hF => ?_
      refine q_x (v := (.bool true)) hF hS (ex_pick_t rfl rfl hc2) rfl rfl fun a hF => ?_
      refine q_x (v := (.bool true)) hF hS (ex_move rfl) rfl rfl fun a hF => ?_
      refine q_skip hF (wanted_f hF rfl rfl rfl rfl rfl) rfl fun a hF => ?_
      refine q_skip hF (wanted_f hF rfl rfl rfl rfl rfl) rfl fun a hF => ?_
      refine q_skip hF (wanted_f hF rfl rfl rfl rfl rfl) rfl fun a hF => ?_
      refine q_x (v := (.bool true)) hF hS (ex_pick_t rfl rfl rfl) rfl rfl fun a hF => ?_
      refine q_x (v := (.bool true)) hF hS (ex_move rfl) rfl rfl fun a hF => ?_
      refine q_skip hF (wanted_f hF rfl rfl rfl rfl rfl) rfl fun a hF => ?_
      refine q_skip hF (wanted_f hF rfl rfl rfl rfl rfl) rfl fun a hF => ?_
      refine q_skip hF (wanted_f hF rfl rfl rfl rfl rfl) rfl fun a hF => ?_
      refine q_x (v := (.bool true)) hF hS (ex_pick_t rfl rfl rfl) rfl rfl fun a hF => ?_
      refine q_end (n_jn ?_)
      obtain rfl := someI hj1
      exact ⟨hF.sub ⟨rfl, rfl, rfl, rfl, rfl, trivial⟩, hS⟩
  · rintro a w ⟨hF, hS⟩
    refine n_sq ?_
    rcases bcase (t_4) with hc5 | hc5
    · have hr := cond_f hc5 hr
      refine q_cond_f hF rfl hc5 ?_
      refine q_skipc (n_sq ?_)
      refine q_seq ?_
      refine q_region ?_
      refine q_x (v := (.agg #[(.int .i64 p_a.Num), (.int .i64 p_a.Den)])) hF hS (ex_loadA (vs := [(.int .i64 p_a.Num), (.int .i64 p_a.Den)]) 0 0 Try.underlying24 rfl sz24 rfl rfl rfl rfl) rfl rfl fun a hF => ?_
      refine q_x (v := (.int .i64 p_lo)) hF hS (ex_move rfl) rfl rfl fun a hF => ?_
      refine q_x (v := (.int .i64 p_hi)) hF hS (ex_move rfl) rfl rfl fun a hF => ?_
      refine q_x (v := (.int .i64 p_x)) hF hS (ex_move rfl) rfl rfl fun a hF => ?_
      obtain ⟨t_5, ht_5, hr⟩ := bindS hr
      refine q_call (vs := [(.agg #[(.int .i64 p_a.Num), (.int .i64 p_a.Den)]), (.int .i64 p_lo), (.int .i64 p_hi), (.int .i64 p_x)]) hF hS Try.func122 (by kernel_rfl) rfl rfl rfl (c_impl_clampedMasses p_a p_lo p_hi p_x t_5 ht_5 _ m hS.vis) ?_
      rintro a w _ ⟨q7, s7, rfl, hR6, h7⟩ hF hS2
      have hS : St _ _ _ _ [q7, [⟨b1, [(.int .i64 p_a.Num), (.int .i64 p_a.Den)], 24⟩]] := hS.joinF hR6
      refine q_x (v := s7.v) hF hS (ex_extract rfl rfl) rfl rfl fun a hF => ?_
      refine q_x (v := (.bool t_5.2)) hF hS (ex_extract rfl rfl) rfl rfl fun a hF => ?_
      refine q_x (v := s7.v) hF hS (ex_assign rfl) rfl rfl fun a hF => ?_
      refine q_x (v := (.bool t_5.2)) hF hS (ex_assign rfl) rfl rfl fun a hF => ?_
      refine q_end (n_sq (q_ret ?_))
      obtain rfl := someI hr
      exact ret_of hF hS rfl (.tmp rfl (.tmp rfl .nil)) ⟨q7, s7, rfl, hS.sel [0] (by decide), h7⟩
    · have hr := cond_t hc5 hr
      refine q_cond_t hF rfl hc5 ?_
      refine q_seq ?_
      refine q_region ?_
      refine q_x (v := nilS.v) hF hS (ex_assign rfl) rfl rfl fun a hF => ?_
      refine q_x (v := (.bool false)) hF hS (ex_assign rfl) rfl rfl fun a hF => ?_
      refine q_end (n_sq (q_ret (r_sq ?_)))
      obtain rfl := someI hr
      exact ret_of hF hS rfl (.tmp rfl (.tmp rfl .nil)) ⟨[], nilS, rfl, hS.sel [1] (by decide), (OwnL.nil (α := impl_Frac) m 24)⟩

theorem c_spec_zRatio (p_a : impl_Frac) (r : Bool) (hr : spec_zRatio p_a = some r) (w0 : World) (m : Mem) (hv : Vis m w0) :
    Ret Try.prog 123 [(.agg #[(.int .i64 p_a.Num), (.int .i64 p_a.Den)])] w0 (fun v _ => v = (.bool r)) := by
  unfold spec_zRatio at hr
  refine ret_start Try.func123 rfl 17 rfl rfl m hv fun a hF hS => ?_
  refine q_seq ?_
  refine q_region ?_
  refine q_box (cs := [(.int .i64 p_a.Num), (.int .i64 p_a.Den)]) hF hS rfl rfl rfl fun a w b1 hF hS => ?_
  refine q_x (v := (.bool false)) hF hS (ex_assign rfl) rfl rfl fun a hF => ?_
  refine q_end (n_sq ?_)
  refine q_seq ?_
  obtain ⟨t_3, hj1, hr⟩ := bindS hr
  refine q_join (fun a w => Fr a 17 [(2, (.bool t_3))] ∧ St [] w0 w m []) ?_ ?_
  · refine q_region ?_
    refine q_x (v := (.agg #[(.int .i64 p_a.Num), (.int .i64 p_a.Den)])) hF hS (ex_loadA (vs := [(.int .i64 p_a.Num), (.int .i64 p_a.Den)]) 0 0 Try.underlying24 rfl sz24 rfl rfl rfl rfl) rfl rfl fun a hF => ?_
    obtain ⟨t_2, ht_2, hj1⟩ := bindS hj1
    refine q_call (vs := [(.agg #[(.int .i64 p_a.Num), (.int .i64 p_a.Den)])]) hF hS Try.func115 (by kernel_rfl) rfl rfl rfl (c_spec_fGood p_a t_2 ht_2 _ m hS.vis) ?_
    rintro a w _ rfl hF hS
    refine q_x (v := (.bool t_2)) hF hS (ex_move rfl) rfl rfl fun a hF => ?_
    rcases bcase (t_2) with hc2 | hc2
    · have hj1 := cond_f hc2 hj1
      refine q_skip hF (wanted_f hF rfl rfl rfl hc2 rfl) rfl fun a hF => ?_
      refine q_skip hF (wanted_f hF rfl rfl rfl hc2 rfl) rfl fun a hF => ?_
      refine q_skip hF (wanted_f hF rfl rfl rfl hc2 rfl) rfl fun a hF => ?_
      refine q_x (v := (.bool false)) hF hS (ex_pick_f rfl rfl hc2) rfl rfl fun a hF => ?_
      refine q_x (v := (.bool false)) hF hS (ex_move rfl) rfl rfl fun a hF => ?_
      refine q_skip hF (wanted_f hF rfl rfl rfl rfl rfl) rfl fun a hF => ?_
      refine q_skip hF (wanted_f hF rfl rfl rfl rfl rfl) rfl fun a hF => ?_
      refine q_skip hF (wanted_f hF rfl rfl rfl rfl rfl) rfl fun a hF => ?_
      refine q_skip hF (wanted_f hF rfl rfl rfl rfl rfl) rfl fun a hF => ?_
      refine q_skip hF (wanted_f hF rfl rfl rfl rfl rfl) rfl fun a hF => ?_
      refine q_x (v := (.bool false)) hF hS (ex_pick_f rfl rfl rfl) rfl rfl fun a hF => ?_
      refine q_x (v := (.bool false)) hF hS (ex_assign rfl) rfl rfl fun a hF => ?_
      refine q_end (n_jn ?_)
      obtain rfl := someI hj1
      exact ⟨hF.sub ⟨rfl, trivial⟩, hS.mask [false]⟩
    · have hj1 := cond_t hc2 hj1
      refine q_xg (v := (.pointer (some ⟨b1, 0, none⟩))) hF hS (ex_fieldAddr Try.underlying24 rfl sz3 rfl rfl) (wanted_t hF rfl rfl rfl hc2) rfl fun a hF => ?_
      refine q_xg (v := (.int .i64 p_a.Num)) hF hS (ex_load1 0 0 Try.underlying3 rfl rfl rfl rfl) (wanted_t hF rfl rfl rfl hc2) rfl fun a hF => ?_
      refine q_xg (v := (.bool (decide (0 < p_a.Num)))) hF hS (ex_ibin rfl rfl rfl) (wanted_t hF rfl rfl rfl hc2) rfl fun a hF => ?_
      refine q_x (v := (.bool (decide (0 < p_a.Num)))) hF hS (ex_pick_t rfl rfl hc2) rfl rfl fun a hF => ?_
      refine q_x (v := (.bool (decide (0 < p_a.Num)))) hF hS (ex_move rfl) rfl rfl fun a hF => ?_
      rcases bcase (decide (0 < p_a.Num)) with hc3 | hc3
      · have hj1 := cond_f hc3 hj1
        refine q_skip hF (wanted_f hF rfl rfl rfl hc3 rfl) rfl fun a hF => ?_
        refine q_skip hF (wanted_f hF rfl rfl rfl hc3 rfl) rfl fun a hF => ?_
        refine q_skip hF (wanted_f hF rfl rfl rfl hc3 rfl) rfl fun a hF => ?_
        refine q_skip hF (wanted_f hF rfl rfl rfl hc3 rfl) rfl fun a hF => ?_
        refine q_skip hF (wanted_f hF rfl rfl rfl hc3 rfl) rfl fun a hF => ?_
        refine q_x (v := (.bool false)) hF hS (ex_pick_f rfl rfl hc3) rfl rfl fun a hF => ?_
        refine q_x (v := (.bool false)) hF hS (ex_assign rfl) rfl rfl fun a hF => ?_
        refine q_end (n_jn ?_)
        obtain rfl := someI hj1
        exact ⟨hF.sub ⟨rfl, trivial⟩, hS.mask [false]⟩
      · have hj1 := cond_t hc3 hj1
        refine q_xg (v := (.pointer (some ⟨b1, 0, none⟩))) hF hS (ex_fieldAddr Try.underlying24 rfl sz3 rfl rfl) (wanted_t hF rfl rfl rfl hc3) rfl fun a hF => ?_
        refine q_xg (v := (.int .i64 p_a.Num)) hF hS (ex_load1 0 0 Try.underlying3 rfl rfl rfl rfl) (wanted_t hF rfl rfl rfl hc3) rfl fun a hF => ?_
        refine q_xg (v := (.pointer (some ⟨b1, 1, none⟩))) hF hS (ex_fieldAddr Try.underlying24 rfl sz3 rfl rfl) (wanted_t hF rfl rfl rfl hc3) rfl fun a hF => ?_
        refine q_xg (v := (.int .i64 p_a.Den)) hF hS (ex_load1 0 0 Try.underlying3 rfl rfl rfl rfl) (wanted_t hF rfl rfl rfl hc3) rfl fun a hF => ?_
        refine q_xg (v := (.bool (decide (p_a.Num < p_a.Den)))) hF hS (ex_ibin rfl rfl rfl) (wanted_t hF rfl rfl rfl hc3) rfl fun a hF => ?_
        refine q_x (v := (.bool (decide (p_a.Num < p_a.Den)))) hF hS (ex_pick_t rfl rfl hc3) rfl rfl fun a hF => ?_
        refine q_x (v := (.bool (decide (p_a.Num < p_a.Den)))) hF hS (ex_assign rfl) rfl rfl fun a hF => ?_
        refine q_end (n_jn ?_)
        obtain rfl := someI hj1
        exact ⟨hF.sub ⟨rfl, trivial⟩, hS.mask [false]⟩
  · rintro a w ⟨hF, hS⟩
    refine n_sq (q_ret ?_)
    obtain rfl := someI hr
    exact ret_of hF hS rfl (.tmp rfl .nil) rfl

theorem c_spec_zBounds (p_lo : Int) (p_hi : Int) (r : Bool) (hr : spec_zBounds p_lo p_hi = some r) (w0 : World) (m : Mem) (hv : Vis m w0) :
    Ret Try.prog 124 [(.int .i64 p_lo), (.int .i64 p_hi)] w0 (fun v _ => v = (.bool r)) := by
  unfold spec_zBounds at hr
  refine ret_start Try.func124 rfl 18 rfl rfl m hv fun a hF hS => ?_
  refine q_seq ?_
  refine q_region ?_
  refine q_x (v := (.bool false)) hF hS (ex_assign rfl) rfl rfl fun a hF => ?_
  refine q_end (n_sq ?_)
  refine q_seq ?_
  obtain ⟨t_3, hj1, hr⟩ := bindS hr
  refine q_join (fun a w => Fr a 18 [(4, (.bool t_3))] ∧ St [] w0 w m []) ?_ ?_
  · refine q_region ?_
    refine q_x (v := (.int .i64 p_lo)) hF hS (ex_move rfl) rfl rfl fun a hF => ?_
    obtain ⟨t_1, ht_1, hj1⟩ := bindS hj1
    refine q_call (vs := [(.int .i64 p_lo), (.int .i64 (-1000000000)), (.int .i64 1000000000)]) hF hS Try.func104 (by kernel_rfl) rfl rfl rfl (c_spec_l1In p_lo (-1000000000) 1000000000 t_1 ht_1 _ m hS.vis) ?_
    rintro a w _ rfl hF hS
    refine q_x (v := (.bool t_1)) hF hS (ex_move rfl) rfl rfl fun a hF => ?_
    rcases bcase (t_1) with hc2 | hc2
    · have hj1 := cond_f hc2 hj1
      refine q_skip hF (wanted_f hF rfl rfl rfl hc2 rfl) rfl fun a hF => ?_
      refine q_skip hF (wanted_f hF rfl rfl rfl hc2 rfl) rfl fun a hF => ?_
      refine q_skip hF (wanted_f hF rfl rfl rfl hc2 rfl) rfl fun a hF => ?_
      refine q_x (v := (.bool false)) hF hS (ex_pick_f rfl rfl hc2) rfl rfl fun a hF => ?_
      refine q_x (v := (.bool false)) hF hS (ex_move rfl) rfl rfl fun a hF => ?_
      refine q_skip hF (wanted_f hF rfl rfl rfl rfl rfl) rfl fun a hF => ?_
      refine q_skip hF (wanted_f hF rfl rfl rfl rfl rfl) rfl fun a hF => ?_
      refine q_skip hF (wanted_f hF rfl rfl rfl rfl rfl) rfl fun a hF => ?_
      refine q_skip hF (wanted_f hF rfl rfl rfl rfl rfl) rfl fun a hF => ?_
      refine q_x (v := (.bool false)) hF hS (ex_pick_f rfl rfl rfl) rfl rfl fun a hF => ?_
      refine q_x (v := (.bool false)) hF hS (ex_assign rfl) rfl rfl fun a hF => ?_
      refine q_end (n_jn ?_)
      obtain rfl := someI hj1
      exact ⟨hF.sub ⟨rfl, trivial⟩, hS⟩
    · have hj1 := cond_t hc2 hj1
      refine q_xg (v := (.int .i64 p_hi)) hF hS (ex_move rfl) (wanted_t hF rfl rfl rfl hc2) rfl fun a hF => ?_
      refine q_xg (v := (.int .i64 p_lo)) hF hS (ex_move rfl) (wanted_t hF rfl rfl rfl hc2) rfl fun a hF => ?_
      obtain ⟨t_2, ht_2, hj1⟩ := bindS hj1
      refine q_callg (vs := [(.int .i64 p_hi), (.int .i64 p_lo), (.int .i64 1000000000)]) hF hS (wanted_t hF rfl rfl rfl hc2) Try.func104 (by kernel_rfl) rfl rfl rfl (c_spec_l1In p_hi p_lo 1000000000 t_2 ht_2 _ m hS.vis) ?_
      rintro a w _ rfl hF hS
      refine q_x (v := (.bool t_2)) hF hS (ex_pick_t rfl rfl hc2) rfl rfl fun a hF => ?_
      refine q_x (v := (.bool t_2)) hF hS (ex_move rfl) rfl rfl fun a hF => ?_
      rcases bcase (t_2) with hc3 | hc3
      · have hj1 := cond_f hc3 hj1
        refine q_skip hF (wanted_f hF rfl rfl rfl hc3 rfl) rfl fun a hF => ?_
        refine q_skip hF (wanted_f hF rfl rfl rfl hc3 rfl) rfl fun a hF => ?_
        refine q_skip hF (wanted_f hF rfl rfl rfl hc3 rfl) rfl fun a hF => ?_
        refine q_skip hF (wanted_f hF rfl rfl rfl hc3 rfl) rfl fun a hF => ?_
        refine q_x (v := (.bool false)) hF hS (ex_pick_f rfl rfl hc3) rfl rfl fun a hF => ?_
        refine q_x (v := (.bool false)) hF hS (ex_assign rfl) rfl rfl fun a hF => ?_
        refine q_end (n_jn ?_)
        obtain rfl := someI hj1
        exact ⟨hF.sub ⟨rfl, trivial⟩, hS⟩
      · have hj1 := cond_t hc3 hj1
        refine q_xg (v := (.int .i64 p_hi)) hF hS (ex_move rfl) (wanted_t hF rfl rfl rfl hc3) rfl fun a hF => ?_
        refine q_xg (v := (.int .i64 p_lo)) hF hS (ex_move rfl) (wanted_t hF rfl rfl rfl hc3) rfl fun a hF => ?_
        refine q_xg (v := (.int .i64 (w64 (p_hi - p_lo)))) hF hS (ex_ibin rfl rfl rfl) (wanted_t hF rfl rfl rfl hc3) rfl fun a hF => ?_
        refine q_xg (v := (.bool (decide ((w64 (p_hi - p_lo)) ≤ 12)))) hF hS (ex_ibin rfl rfl rfl) (wanted_t hF rfl rfl rfl hc3) rfl fun a hF => ?_
        refine q_x (v := (.bool (decide ((w64 (p_hi - p_lo)) ≤ 12)))) hF hS (ex_pick_t rfl rfl hc3) rfl rfl fun a hF => ?_
        refine q_x (v := (.bool (decide ((w64 (p_hi - p_lo)) ≤ 12)))) hF hS (ex_assign rfl) rfl rfl fun a hF => ?_
        refine q_end (n_jn ?_)
        obtain rfl := someI hj1
        exact ⟨hF.sub ⟨rfl, trivial⟩, hS⟩
  · rintro a w ⟨hF, hS⟩
    refine n_sq (q_ret ?_)
    obtain rfl := someI hr
    exact ret_of hF hS rfl (.tmp rfl .nil) rfl

theorem c_spec_fInt (p_n : Int) (r : impl_Frac) (hr : spec_fInt p_n = some r) (w0 : World) (m : Mem) (hv : Vis m w0) :
    Ret Try.prog 107 [(.int .i64 p_n)] w0 (fun v _ => v = (.agg #[(.int .i64 r.Num), (.int .i64 r.Den)])) := by
  unfold spec_fInt at hr
  refine ret_start Try.func107 rfl 5 rfl rfl m hv fun a hF hS => ?_
  refine q_seq ?_
  refine q_region ?_
  refine q_alloc (cs := [(.int .i64 0), (.int .i64 0)]) hF hS rfl rfl rfl fun a w b1 hF hS => ?_
  refine q_end (n_sq ?_)
  refine q_seq ?_
  refine q_region ?_
  refine q_x (v := (.int .i64 p_n)) hF hS (ex_move rfl) rfl rfl fun a hF => ?_
  refine q_x (v := (.agg #[(.int .i64 p_n), (.int .i64 1)])) hF hS (ex_build (cells := [(.int .i64 p_n), (.int .i64 1)]) rfl (by kernel_rfl)) rfl rfl fun a hF => ?_
  refine q_store (vs := [(.int .i64 p_n), (.int .i64 1)]) (cs' := [(.int .i64 p_n), (.int .i64 1)]) 0 0 hF hS sz24 rfl rfl rfl rfl rfl rfl rfl rfl fun a w hF hS => ?_
  refine q_end (n_sq (q_ret ?_))
  obtain rfl := someI hr
  exact ret_of hF hS rfl (.cellA (us := [(.int .i64 p_n), (.int .i64 1)]) 0 0 Try.underlying24 rfl sz24 rfl rfl rfl rfl .nil) rfl

theorem c_spec_fSub (p_a : impl_Frac) (p_b : impl_Frac) (r : impl_Frac × Bool) (hr : spec_fSub p_a p_b = some r) (w0 : World) (m : Mem) (hv : Vis m w0) :
    Ret Try.prog 85 [(.agg #[(.int .i64 p_a.Num), (.int .i64 p_a.Den)]), (.agg #[(.int .i64 p_b.Num), (.int .i64 p_b.Den)])] w0 (fun v _ => v = (.tuple #[(.agg #[(.int .i64 r.1.Num), (.int .i64 r.1.Den)]), (.bool r.2)])) := by
  unfold spec_fSub at hr
  refine ret_start Try.func85 rfl 25 rfl rfl m hv fun a hF hS => ?_
  refine q_seq ?_
  refine q_region ?_
  refine q_box (cs := [(.int .i64 p_a.Num), (.int .i64 p_a.Den)]) hF hS rfl rfl rfl fun a w b1 hF hS => ?_
  refine q_box (cs := [(.int .i64 p_b.Num), (.int .i64 p_b.Den)]) hF hS rfl rfl rfl fun a w b2 hF hS => ?_
  refine q_alloc (cs := [(.int .i64 0), (.int .i64 0)]) hF hS rfl rfl rfl fun a w b3 hF hS => ?_
  refine q_x (v := (.bool false)) hF hS (ex_assign rfl) rfl rfl fun a hF => ?_
  refine q_end (n_sq ?_)
  refine q_seq ?_
  refine q_region ?_
  refine q_x (v := (.pointer (some ⟨b1, 0, none⟩))) hF hS (ex_fieldAddr Try.underlying24 rfl sz3 rfl rfl) rfl rfl fun a hF => ?_
  refine q_x (v := (.int .i64 p_a.Num)) hF hS (ex_load1 2 0 Try.underlying3 rfl rfl rfl rfl) rfl rfl fun a hF => ?_
  refine q_x (v := (.pointer (some ⟨b2, 1, none⟩))) hF hS (ex_fieldAddr Try.underlying24 rfl sz3 rfl rfl) rfl rfl fun a hF => ?_
  refine q_x (v := (.int .i64 p_b.Den)) hF hS (ex_load1 1 0 Try.underlying3 rfl rfl rfl rfl) rfl rfl fun a hF => ?_
  refine q_x (v := (.int .i64 (w64 (p_a.Num * p_b.Den)))) hF hS (ex_ibin rfl rfl rfl) rfl rfl fun a hF => ?_
  refine q_x (v := (.pointer (some ⟨b2, 0, none⟩))) hF hS (ex_fieldAddr Try.underlying24 rfl sz3 rfl rfl) rfl rfl fun a hF => ?_
  refine q_x (v := (.int .i64 p_b.Num)) hF hS (ex_load1 1 0 Try.underlying3 rfl rfl rfl rfl) rfl rfl fun a hF => ?_
  refine q_x (v := (.pointer (some ⟨b1, 1, none⟩))) hF hS (ex_fieldAddr Try.underlying24 rfl sz3 rfl rfl) rfl rfl fun a hF => ?_
  refine q_x (v := (.int .i64 p_a.Den)) hF hS (ex_load1 2 0 Try.underlying3 rfl rfl rfl rfl) rfl rfl fun a hF => ?_
  refine q_x (v := (.int .i64 (w64 (p_b.Num * p_a.Den)))) hF hS (ex_ibin rfl rfl rfl) rfl rfl fun a hF => ?_
  refine q_x (v := (.int .i64 (w64 ((w64 (p_a.Num * p_b.Den)) - (w64 (p_b.Num * p_a.Den)))))) hF hS (ex_ibin rfl rfl rfl) rfl rfl fun a hF => ?_
  refine q_x (v := (.pointer (some ⟨b1, 1, none⟩))) hF hS (ex_fieldAddr Try.underlying24 rfl sz3 rfl rfl) rfl rfl fun a hF => ?_
  refine q_x (v := (.int .i64 p_a.Den)) hF hS (ex_load1 2 0 Try.underlying3 rfl rfl rfl rfl) rfl rfl fun a hF => ?_
  refine q_x (v := (.pointer (some ⟨b2, 1, none⟩))) hF hS (ex_fieldAddr Try.underlying24 rfl sz3 rfl rfl) rfl rfl fun a hF => ?_
  refine q_x (v := (.int .i64 p_b.Den)) hF hS (ex_load1 1 0 Try.underlying3 rfl rfl rfl rfl) rfl rfl fun a hF => ?_
  refine q_x (v := (.int .i64 (w64 (p_a.Den * p_b.Den)))) hF hS (ex_ibin rfl rfl rfl) rfl rfl fun a hF => ?_
  obtain ⟨t_4, ht_4, hr⟩ := bindS hr
  refine q_call (vs := [(.int .i64 (w64 ((w64 (p_a.Num * p_b.Den)) - (w64 (p_b.Num * p_a.Den))))), (.int .i64 (w64 (p_a.Den * p_b.Den)))]) hF hS Try.func117 (by kernel_rfl) rfl rfl rfl (c_spec_fMake (w64 ((w64 (p_a.Num * p_b.Den)) - (w64 (p_b.Num * p_a.Den)))) (w64 (p_a.Den * p_b.Den)) t_4 ht_4 _ m hS.vis) ?_
  rintro a w _ rfl hF hS
  refine q_x (v := (.agg #[(.int .i64 t_4.1.Num), (.int .i64 t_4.1.Den)])) hF hS (ex_extract rfl rfl) rfl rfl fun a hF => ?_
  refine q_x (v := (.bool t_4.2)) hF hS (ex_extract rfl rfl) rfl rfl fun a hF => ?_
  refine q_store (vs := [(.int .i64 t_4.1.Num), (.int .i64 t_4.1.Den)]) (cs' := [(.int .i64 t_4.1.Num), (.int .i64 t_4.1.Den)]) 0 0 hF hS sz24 rfl rfl rfl rfl rfl rfl rfl rfl fun a w hF hS => ?_
  refine q_x (v := (.bool t_4.2)) hF hS (ex_assign rfl) rfl rfl fun a hF => ?_
  refine q_end (n_sq (q_ret ?_))
  obtain rfl := someI hr
  exact ret_of hF hS rfl (.cellA (us := [(.int .i64 t_4.1.Num), (.int .i64 t_4.1.Den)]) 0 0 Try.underlying24 rfl sz24 rfl rfl rfl rfl (.tmp rfl .nil)) rfl

theorem c_spec_fAdd (p_a : impl_Frac) (p_b : impl_Frac) (r : impl_Frac × Bool) (hr : spec_fAdd p_a p_b = some r) (w0 : World) (m : Mem) (hv : Vis m w0) :
    Ret Try.prog 156 [(.agg #[(.int .i64 p_a.Num), (.int .i64 p_a.Den)]), (.agg #[(.int .i64 p_b.Num), (.int .i64 p_b.Den)])] w0 (fun v _ => v = (.tuple #[(.agg #[(.int .i64 r.1.Num), (.int .i64 r.1.Den)]), (.bool r.2)])) := by
  unfold spec_fAdd at hr
  refine ret_start Try.func156 rfl 25 rfl rfl m hv fun a hF hS => ?_
  refine q_seq ?_
  refine q_region ?_
  refine q_box (cs := [(.int .i64 p_a.Num), (.int .i64 p_a.Den)]) hF hS rfl rfl rfl fun a w b1 hF hS => ?_
  refine q_box (cs := [(.int .i64 p_b.Num), (.int .i64 p_b.Den)]) hF hS rfl rfl rfl fun a w b2 hF hS => ?_
  refine q_alloc (cs := [(.int .i64 0), (.int .i64 0)]) hF hS rfl rfl rfl fun a w b3 hF hS => ?_
  refine q_x (v := (.bool false)) hF hS (ex_assign rfl) rfl rfl fun a hF => ?_
  refine q_end (n_sq ?_)
  refine q_seq ?_
  refine q_region ?_
  refine q_x (v := (.pointer (some ⟨b1, 0, none⟩))) hF hS (ex_fieldAddr Try.underlying24 rfl sz3 rfl rfl) rfl rfl fun a hF => ?_
  refine q_x (v := (.int .i64 p_a.Num)) hF hS (ex_load1 2 0 Try.underlying3 rfl rfl rfl rfl) rfl rfl fun a hF => ?_
  refine q_x (v := (.pointer (some ⟨b2, 1, none⟩))) hF hS (ex_fieldAddr Try.underlying24 rfl sz3 rfl rfl) rfl rfl fun a hF => ?_
  refine q_x (v := (.int .i64 p_b.Den)) hF hS (ex_load1 1 0 Try.underlying3 rfl rfl rfl rfl) rfl rfl fun a hF => ?_
  refine q_x (v := (.int .i64 (w64 (p_a.Num * p_b.Den)))) hF hS (ex_ibin rfl rfl rfl) rfl rfl fun a hF => ?_
  refine q_x (v := (.pointer (some ⟨b2, 0, none⟩))) hF hS (ex_fieldAddr Try.underlying24 rfl sz3 rfl rfl) rfl rfl fun a hF => ?_
  refine q_x (v := (.int .i64 p_b.Num)) hF hS (ex_load1 1 0 Try.underlying3 rfl rfl rfl rfl) rfl rfl fun a hF => ?_
  refine q_x (v := (.pointer (some ⟨b1, 1, none⟩))) hF hS (ex_fieldAddr Try.underlying24 rfl sz3 rfl rfl) rfl rfl fun a hF => ?_
  refine q_x (v := (.int .i64 p_a.Den)) hF hS (ex_load1 2 0 Try.underlying3 rfl rfl rfl rfl) rfl rfl fun a hF => ?_
  refine q_x (v := (.int .i64 (w64 (p_b.Num * p_a.Den)))) hF hS (ex_ibin rfl rfl rfl) rfl rfl fun a hF => ?_
  refine q_x (v := (.int .i64 (w64 ((w64 (p_a.Num * p_b.Den)) + (w64 (p_b.Num * p_a.Den)))))) hF hS (ex_ibin rfl rfl rfl) rfl rfl fun a hF => ?_
  refine q_x (v := (.pointer (some ⟨b1, 1, none⟩))) hF hS (ex_fieldAddr Try.underlying24 rfl sz3 rfl rfl) rfl rfl fun a hF => ?_
  refine q_x (v := (.int .i64 p_a.Den)) hF hS (ex_load1 2 0 Try.underlying3 rfl rfl rfl rfl) rfl rfl fun a hF => ?_
  refine q_x (v := (.pointer (some ⟨b2, 1, none⟩))) hF hS (ex_fieldAddr Try.underlying24 rfl sz3 rfl rfl) rfl rfl fun a hF => ?_
  refine q_x (v := (.int .i64 p_b.Den)) hF hS (ex_load1 1 0 Try.underlying3 rfl rfl rfl rfl) rfl rfl fun a hF => ?_
  refine q_x (v := (.int .i64 (w64 (p_a.Den * p_b.Den)))) hF hS (ex_ibin rfl rfl rfl) rfl rfl fun a hF => ?_
  obtain ⟨t_4, ht_4, hr⟩ := bindS hr
  refine q_call (vs := [(.int .i64 (w64 ((w64 (p_a.Num * p_b.Den)) + (w64 (p_b.Num * p_a.Den))))), (.int .i64 (w64 (p_a.Den * p_b.Den)))]) hF hS Try.func117 (by kernel_rfl) rfl rfl rfl (c_spec_fMake (w64 ((w64 (p_a.Num * p_b.Den)) + (w64 (p_b.Num * p_a.Den)))) (w64 (p_a.Den * p_b.Den)) t_4 ht_4 _ m hS.vis) ?_
  rintro a w _ rfl hF hS
  refine q_x (v := (.agg #[(.int .i64 t_4.1.Num), (.int .i64 t_4.1.Den)])) hF hS (ex_extract rfl rfl) rfl rfl fun a hF => ?_
  refine q_x (v := (.bool t_4.2)) hF hS (ex_extract rfl rfl) rfl rfl fun a hF => ?_
  refine q_store (vs := [(.int .i64 t_4.1.Num), (.int .i64 t_4.1.Den)]) (cs' := [(.int .i64 t_4.1.Num), (.int .i64 t_4.1.Den)]) 0 0 hF hS sz24 rfl rfl rfl rfl rfl rfl rfl rfl fun a w hF hS => ?_
  refine q_x (v := (.bool t_4.2)) hF hS (ex_assign rfl) rfl rfl fun a hF => ?_
  refine q_end (n_sq (q_ret ?_))
  obtain rfl := someI hr
  exact ret_of hF hS rfl (.cellA (us := [(.int .i64 t_4.1.Num), (.int .i64 t_4.1.Den)]) 0 0 Try.underlying24 rfl sz24 rfl rfl rfl rfl (.tmp rfl .nil)) rfl

end Go.Proofs.Ytdbgmkfniichdaa
