/- The walks of the functions: each returns what its plain function says. -/
import Derived.Test.YtdbgmkfniichdaaFDefs
import Derived.Test.YtdbgmkfniichdaaRows
namespace Go.Proofs.Ytdbgmkfniichdaa
open Go.Gx Go.Gx.F Go.RowKit
set_option linter.all false
set_option maxRecDepth 10000

theorem mixed : Try.prog.follows .mixedOrders = true := by kernel_rfl
theorem inf3 : inf Try.prog 3 = some (1, 8, [(.int .i64 0)]) := by kernel_rfl
theorem inf42 : inf Try.prog 42 = some (1, 24, [nilS.v]) := by kernel_rfl
theorem sz3 : szOf Try.prog 3 = some 1 := by kernel_rfl
theorem sz5 : szOf Try.prog 5 = some 1 := by kernel_rfl
theorem sz22 : szOf Try.prog 22 = some 1 := by kernel_rfl
theorem sz42 : szOf Try.prog 42 = some 1 := by kernel_rfl
theorem sz89 : szOf Try.prog 89 = some 1 := by kernel_rfl
theorem sz101 : szOf Try.prog 101 = some 1 := by kernel_rfl

theorem c_laws_big (p_code : List (K .u8)) (p_more : List (K .u8)) (r : Bool) (hr : laws_big p_code p_more = some r) (w0 : World) (m : Mem) (hv : Vis m w0) (s1 : Sl) (h1 : Rd m s1 p_code) (s2 : Sl) (h2 : Rd m s2 p_more) :
    Ret Try.prog 37 [s1.v, s2.v] w0 (fun v _ => v = (.bool r)) := by
  unfold laws_big at hr
  refine ret_start Try.func37 rfl 16 rfl rfl m hv fun a hF hS => ?_
  refine q_seq ?_
  refine q_region ?_
  refine q_x (v := (.bool false)) hF hS (ex_assign rfl) rfl rfl fun a hF => ?_
  refine q_end (n_sq ?_)
  refine q_seq ?_
  obtain ⟨t_3, hj1, hr⟩ := bindS hr
  refine q_join (fun a w => Fr a 16 [(4, (.bool t_3))] ∧ St [] w0 w m []) ?_ ?_
  · refine q_region ?_
    refine q_x (v := s1.v) hF hS (ex_move rfl) rfl rfl fun a hF => ?_
    refine q_x (v := (.int .i64 (goLen p_code))) hF hS (ex_len Try.underlying22 rfl h1.len) rfl rfl fun a hF => ?_
    refine q_x (v := (.bool (decide (1048576 < (goLen p_code))))) hF hS (ex_ibin rfl rfl rfl) rfl rfl fun a hF => ?_
    refine q_x (v := (.bool (decide (1048576 < (goLen p_code))))) hF hS (ex_move rfl) rfl rfl fun a hF => ?_
    rcases bcase (decide (1048576 < (goLen p_code))) with hc2 | hc2
    · have hj1 := cond_f hc2 hj1
      refine q_xg (v := s2.v) hF hS (ex_move rfl) (wanted_t hF rfl rfl rfl hc2) rfl fun a hF => ?_
      refine q_xg (v := (.int .i64 (goLen p_more))) hF hS (ex_len Try.underlying22 rfl h2.len) (wanted_t hF rfl rfl rfl hc2) rfl fun a hF => ?_
      refine q_xg (v := s1.v) hF hS (ex_move rfl) (wanted_t hF rfl rfl rfl hc2) rfl fun a hF => ?_
      refine q_xg (v := (.int .i64 (goLen p_code))) hF hS (ex_len Try.underlying22 rfl h1.len) (wanted_t hF rfl rfl rfl hc2) rfl fun a hF => ?_
      refine q_xg (v := (.int .i64 (w64 (1048576 - (goLen p_code))))) hF hS (ex_ibin rfl rfl rfl) (wanted_t hF rfl rfl rfl hc2) rfl fun a hF => ?_
      refine q_xg (v := (.bool (decide ((w64 (1048576 - (goLen p_code))) < (goLen p_more))))) hF hS (ex_ibin rfl rfl rfl) (wanted_t hF rfl rfl rfl hc2) rfl fun a hF => ?_
      refine q_x (v := (.bool (decide ((w64 (1048576 - (goLen p_code))) < (goLen p_more))))) hF hS (ex_pick_f rfl rfl hc2) rfl rfl fun a hF => ?_
      refine q_x (v := (.bool (decide ((w64 (1048576 - (goLen p_code))) < (goLen p_more))))) hF hS (ex_assign rfl) rfl rfl fun a hF => ?_
      refine q_end (n_jn ?_)
      obtain rfl := someI hj1
      exact ⟨hF.sub ⟨rfl, trivial⟩, hS⟩
    · have hj1 := cond_t hc2 hj1
      refine q_skip hF (wanted_f hF rfl rfl rfl hc2 rfl) rfl fun a hF => ?_
      refine q_skip hF (wanted_f hF rfl rfl rfl hc2 rfl) rfl fun a hF => ?_
      refine q_skip hF (wanted_f hF rfl rfl rfl hc2 rfl) rfl fun a hF => ?_
      refine q_skip hF (wanted_f hF rfl rfl rfl hc2 rfl) rfl fun a hF => ?_
      refine q_skip hF (wanted_f hF rfl rfl rfl hc2 rfl) rfl fun a hF => ?_
      refine q_skip hF (wanted_f hF rfl rfl rfl hc2 rfl) rfl fun a hF => ?_
      refine q_x (v := (.bool true)) hF hS (ex_pick_t rfl rfl hc2) rfl rfl fun a hF => ?_
      refine q_x (v := (.bool true)) hF hS (ex_assign rfl) rfl rfl fun a hF => ?_
      refine q_end (n_jn ?_)
      obtain rfl := someI hj1
      exact ⟨hF.sub ⟨rfl, trivial⟩, hS⟩
  · rintro a w ⟨hF, hS⟩
    refine n_sq (q_ret ?_)
    obtain rfl := someI hr
    exact ret_of hF hS rfl (.tmp rfl .nil) rfl

theorem c_spec_l1Cur_next (p_c : spec_l1Cur) (r : Int × spec_l1Cur) (hr : spec_l1Cur_next p_c = some r) (w0 : World) (m : Mem) (b_p_c : Nat) (s1 : Sl) (h1 : Rd m s1 p_c.code) (X : List Nat) (hS : St X w0 w0 m [[⟨b_p_c, [s1.v, (.int .i64 p_c.at_), (.int .u64 p_c.seed.v)], 103⟩]]) :
    RetX Try.prog 160 [(.pointer (some ⟨b_p_c, 0, none⟩))] w0 (fun v w => v = (.int .i64 r.1) ∧ St X w0 w m [[⟨b_p_c, [s1.v, (.int .i64 r.2.at_), (.int .u64 r.2.seed.v)], 103⟩]] ∧ r.2.code = p_c.code) := by
  unfold spec_l1Cur_next at hr
  refine ret_startX Try.func160 rfl 62 rfl rfl fun a hF => ?_
  refine q_seq ?_
  refine q_region ?_
  refine q_x (v := (.int .i64 0)) hF hS (ex_assign rfl) rfl rfl fun a hF => ?_
  refine q_end (n_sq ?_)
  refine q_seq ?_
  refine q_region ?_
  refine q_x (v := (.int .i64 0)) hF hS (ex_assign rfl) rfl rfl fun a hF => ?_
  refine q_end (n_sq ?_)
  refine q_seq ?_
  refine q_seq ?_
  refine e_region [] mixed fun w' hw' => ?_
  have hS := hS.below hw'
  refine e_p (v := (.pointer (some ⟨b_p_c, 0, none⟩))) 0 hF rfl (ex_move rfl) rfl rfl (by kernel_rfl) (by kernel_rfl) (by kernel_rfl) fun a hF => ?_
  refine e_p (v := (.pointer (some ⟨b_p_c, 0, none⟩))) 1 hF rfl (ex_nilCheck rfl) rfl rfl (by kernel_rfl) (by kernel_rfl) (by kernel_rfl) fun a hF => ?_
  refine e_p (v := (.pointer (some ⟨b_p_c, 1, none⟩))) 2 hF rfl (ex_fieldAddr Try.underlying103 rfl sz3 rfl rfl) rfl rfl (by kernel_rfl) (by kernel_rfl) (by kernel_rfl) fun a hF => ?_
  refine e_x (v := (.int .i64 p_c.at_)) 3 hF hS rfl (ex_load1 0 0 Try.underlying3 rfl rfl rfl rfl) rfl rfl (by kernel_rfl) (by kernel_rfl) (by kernel_rfl) (by kernel_rfl) fun a hF => ?_
  refine e_p (v := (.pointer (some ⟨b_p_c, 0, none⟩))) 4 hF rfl (ex_move rfl) rfl rfl (by kernel_rfl) (by kernel_rfl) (by kernel_rfl) fun a hF => ?_
  refine e_p (v := (.pointer (some ⟨b_p_c, 0, none⟩))) 5 hF rfl (ex_nilCheck rfl) rfl rfl (by kernel_rfl) (by kernel_rfl) (by kernel_rfl) fun a hF => ?_
  refine e_p (v := (.pointer (some ⟨b_p_c, 0, none⟩))) 6 hF rfl (ex_fieldAddr Try.underlying103 rfl sz22 rfl rfl) rfl rfl (by kernel_rfl) (by kernel_rfl) (by kernel_rfl) fun a hF => ?_
  refine e_x (v := s1.v) 7 hF hS rfl (ex_load1 0 0 Try.underlying22 rfl rfl rfl rfl) rfl rfl (by kernel_rfl) (by kernel_rfl) (by kernel_rfl) (by kernel_rfl) fun a hF => ?_
  refine e_p (v := (.int .i64 (goLen p_c.code))) 8 hF rfl (ex_len Try.underlying22 rfl h1.len) rfl rfl (by kernel_rfl) (by kernel_rfl) (by kernel_rfl) fun a hF => ?_
  refine e_p (v := (.bool (decide (p_c.at_ < (goLen p_c.code))))) 9 hF rfl (ex_ibin rfl rfl rfl) rfl rfl (by kernel_rfl) (by kernel_rfl) (by kernel_rfl) fun a hF => ?_
  refine e_end (by kernel_rfl) (n_sq ?_) _
  obtain ⟨b_4, hj1, hr⟩ := bindS hr
  refine q_join (fun a w => Fr a 62 [(0, (.pointer (some ⟨b_p_c, 0, none⟩))), (3, (.int .i64 b_4))] ∧ St X w0 w m [[⟨b_p_c, [s1.v, (.int .i64 p_c.at_), (.int .u64 p_c.seed.v)], 103⟩]]) ?_ ?_
  · rcases bcase (decide (p_c.at_ < (goLen p_c.code))) with hc2 | hc2
    · have hj1 := cond_f hc2 hj1
      refine q_cond_f hF rfl hc2 ?_
      refine q_skipc (n_jn ?_)
      obtain rfl := someI hj1
      exact ⟨hF.sub ⟨rfl, rfl, trivial⟩, hS⟩
    · have hj1 := cond_t hc2 hj1
      refine q_cond_t hF rfl hc2 ?_
      refine e_region [] mixed fun w' hw' => ?_
      have hS := hS.below hw'
      refine e_p (v := (.pointer (some ⟨b_p_c, 0, none⟩))) 0 hF rfl (ex_move rfl) rfl rfl (by kernel_rfl) (by kernel_rfl) (by kernel_rfl) fun a hF => ?_
      refine e_p (v := (.pointer (some ⟨b_p_c, 0, none⟩))) 1 hF rfl (ex_nilCheck rfl) rfl rfl (by kernel_rfl) (by kernel_rfl) (by kernel_rfl) fun a hF => ?_
      refine e_p (v := (.pointer (some ⟨b_p_c, 0, none⟩))) 2 hF rfl (ex_fieldAddr Try.underlying103 rfl sz22 rfl rfl) rfl rfl (by kernel_rfl) (by kernel_rfl) (by kernel_rfl) fun a hF => ?_
      refine e_x (v := s1.v) 3 hF hS rfl (ex_load1 0 0 Try.underlying22 rfl rfl rfl rfl) rfl rfl (by kernel_rfl) (by kernel_rfl) (by kernel_rfl) (by kernel_rfl) fun a hF => ?_
      refine e_p (v := (.pointer (some ⟨b_p_c, 0, none⟩))) 4 hF rfl (ex_move rfl) rfl rfl (by kernel_rfl) (by kernel_rfl) (by kernel_rfl) fun a hF => ?_
      refine e_p (v := (.pointer (some ⟨b_p_c, 0, none⟩))) 5 hF rfl (ex_nilCheck rfl) rfl rfl (by kernel_rfl) (by kernel_rfl) (by kernel_rfl) fun a hF => ?_
      refine e_p (v := (.pointer (some ⟨b_p_c, 1, none⟩))) 6 hF rfl (ex_fieldAddr Try.underlying103 rfl sz3 rfl rfl) rfl rfl (by kernel_rfl) (by kernel_rfl) (by kernel_rfl) fun a hF => ?_
      refine e_x (v := (.int .i64 p_c.at_)) 7 hF hS rfl (ex_load1 0 0 Try.underlying3 rfl rfl rfl rfl) rfl rfl (by kernel_rfl) (by kernel_rfl) (by kernel_rfl) (by kernel_rfl) fun a hF => ?_
      obtain ⟨e_2, he_2, hj1⟩ := bindS hj1
      obtain ⟨vs3, at3, d3⟩ := h1.at he_2 1 rfl
      obtain rfl : vs3 = [(.int .u8 e_2.v)] := d3
      refine e_p (v := (elP s1 (p_c.at_.toNat * 1))) 8 hF rfl (ex_indexAddr Try.underlying22 sz5 rfl rfl (h1.idx he_2)) rfl rfl (by kernel_rfl) (by kernel_rfl) (by kernel_rfl) fun a hF => ?_
      refine e_x (v := (.int .u8 e_2.v)) 9 hF hS rfl (ex_loadE1 0 Try.underlying5 rfl rfl ((at3).at) rfl rfl) rfl rfl (by kernel_rfl) (by kernel_rfl) (by kernel_rfl) (by kernel_rfl) fun a hF => ?_
      refine e_p (v := (.int .i64 (w64 e_2.v))) 10 hF rfl (ex_conv Try.underlying5 Try.underlying3 rfl) rfl rfl (by kernel_rfl) (by kernel_rfl) (by kernel_rfl) fun a hF => ?_
      refine e_p (v := (.int .i64 (w64 e_2.v))) 11 hF rfl (ex_assign rfl) rfl rfl (by kernel_rfl) (by kernel_rfl) (by kernel_rfl) fun a hF => ?_
      refine e_end (by kernel_rfl) (n_jn ?_) _
      obtain rfl := someI hj1
      exact ⟨hF.sub ⟨rfl, rfl, trivial⟩, hS⟩
  · rintro a w ⟨hF, hS⟩
    refine n_sq ?_
    refine q_seq ?_
    refine q_region ?_
    refine q_x (v := (.pointer (some ⟨b_p_c, 0, none⟩))) hF hS (ex_move rfl) rfl rfl fun a hF => ?_
    refine q_x (v := (.pointer (some ⟨b_p_c, 0, none⟩))) hF hS (ex_nilCheck rfl) rfl rfl fun a hF => ?_
    refine q_x (v := (.pointer (some ⟨b_p_c, 1, none⟩))) hF hS (ex_fieldAddr Try.underlying103 rfl sz3 rfl rfl) rfl rfl fun a hF => ?_
    refine q_x (v := (.int .i64 p_c.at_)) hF hS (ex_load1 0 0 Try.underlying3 rfl rfl rfl rfl) rfl rfl fun a hF => ?_
    refine q_x (v := (.int .i64 (w64 (p_c.at_ + 1)))) hF hS (ex_ibin rfl rfl rfl) rfl rfl fun a hF => ?_
    refine q_x (v := (.pointer (some ⟨b_p_c, 0, none⟩))) hF hS (ex_nilCheck rfl) rfl rfl fun a hF => ?_
    refine q_x (v := (.pointer (some ⟨b_p_c, 1, none⟩))) hF hS (ex_fieldAddr Try.underlying103 rfl sz3 rfl rfl) rfl rfl fun a hF => ?_
    refine q_store (vs := [(.int .i64 (w64 (p_c.at_ + 1)))]) (cs' := [s1.v, (.int .i64 (w64 (p_c.at_ + 1))), (.int .u64 p_c.seed.v)]) 0 0 hF hS sz3 rfl rfl rfl rfl rfl rfl rfl rfl fun a w hF hS => ?_
    refine q_end (n_sq ?_)
    refine q_seq ?_
    refine q_region ?_
    refine q_x (v := (.pointer (some ⟨b_p_c, 0, none⟩))) hF hS (ex_move rfl) rfl rfl fun a hF => ?_
    refine q_x (v := (.pointer (some ⟨b_p_c, 0, none⟩))) hF hS (ex_move rfl) rfl rfl fun a hF => ?_
    refine q_x (v := (.pointer (some ⟨b_p_c, 0, none⟩))) hF hS (ex_nilCheck rfl) rfl rfl fun a hF => ?_
    refine q_x (v := (.pointer (some ⟨b_p_c, 2, none⟩))) hF hS (ex_fieldAddr Try.underlying103 rfl sz101 rfl rfl) rfl rfl fun a hF => ?_
    refine q_x (v := (.int .u64 p_c.seed.v)) hF hS (ex_load1 0 0 Try.underlying101 rfl rfl rfl rfl) rfl rfl fun a hF => ?_
    refine q_x (v := (.int .u64 (IntKind.wrap .u64 (p_c.seed.v * 6364136223846793005)))) hF hS (ex_ibin rfl rfl rfl) rfl rfl fun a hF => ?_
    refine q_x (v := (.int .i64 b_4)) hF hS (ex_move rfl) rfl rfl fun a hF => ?_
    refine q_x (v := (.int .u64 (IntKind.wrap .u64 b_4))) hF hS (ex_conv Try.underlying3 Try.underlying101 rfl) rfl rfl fun a hF => ?_
    refine q_x (v := (.int .u64 (IntKind.wrap .u64 ((IntKind.wrap .u64 (p_c.seed.v * 6364136223846793005)) + (IntKind.wrap .u64 b_4))))) hF hS (ex_ibin rfl rfl rfl) rfl rfl fun a hF => ?_
    refine q_x (v := (.int .u64 (IntKind.wrap .u64 ((IntKind.wrap .u64 ((IntKind.wrap .u64 (p_c.seed.v * 6364136223846793005)) + (IntKind.wrap .u64 b_4))) + 1442695040888963407)))) hF hS (ex_ibin rfl rfl rfl) rfl rfl fun a hF => ?_
    refine q_x (v := (.pointer (some ⟨b_p_c, 0, none⟩))) hF hS (ex_nilCheck rfl) rfl rfl fun a hF => ?_
    refine q_x (v := (.pointer (some ⟨b_p_c, 2, none⟩))) hF hS (ex_fieldAddr Try.underlying103 rfl sz101 rfl rfl) rfl rfl fun a hF => ?_
    refine q_store (vs := [(.int .u64 (IntKind.wrap .u64 ((IntKind.wrap .u64 ((IntKind.wrap .u64 (p_c.seed.v * 6364136223846793005)) + (IntKind.wrap .u64 b_4))) + 1442695040888963407)))]) (cs' := [s1.v, (.int .i64 (w64 (p_c.at_ + 1))), (.int .u64 (IntKind.wrap .u64 ((IntKind.wrap .u64 ((IntKind.wrap .u64 (p_c.seed.v * 6364136223846793005)) + (IntKind.wrap .u64 b_4))) + 1442695040888963407)))]) 0 0 hF hS sz101 rfl rfl rfl rfl rfl rfl rfl rfl fun a w hF hS => ?_
    refine q_end (n_sq ?_)
    refine q_seq ?_
    refine q_seq ?_
    refine e_region [] mixed fun w' hw' => ?_
    have hS := hS.below hw'
    refine e_p (v := (.pointer (some ⟨b_p_c, 0, none⟩))) 0 hF rfl (ex_move rfl) rfl rfl (by kernel_rfl) (by kernel_rfl) (by kernel_rfl) fun a hF => ?_
    refine e_p (v := (.pointer (some ⟨b_p_c, 0, none⟩))) 1 hF rfl (ex_nilCheck rfl) rfl rfl (by kernel_rfl) (by kernel_rfl) (by kernel_rfl) fun a hF => ?_
    refine e_p (v := (.pointer (some ⟨b_p_c, 1, none⟩))) 2 hF rfl (ex_fieldAddr Try.underlying103 rfl sz3 rfl rfl) rfl rfl (by kernel_rfl) (by kernel_rfl) (by kernel_rfl) fun a hF => ?_
    refine e_x (v := (.int .i64 (w64 (p_c.at_ + 1)))) 3 hF hS rfl (ex_load1 0 0 Try.underlying3 rfl rfl rfl rfl) rfl rfl (by kernel_rfl) (by kernel_rfl) (by kernel_rfl) (by kernel_rfl) fun a hF => ?_
    refine e_p (v := (.pointer (some ⟨b_p_c, 0, none⟩))) 4 hF rfl (ex_move rfl) rfl rfl (by kernel_rfl) (by kernel_rfl) (by kernel_rfl) fun a hF => ?_
    refine e_p (v := (.pointer (some ⟨b_p_c, 0, none⟩))) 5 hF rfl (ex_nilCheck rfl) rfl rfl (by kernel_rfl) (by kernel_rfl) (by kernel_rfl) fun a hF => ?_
    refine e_p (v := (.pointer (some ⟨b_p_c, 0, none⟩))) 6 hF rfl (ex_fieldAddr Try.underlying103 rfl sz22 rfl rfl) rfl rfl (by kernel_rfl) (by kernel_rfl) (by kernel_rfl) fun a hF => ?_
    refine e_x (v := s1.v) 7 hF hS rfl (ex_load1 0 0 Try.underlying22 rfl rfl rfl rfl) rfl rfl (by kernel_rfl) (by kernel_rfl) (by kernel_rfl) (by kernel_rfl) fun a hF => ?_
    refine e_p (v := (.int .i64 (goLen p_c.code))) 8 hF rfl (ex_len Try.underlying22 rfl h1.len) rfl rfl (by kernel_rfl) (by kernel_rfl) (by kernel_rfl) fun a hF => ?_
    refine e_p (v := (.bool (decide ((w64 (p_c.at_ + 1)) ≤ (goLen p_c.code))))) 9 hF rfl (ex_ibin rfl rfl rfl) rfl rfl (by kernel_rfl) (by kernel_rfl) (by kernel_rfl) fun a hF => ?_
    refine e_end (by kernel_rfl) (n_sq ?_) _
    rcases bcase (decide ((w64 (p_c.at_ + 1)) ≤ (goLen p_c.code))) with hc3 | hc3
    · have hr := cond_f hc3 hr
      refine q_cond_f hF rfl hc3 ?_
      refine q_skipc (n_sq ?_)
      refine q_seq ?_
      refine q_region ?_
      refine q_x (v := (.pointer (some ⟨b_p_c, 0, none⟩))) hF hS (ex_move rfl) rfl rfl fun a hF => ?_
      refine q_x (v := (.pointer (some ⟨b_p_c, 0, none⟩))) hF hS (ex_nilCheck rfl) rfl rfl fun a hF => ?_
      refine q_x (v := (.pointer (some ⟨b_p_c, 2, none⟩))) hF hS (ex_fieldAddr Try.underlying103 rfl sz101 rfl rfl) rfl rfl fun a hF => ?_
      refine q_x (v := (.int .u64 (IntKind.wrap .u64 ((IntKind.wrap .u64 ((IntKind.wrap .u64 (p_c.seed.v * 6364136223846793005)) + (IntKind.wrap .u64 b_4))) + 1442695040888963407)))) hF hS (ex_load1 0 0 Try.underlying101 rfl rfl rfl rfl) rfl rfl fun a hF => ?_
      obtain ⟨t_5, ht_5, hr⟩ := bindS hr
      refine q_x (v := (.int .u64 t_5)) hF hS (ex_shr rfl rfl ht_5) rfl rfl fun a hF => ?_
      refine q_x (v := (.int .u64 (goBits .and .u64 t_5 255))) hF hS (ex_bits rfl rfl rfl) rfl rfl fun a hF => ?_
      refine q_x (v := (.int .i64 (w64 (goBits .and .u64 t_5 255)))) hF hS (ex_conv Try.underlying101 Try.underlying3 rfl) rfl rfl fun a hF => ?_
      refine q_x (v := (.int .i64 (w64 (goBits .and .u64 t_5 255)))) hF hS (ex_assign rfl) rfl rfl fun a hF => ?_
      refine q_end (n_sq (q_ret ?_))
      obtain rfl := someI hr
      exact ret_ofX hF hS rfl (.tmp rfl .nil) ⟨rfl, hS.sel [0] (by decide), rfl⟩
    · have hr := cond_t hc3 hr
      refine q_cond_t hF rfl hc3 ?_
      refine q_seq ?_
      refine q_region ?_
      refine q_x (v := (.int .i64 b_4)) hF hS (ex_move rfl) rfl rfl fun a hF => ?_
      refine q_x (v := (.int .i64 b_4)) hF hS (ex_assign rfl) rfl rfl fun a hF => ?_
      refine q_end (n_sq (q_ret (r_sq ?_)))
      obtain rfl := someI hr
      exact ret_ofX hF hS rfl (.tmp rfl .nil) ⟨rfl, hS.sel [0] (by decide), rfl⟩

theorem c_spec_l1Cur_pick (p_c : spec_l1Cur) (p_n : Int) (r : Int × spec_l1Cur) (hr : spec_l1Cur_pick p_c p_n = some r) (w0 : World) (m : Mem) (b_p_c : Nat) (s1 : Sl) (h1 : Rd m s1 p_c.code) (X : List Nat) (hS : St X w0 w0 m [[⟨b_p_c, [s1.v, (.int .i64 p_c.at_), (.int .u64 p_c.seed.v)], 103⟩]]) :
    RetX Try.prog 99 [(.pointer (some ⟨b_p_c, 0, none⟩)), (.int .i64 p_n)] w0 (fun v w => v = (.int .i64 r.1) ∧ St X w0 w m [[⟨b_p_c, [s1.v, (.int .i64 r.2.at_), (.int .u64 r.2.seed.v)], 103⟩]] ∧ r.2.code = p_c.code) := by
  unfold spec_l1Cur_pick at hr
  refine ret_startX Try.func99 rfl 20 rfl rfl fun a hF => ?_
  refine q_seq ?_
  refine q_region ?_
  refine q_x (v := (.int .i64 0)) hF hS (ex_assign rfl) rfl rfl fun a hF => ?_
  refine q_end (n_sq ?_)
  refine q_seq ?_
  refine q_seq ?_
  refine q_region ?_
  refine q_x (v := (.int .i64 p_n)) hF hS (ex_move rfl) rfl rfl fun a hF => ?_
  refine q_x (v := (.bool (decide (p_n ≤ 1)))) hF hS (ex_ibin rfl rfl rfl) rfl rfl fun a hF => ?_
  refine q_end (n_sq ?_)
  rcases bcase (decide (p_n ≤ 1)) with hc1 | hc1
  · have hr := cond_f hc1 hr
    refine q_cond_f hF rfl hc1 ?_
    refine q_skipc (n_sq ?_)
    refine q_seq ?_
    refine q_region ?_
    refine q_x (v := (.pointer (some ⟨b_p_c, 0, none⟩))) hF hS (ex_move rfl) rfl rfl fun a hF => ?_
    have hS2 : St _ _ _ _ ([[⟨b_p_c, [s1.v, (.int .i64 p_c.at_), (.int .u64 p_c.seed.v)], 103⟩]] ++ []) := hS
    have hE2 := hS2.enter
    obtain ⟨t_3, ht_3, hr⟩ := bindS hr
    refine q_do rfl fun _ hK => wp_callX (vs := [(.pointer (some ⟨b_p_c, 0, none⟩))]) hF Try.func160 (by kernel_rfl) rfl rfl rfl (c_spec_l1Cur_next p_c t_3 ht_3 _ m b_p_c s1 h1 _ hE2) fun a w _ hR hF => hK _ _ ?_
    obtain ⟨rfl, hR2, hk4⟩ := hR
    have hS : St _ _ _ _ [[⟨b_p_c, [s1.v, (.int .i64 t_3.2.at_), (.int .u64 t_3.2.seed.v)], 103⟩]] := hS2.leaveF hR2
    have h4 : Rd m s1 t_3.2.code := by rw [hk4]; exact h1
    refine q_x (v := (.int .i64 t_3.1)) hF hS (ex_assign rfl) rfl rfl fun a hF => ?_
    refine q_end (n_sq ?_)
    refine q_seq ?_
    refine q_seq ?_
    refine q_region ?_
    refine q_x (v := (.int .i64 p_n)) hF hS (ex_move rfl) rfl rfl fun a hF => ?_
    refine q_x (v := (.bool (decide (200 < p_n)))) hF hS (ex_ibin rfl rfl rfl) rfl rfl fun a hF => ?_
    refine q_end (n_sq ?_)
    obtain ⟨j2, hj2, hr⟩ := bindS hr
    refine q_join (fun a w => ∃ x_8, ∃ p_c_9, j2 = (x_8, p_c_9) ∧ Fr a 20 [(1, (.int .i64 p_n)), (5, (.int .i64 x_8))] ∧ St X w0 w m [[⟨b_p_c, [s1.v, (.int .i64 p_c_9.at_), (.int .u64 p_c_9.seed.v)], 103⟩]] ∧ Rd m s1 p_c_9.code ∧ p_c_9.code = p_c.code) ?_ ?_
    · rcases bcase (decide (200 < p_n)) with hc3 | hc3
      · have hj2 := cond_f hc3 hj2
        refine q_cond_f hF rfl hc3 ?_
        refine q_skipc (n_jn ?_)
        obtain rfl := someI hj2
        exact ⟨_, _, rfl, hF.sub ⟨rfl, rfl, trivial⟩, hS, h4, hk4⟩
      · have hj2 := cond_t hc3 hj2
        refine q_cond_t hF rfl hc3 ?_
        refine q_region ?_
        refine q_x (v := (.int .i64 t_3.1)) hF hS (ex_move rfl) rfl rfl fun a hF => ?_
        refine q_x (v := (.int .i64 (w64 (t_3.1 * 256)))) hF hS (ex_ibin rfl rfl rfl) rfl rfl fun a hF => ?_
        refine q_x (v := (.pointer (some ⟨b_p_c, 0, none⟩))) hF hS (ex_move rfl) rfl rfl fun a hF => ?_
        have hS5 : St _ _ _ _ ([[⟨b_p_c, [s1.v, (.int .i64 t_3.2.at_), (.int .u64 t_3.2.seed.v)], 103⟩]] ++ []) := hS
        have hE5 := hS5.enter
        obtain ⟨t_6, ht_6, hj2⟩ := bindS hj2
        refine q_do rfl fun _ hK => wp_callX (vs := [(.pointer (some ⟨b_p_c, 0, none⟩))]) hF Try.func160 (by kernel_rfl) rfl rfl rfl (c_spec_l1Cur_next t_3.2 t_6 ht_6 _ m b_p_c s1 h4 _ hE5) fun a w _ hR hF => hK _ _ ?_
        obtain ⟨rfl, hR5, hk7⟩ := hR
        have hS : St _ _ _ _ [[⟨b_p_c, [s1.v, (.int .i64 t_6.2.at_), (.int .u64 t_6.2.seed.v)], 103⟩]] := hS5.leaveF hR5
        have h7 : Rd m s1 t_6.2.code := by rw [hk7]; exact h4
        refine q_x (v := (.int .i64 (w64 ((w64 (t_3.1 * 256)) + t_6.1)))) hF hS (ex_ibin rfl rfl rfl) rfl rfl fun a hF => ?_
        refine q_x (v := (.int .i64 (w64 ((w64 (t_3.1 * 256)) + t_6.1)))) hF hS (ex_assign rfl) rfl rfl fun a hF => ?_
        refine q_end (n_jn ?_)
        obtain rfl := someI hj2
        exact ⟨_, _, rfl, hF.sub ⟨rfl, rfl, trivial⟩, hS, h7, (hk7.trans hk4)⟩
    · rintro a w ⟨x_8, p_c_9, rfl, hF, hS, h10, h10k⟩
      refine n_sq ?_
      refine q_seq ?_
      refine q_region ?_
      refine q_x (v := (.int .i64 x_8)) hF hS (ex_move rfl) rfl rfl fun a hF => ?_
      refine q_x (v := (.int .i64 p_n)) hF hS (ex_move rfl) rfl rfl fun a hF => ?_
      obtain ⟨t_11, ht_11, hr⟩ := bindS hr
      refine q_x (v := (.int .i64 t_11)) hF hS (ex_rem rfl rfl ht_11) rfl rfl fun a hF => ?_
      refine q_x (v := (.int .i64 t_11)) hF hS (ex_assign rfl) rfl rfl fun a hF => ?_
      refine q_end (n_sq (q_ret ?_))
      obtain rfl := someI hr
      exact ret_ofX hF hS rfl (.tmp rfl .nil) ⟨rfl, hS.sel [0] (by decide), h10k⟩
  · have hr := cond_t hc1 hr
    refine q_cond_t hF rfl hc1 ?_
    refine q_seq ?_
    refine q_region ?_
    refine q_x (v := (.int .i64 0)) hF hS (ex_assign rfl) rfl rfl fun a hF => ?_
    refine q_end (n_sq (q_ret (r_sq ?_)))
    obtain rfl := someI hr
    exact ret_ofX hF hS rfl (.tmp rfl .nil) ⟨rfl, hS.sel [0] (by decide), rfl⟩

theorem c_spec_l1Own (p_l : List Int) (r : (List Int)) (hr : spec_l1Own p_l = some r) (w0 : World) (m : Mem) (hv : Vis m w0) (s1 : Sl) (h1 : Rd m s1 p_l) :
    Ret Try.prog 176 [s1.v] w0 (fun v w => ∃ (q0' : Piece) (s0' : Sl), v = s0'.v ∧ St [] w0 w m [q0'] ∧ OwnL m 3 q0' s0' r) := by
  unfold spec_l1Own at hr
  refine ret_start Try.func176 rfl 6 rfl rfl m hv fun a hF hS => ?_
  refine q_seq ?_
  refine q_region ?_
  refine q_x (v := nilS.v) hF hS (ex_assign rfl) rfl rfl fun a hF => ?_
  refine q_end (n_sq ?_)
  refine q_seq ?_
  refine q_region ?_
  refine q_do rfl fun _ hK => wp_build0 (α := Int) hF hS Try.underlying42 inf3 rfl fun a w q2 s2 hF hS h2 _ => hK _ _ ?_
  refine q_x (v := s1.v) hF hS (ex_move rfl) rfl rfl fun a hF => ?_
  obtain ⟨l_3, hl_3, hr⟩ := bindS hr
  refine q_do rfl fun _ hK => wp_append hF hS h2 Try.underlying42 inf3 rfl rfl rfl rfl (h1.vw hS.vis) rfl (by decide) hl_3 rfl fun a w q4 s4 hF hS h4 => hK _ _ ?_
  refine q_x (v := s4.v) hF hS (ex_assign rfl) rfl rfl fun a hF => ?_
  refine q_end (n_sq (q_ret ?_))
  obtain rfl := someI hr
  exact ret_of hF hS rfl (.tmp rfl .nil) ⟨q4, s4, rfl, hS.sel [0] (by decide), h4⟩

theorem c_spec_l1Cur_geo (p_c : spec_l1Cur) (r : impl_Geo × spec_l1Cur) (hr : spec_l1Cur_geo p_c = some r) (w0 : World) (m : Mem) (b_p_c : Nat) (s1 : Sl) (h1 : Rd m s1 p_c.code) (X : List Nat) (hS : St X w0 w0 m [[⟨b_p_c, [s1.v, (.int .i64 p_c.at_), (.int .u64 p_c.seed.v)], 103⟩]]) :
    RetX Try.prog 172 [(.pointer (some ⟨b_p_c, 0, none⟩))] w0 (fun v w => ∃ (m' : Mem) (q0' : Piece) (s0' : Sl), v = (.agg #[s0'.v]) ∧ MLe X w0.heap.size m m' ∧ St X w0 w m' [[⟨b_p_c, [s1.v, (.int .i64 r.2.at_), (.int .u64 r.2.seed.v)], 103⟩], q0'] ∧ OwnL m' 3 q0' s0' r.1.Parents ∧ r.2.code = p_c.code) := by
  unfold spec_l1Cur_geo at hr
  refine ret_startX Try.func172 rfl 39 rfl rfl fun a hF => ?_
  refine q_seq ?_
  refine q_region ?_
  refine q_alloc (cs := [nilS.v]) hF hS rfl rfl rfl fun a w b2 hF hS => ?_
  refine q_end (n_sq ?_)
  refine q_seq ?_
  refine q_region ?_
  refine q_do rfl fun _ hK => wp_buildSlice' (l := ([-1, 0, 0] : List Int)) (cells := [(.int .i64 (-1)), (.int .i64 0), (.int .i64 0)]) hF hS Try.underlying42 inf3 rfl rfl (by kernel_rfl) rfl rfl rfl ⟨rfl, rfl, rfl, rfl⟩ rfl rfl fun a w q3 s3 hF hS h3 _ => hK _ _ ?_
  refine q_do rfl fun _ hK => wp_buildSlice' (l := ([-1, 0, 0, 1, 1, 2, 2] : List Int)) (cells := [(.int .i64 (-1)), (.int .i64 0), (.int .i64 0), (.int .i64 1), (.int .i64 1), (.int .i64 2), (.int .i64 2)]) hF hS Try.underlying42 inf3 rfl rfl (by kernel_rfl) rfl rfl rfl ⟨rfl, rfl, rfl, rfl, rfl, rfl, rfl, rfl⟩ rfl rfl fun a w q4 s4 hF hS h4 _ => hK _ _ ?_
  refine q_do rfl fun _ hK => wp_buildSlice' (l := ([-1, 0, 0, 0, 1, 1, 2, 3] : List Int)) (cells := [(.int .i64 (-1)), (.int .i64 0), (.int .i64 0), (.int .i64 0), (.int .i64 1), (.int .i64 1), (.int .i64 2), (.int .i64 3)]) hF hS Try.underlying42 inf3 rfl rfl (by kernel_rfl) rfl rfl rfl ⟨rfl, rfl, rfl, rfl, rfl, rfl, rfl, rfl, rfl⟩ rfl rfl fun a w q5 s5 hF hS h5 _ => hK _ _ ?_
  refine q_do rfl fun _ hK => wp_buildSlice' (l := ([-1, 0, 0, 1, 1] : List Int)) (cells := [(.int .i64 (-1)), (.int .i64 0), (.int .i64 0), (.int .i64 1), (.int .i64 1)]) hF hS Try.underlying42 inf3 rfl rfl (by kernel_rfl) rfl rfl rfl ⟨rfl, rfl, rfl, rfl, rfl, rfl⟩ rfl rfl fun a w q6 s6 hF hS h6 _ => hK _ _ ?_
  refine q_do rfl fun _ hK => wp_buildSlice' (l := ([-1] : List Int)) (cells := [(.int .i64 (-1))]) hF hS Try.underlying42 inf3 rfl rfl (by kernel_rfl) rfl rfl rfl ⟨rfl, rfl⟩ rfl rfl fun a w q7 s7 hF hS h7 _ => hK _ _ ?_
  refine q_do rfl fun _ hK => wp_buildSlice' (l := ([-1, 0, 1, 2] : List Int)) (cells := [(.int .i64 (-1)), (.int .i64 0), (.int .i64 1), (.int .i64 2)]) hF hS Try.underlying42 inf3 rfl rfl (by kernel_rfl) rfl rfl rfl ⟨rfl, rfl, rfl, rfl, rfl⟩ rfl rfl fun a w q8 s8 hF hS h8 _ => hK _ _ ?_
  have hS : St _ _ _ _ [q3, q8, q7, q6, q5, q4, [⟨b2, [nilS.v], 89⟩], [⟨b_p_c, [s1.v, (.int .i64 p_c.at_), (.int .u64 p_c.seed.v)], 103⟩]] := hS.sel [5, 0, 1, 2, 3, 4, 6, 7] (by decide)
  obtain ⟨m10, hm10, hS, hz10⟩ := hS.freeze
  have h10 := h3.froz hm10.le hz10
  have hS : St _ _ _ _ [q4, q8, q7, q6, q5, [⟨b2, [nilS.v], 89⟩], [⟨b_p_c, [s1.v, (.int .i64 p_c.at_), (.int .u64 p_c.seed.v)], 103⟩]] := hS.sel [4, 0, 1, 2, 3, 5, 6] (by decide)
  obtain ⟨m11, hm11, hS, hz11⟩ := hS.freeze
  have h11 := (h4.mono hm10.le).froz hm11.le hz11
  have hS : St _ _ _ _ [q5, q8, q7, q6, [⟨b2, [nilS.v], 89⟩], [⟨b_p_c, [s1.v, (.int .i64 p_c.at_), (.int .u64 p_c.seed.v)], 103⟩]] := hS.sel [3, 0, 1, 2, 4, 5] (by decide)
  obtain ⟨m12, hm12, hS, hz12⟩ := hS.freeze
  have h12 := ((h5.mono hm10.le).mono hm11.le).froz hm12.le hz12
  have hS : St _ _ _ _ [q6, q8, q7, [⟨b2, [nilS.v], 89⟩], [⟨b_p_c, [s1.v, (.int .i64 p_c.at_), (.int .u64 p_c.seed.v)], 103⟩]] := hS.sel [2, 0, 1, 3, 4] (by decide)
  obtain ⟨m13, hm13, hS, hz13⟩ := hS.freeze
  have h13 := (((h6.mono hm10.le).mono hm11.le).mono hm12.le).froz hm13.le hz13
  have hS : St _ _ _ _ [q7, q8, [⟨b2, [nilS.v], 89⟩], [⟨b_p_c, [s1.v, (.int .i64 p_c.at_), (.int .u64 p_c.seed.v)], 103⟩]] := hS.sel [1, 0, 2, 3] (by decide)
  obtain ⟨m14, hm14, hS, hz14⟩ := hS.freeze
  have h14 := ((((h7.mono hm10.le).mono hm11.le).mono hm12.le).mono hm13.le).froz hm14.le hz14
  obtain ⟨m15, hm15, hS, hz15⟩ := hS.freeze
  have h15 := (((((h8.mono hm10.le).mono hm11.le).mono hm12.le).mono hm13.le).mono hm14.le).froz hm15.le hz15
  refine q_do rfl fun _ hK => wp_buildSlice' (l := ([([-1, 0, 0] : List Int), ([-1, 0, 0, 1, 1, 2, 2] : List Int), ([-1, 0, 0, 0, 1, 1, 2, 3] : List Int), ([-1, 0, 0, 1, 1] : List Int), ([-1] : List Int), ([-1, 0, 1, 2] : List Int)] : List (List Int))) (cells := [s3.v, s4.v, s5.v, s6.v, s7.v, s8.v]) hF hS Try.underlying74 inf42 rfl rfl (by kernel_rfl) rfl rfl rfl ⟨⟨s3, rfl, (((((h10.mono hm11.le).mono hm12.le).mono hm13.le).mono hm14.le).mono hm15.le)⟩, ⟨s4, rfl, ((((h11.mono hm12.le).mono hm13.le).mono hm14.le).mono hm15.le)⟩, ⟨s5, rfl, (((h12.mono hm13.le).mono hm14.le).mono hm15.le)⟩, ⟨s6, rfl, ((h13.mono hm14.le).mono hm15.le)⟩, ⟨s7, rfl, (h14.mono hm15.le)⟩, ⟨s8, rfl, h15⟩, rfl⟩ rfl rfl fun a w q9 s9 hF hS h9 _ => hK _ _ ?_
  refine q_x (v := s9.v) hF hS (ex_assign rfl) rfl rfl fun a hF => ?_
  refine q_end (n_sq ?_)
  refine q_seq ?_
  refine q_region ?_
  refine q_x (v := s9.v) hF hS (ex_move rfl) rfl rfl fun a hF => ?_
  refine q_x (v := (.pointer (some ⟨b_p_c, 0, none⟩))) hF hS (ex_move rfl) rfl rfl fun a hF => ?_
  refine q_x (v := s9.v) hF hS (ex_move rfl) rfl rfl fun a hF => ?_
  refine q_x (v := (.int .i64 (goLen ([([-1, 0, 0] : List Int), ([-1, 0, 0, 1, 1, 2, 2] : List Int), ([-1, 0, 0, 0, 1, 1, 2, 3] : List Int), ([-1, 0, 0, 1, 1] : List Int), ([-1] : List Int), ([-1, 0, 1, 2] : List Int)] : List (List Int))))) hF hS (ex_len Try.underlying74 rfl h9.len) rfl rfl fun a hF => ?_
  have hS : St _ _ _ _ [[⟨b_p_c, [s1.v, (.int .i64 p_c.at_), (.int .u64 p_c.seed.v)], 103⟩], q9, [⟨b2, [nilS.v], 89⟩]] := hS.sel [2, 0, 1] (by decide)
  have hS16 : St _ _ _ _ ([[⟨b_p_c, [s1.v, (.int .i64 p_c.at_), (.int .u64 p_c.seed.v)], 103⟩]] ++ [q9, [⟨b2, [nilS.v], 89⟩]]) := hS
  have hE16 := hS16.enter
  obtain ⟨t_17, ht_17, hr⟩ := bindS hr
  refine q_do rfl fun _ hK => wp_callX (vs := [(.pointer (some ⟨b_p_c, 0, none⟩)), (.int .i64 (goLen ([([-1, 0, 0] : List Int), ([-1, 0, 0, 1, 1, 2, 2] : List Int), ([-1, 0, 0, 0, 1, 1, 2, 3] : List Int), ([-1, 0, 0, 1, 1] : List Int), ([-1] : List Int), ([-1, 0, 1, 2] : List Int)] : List (List Int))))]) hF Try.func99 (by kernel_rfl) rfl rfl rfl (c_spec_l1Cur_pick p_c (goLen ([([-1, 0, 0] : List Int), ([-1, 0, 0, 1, 1, 2, 2] : List Int), ([-1, 0, 0, 0, 1, 1, 2, 3] : List Int), ([-1, 0, 0, 1, 1] : List Int), ([-1] : List Int), ([-1, 0, 1, 2] : List Int)] : List (List Int))) t_17 ht_17 _ m15 b_p_c s1 ((((((h1.mono hm10.le).mono hm11.le).mono hm12.le).mono hm13.le).mono hm14.le).mono hm15.le) _ hE16) fun a w _ hR hF => hK _ _ ?_
  obtain ⟨rfl, hR16, hk18⟩ := hR
  have hS : St _ _ _ _ [[⟨b_p_c, [s1.v, (.int .i64 t_17.2.at_), (.int .u64 t_17.2.seed.v)], 103⟩], q9, [⟨b2, [nilS.v], 89⟩]] := hS16.leaveF hR16
  have h18 : Rd m15 s1 t_17.2.code := by rw [hk18]; exact ((((((h1.mono hm10.le).mono hm11.le).mono hm12.le).mono hm13.le).mono hm14.le).mono hm15.le)
  obtain ⟨e_19, he_19, hr⟩ := bindS hr
  obtain ⟨vs20, at20, d20⟩ := h9.at he_19 1 rfl
  obtain ⟨s21, rfl, h21⟩ : ∃ s21 : Sl, vs20 = [s21.v] ∧ Rd m15 s21 e_19 := d20
  refine q_x (v := (elP s9 (t_17.1.toNat * 1))) hF hS (ex_indexAddr Try.underlying74 sz42 rfl rfl (h9.idx he_19)) rfl rfl fun a hF => ?_
  refine q_x (v := s21.v) hF hS (ex_loadE1 0 Try.underlying42 rfl rfl (at20.at 1 rfl) rfl rfl) rfl rfl fun a hF => ?_
  obtain ⟨t_22, ht_22, hr⟩ := bindS hr
  refine q_call (vs := [s21.v]) hF hS Try.func176 (by kernel_rfl) rfl rfl rfl (c_spec_l1Own e_19 t_22 ht_22 _ m15 hS.vis s21 h21) ?_
  rintro a w _ ⟨q24, s24, rfl, hR23, h24⟩ hF hS2
  have hS : St _ _ _ _ [q24, [⟨b_p_c, [s1.v, (.int .i64 t_17.2.at_), (.int .u64 t_17.2.seed.v)], 103⟩], q9, [⟨b2, [nilS.v], 89⟩]] := hS.joinF hR23
  refine q_x (v := (.agg #[s24.v])) hF hS (ex_build (cells := [s24.v]) rfl (by kernel_rfl)) rfl rfl fun a hF => ?_
  refine q_alloc (cs := [nilS.v]) hF hS rfl rfl rfl fun a w b25 hF hS => ?_
  refine q_store (vs := [s24.v]) (cs' := [s24.v]) 0 0 hF hS sz89 rfl rfl rfl rfl rfl rfl rfl rfl fun a w hF hS => ?_
  refine q_end (n_sq ?_)
  refine q_seq ?_
  refine q_seq ?_
  refine q_region ?_
  refine q_x (v := (.pointer (some ⟨b_p_c, 0, none⟩))) hF hS (ex_move rfl) rfl rfl fun a hF => ?_
  have hS : St _ _ _ _ [[⟨b_p_c, [s1.v, (.int .i64 t_17.2.at_), (.int .u64 t_17.2.seed.v)], 103⟩], [⟨b25, [s24.v], 89⟩], q24, q9, [⟨b2, [nilS.v], 89⟩]] := hS.sel [2, 0, 1, 3, 4] (by decide)
  have hS26 : St _ _ _ _ ([[⟨b_p_c, [s1.v, (.int .i64 t_17.2.at_), (.int .u64 t_17.2.seed.v)], 103⟩]] ++ [[⟨b25, [s24.v], 89⟩], q24, q9, [⟨b2, [nilS.v], 89⟩]]) := hS
  have hE26 := hS26.enter
  obtain ⟨t_27, ht_27, hr⟩ := bindS hr
  refine q_do rfl fun _ hK => wp_callX (vs := [(.pointer (some ⟨b_p_c, 0, none⟩)), (.int .i64 4)]) hF Try.func99 (by kernel_rfl) rfl rfl rfl (c_spec_l1Cur_pick t_17.2 4 t_27 ht_27 _ m15 b_p_c s1 h18 _ hE26) fun a w _ hR hF => hK _ _ ?_
  obtain ⟨rfl, hR26, hk28⟩ := hR
  have hS : St _ _ _ _ [[⟨b_p_c, [s1.v, (.int .i64 t_27.2.at_), (.int .u64 t_27.2.seed.v)], 103⟩], [⟨b25, [s24.v], 89⟩], q24, q9, [⟨b2, [nilS.v], 89⟩]] := hS26.leaveF hR26
  have h28 : Rd m15 s1 t_27.2.code := by rw [hk28]; exact h18
  refine q_x (v := (.int .i64 t_27.1)) hF hS (ex_assign rfl) rfl rfl fun a hF => ?_
  refine q_end (n_sq ?_)
  refine q_block ?_
  obtain ⟨o1, hl1, hr⟩ := bindS hr
  refine q_loop (fun (s : Int × spec_l1Cur × impl_Geo) a w => ∃ (q33 : Piece), ∃ (s33 : Sl), ∃ k_29, ∃ p_c_30, ∃ g_32, s = (k_29, p_c_30, g_32) ∧ Fr a 39 [(0, (.pointer (some ⟨b_p_c, 0, none⟩))), (2, (.pointer (some ⟨b2, 0, none⟩))), (4, (.pointer (some ⟨b25, 0, none⟩))), (5, (.int .i64 k_29))] ∧ St X w0 w m15 [q33, [⟨b_p_c, [s1.v, (.int .i64 p_c_30.at_), (.int .u64 p_c_30.seed.v)], 103⟩], [⟨b25, [s33.v], 89⟩], [⟨b2, [nilS.v], 89⟩]] ∧ Rd m15 s1 p_c_30.code ∧ p_c_30.code = p_c.code ∧ OwnL m15 3 q33 s33 g_32.Parents) (fun (o : spec_l1Cur × impl_Geo) e a w => ∃ (q47 : Piece), ∃ (s47 : Sl), ∃ p_c_44, ∃ g_46, o = (p_c_44, g_46) ∧ e = .exit 0 ∧ Fr a 39 [(2, (.pointer (some ⟨b2, 0, none⟩))), (4, (.pointer (some ⟨b25, 0, none⟩)))] ∧ St X w0 w m15 [q47, [⟨b_p_c, [s1.v, (.int .i64 p_c_44.at_), (.int .u64 p_c_44.seed.v)], 103⟩], [⟨b25, [s47.v], 89⟩], [⟨b2, [nilS.v], 89⟩]] ∧ Rd m15 s1 p_c_44.code ∧ p_c_44.code = p_c.code ∧ OwnL m15 3 q47 s47 g_46.Parents) hl1 ⟨q24, s24, _, _, _, rfl, hF.sub ⟨rfl, rfl, rfl, rfl, trivial⟩, hS.sel [2, 0, 1, 4] (by decide), h28, (hk28.trans hk18), h24⟩ ?_ ?_
  · clear hF hS
    rintro s a w st ⟨q33, s33, k_29, p_c_30, g_32, rfl, hF, hS, h31, h31k, h33⟩ hb1
    unfold spec_l1Cur_geo_l1 at hb1
    refine q_seq ?_
    refine q_seq ?_
    refine q_region ?_
    refine q_x (v := (.int .i64 k_29)) hF hS (ex_move rfl) rfl rfl fun a hF => ?_
    refine q_x (v := (.bool (decide (0 < k_29)))) hF hS (ex_ibin rfl rfl rfl) rfl rfl fun a hF => ?_
    refine q_end (n_sq ?_)
    rcases bcase (decide (0 < k_29)) with hc2 | hc2
    · have hb1 := cond_f hc2 hb1
      refine q_cond_f hF rfl hc2 ?_
      refine q_exit (x_sq ?_)
      obtain rfl := someI hb1
      exact ⟨nofun, .inl ⟨q33, s33, _, _, rfl, rfl, hF.sub ⟨rfl, rfl, trivial⟩, hS, h31, h31k, h33⟩⟩
    · have hb1 := cond_t hc2 hb1
      refine q_cond_t hF rfl hc2 ?_
      refine q_skipc (n_sq ?_)
      refine q_seq ?_
      refine q_block ?_
      obtain ⟨j3, hj3, hb1⟩ := bindS hb1
      refine q_join (fun a w => ∃ (q43 : Piece), ∃ (s43 : Sl), ∃ p_c_40, ∃ g_42, j3 = (p_c_40, g_42) ∧ Fr a 39 [(0, (.pointer (some ⟨b_p_c, 0, none⟩))), (2, (.pointer (some ⟨b2, 0, none⟩))), (4, (.pointer (some ⟨b25, 0, none⟩))), (5, (.int .i64 k_29))] ∧ St X w0 w m15 [q43, [⟨b_p_c, [s1.v, (.int .i64 p_c_40.at_), (.int .u64 p_c_40.seed.v)], 103⟩], [⟨b25, [s43.v], 89⟩], [⟨b2, [nilS.v], 89⟩]] ∧ Rd m15 s1 p_c_40.code ∧ p_c_40.code = p_c.code ∧ OwnL m15 3 q43 s43 g_42.Parents) ?_ ?_
      · refine e_region [6, 8, 10] mixed fun w' hw' => ?_
        have hS := hS.below hw'
        refine e_p (v := (.pointer (some ⟨b25, 0, none⟩))) 0 hF rfl (ex_fieldAddr Try.underlying89 rfl sz42 rfl rfl) rfl rfl (by kernel_rfl) (by kernel_rfl) (by kernel_rfl) fun a hF => ?_
        refine e_p (v := (.pointer (some ⟨b_p_c, 0, none⟩))) 2 hF rfl (ex_move rfl) rfl rfl (by kernel_rfl) (by kernel_rfl) (by kernel_rfl) fun a hF => ?_
        refine e_p (v := (.pointer (some ⟨b25, 0, none⟩))) 3 hF rfl (ex_fieldAddr Try.underlying89 rfl sz42 rfl rfl) rfl rfl (by kernel_rfl) (by kernel_rfl) (by kernel_rfl) fun a hF => ?_
        obtain ⟨t_35, ht_35, hj3⟩ := bindS hj3
        obtain ⟨l_38, hl_38, hj3⟩ := bindS hj3
        refine e_all [1, 4] (by kernel_rfl) rfl ⟨?_, ?_, trivial⟩
        · refine e_lx (v := s33.v) hF hS rfl (ex_load1 2 0 Try.underlying42 rfl rfl rfl rfl) rfl rfl fun a hF => ?_
          refine e_one 4 (by kernel_rfl) ?_
          refine e_lx (v := s33.v) hF hS rfl (ex_load1 2 0 Try.underlying42 rfl rfl rfl rfl) rfl rfl fun a hF => ?_
          refine e_p (v := (.int .i64 (goLen g_32.Parents))) 5 hF rfl (ex_len Try.underlying42 rfl h33.len) rfl rfl (by kernel_rfl) (by kernel_rfl) (by kernel_rfl) fun a hF => ?_
          refine e_one 6 (by kernel_rfl) ?_
          have hS : St _ _ _ _ [[⟨b_p_c, [s1.v, (.int .i64 p_c_30.at_), (.int .u64 p_c_30.seed.v)], 103⟩], q33, [⟨b25, [s33.v], 89⟩], [⟨b2, [nilS.v], 89⟩]] := hS.sel [1, 0, 2, 3] (by decide)
          have hS34 : St _ _ _ _ ([[⟨b_p_c, [s1.v, (.int .i64 p_c_30.at_), (.int .u64 p_c_30.seed.v)], 103⟩]] ++ [q33, [⟨b25, [s33.v], 89⟩], [⟨b2, [nilS.v], 89⟩]]) := hS
          have hE34 := hS34.enter
          refine e_opl rfl rfl rfl fun _ hK => wp_callX (vs := [(.pointer (some ⟨b_p_c, 0, none⟩)), (.int .i64 (goLen g_32.Parents))]) hF Try.func99 (by kernel_rfl) rfl rfl rfl (c_spec_l1Cur_pick p_c_30 (goLen g_32.Parents) t_35 ht_35 _ m15 b_p_c s1 h31 _ hE34) fun a w _ hR hF => hK _ _ ?_
          obtain ⟨rfl, hR34, hk36⟩ := hR
          have hS : St _ _ _ _ [[⟨b_p_c, [s1.v, (.int .i64 t_35.2.at_), (.int .u64 t_35.2.seed.v)], 103⟩], q33, [⟨b25, [s33.v], 89⟩], [⟨b2, [nilS.v], 89⟩]] := hS34.leaveF hR34
          have h36 : Rd m15 s1 t_35.2.code := by rw [hk36]; exact h31
          refine e_one 7 (by kernel_rfl) ?_
          refine e_op rfl rfl fun _ hK => wp_buildSlice' (l := ([t_35.1] : List Int)) (cells := [(.int .i64 t_35.1)]) hF hS Try.underlying42 inf3 rfl rfl (by kernel_rfl) rfl rfl rfl ⟨rfl, rfl⟩ rfl rfl fun a w q37 s37 hF hS h37 hb => hK _ _ hb ?_
          refine e_one 8 (by kernel_rfl) ?_
          have hS : St _ _ _ _ [q33, q37, [⟨b_p_c, [s1.v, (.int .i64 t_35.2.at_), (.int .u64 t_35.2.seed.v)], 103⟩], [⟨b25, [s33.v], 89⟩], [⟨b2, [nilS.v], 89⟩]] := hS.sel [2, 0, 1, 3, 4] (by decide)
          refine e_opl rfl rfl rfl fun _ hK => wp_append hF hS h33 Try.underlying42 inf3 rfl rfl rfl rfl (h37.vw hS (j := 1) rfl) rfl (by decide) hl_38 rfl fun a w q39 s39 hF hS h39 => hK _ _ ?_
          refine e_p (v := (.pointer (some ⟨b25, 0, none⟩))) 9 hF rfl (ex_fieldAddr Try.underlying89 rfl sz42 rfl rfl) rfl rfl (by kernel_rfl) (by kernel_rfl) (by kernel_rfl) fun a hF => ?_
          refine e_one 10 (by kernel_rfl) ?_
          refine e_store (vs := [s39.v]) (cs' := [s39.v]) 3 0 hF hS rfl rfl sz42 rfl rfl rfl rfl rfl rfl rfl rfl fun a w hF hS => ?_
          refine e_end (by kernel_rfl) (n_jn ?_) _
          obtain rfl := someI hj3
          exact ⟨q39, s39, _, _, rfl, hF.sub ⟨rfl, rfl, rfl, rfl, trivial⟩, hS.mask [true, false, true, true, true], h36, (hk36.trans h31k), h39⟩
        · refine e_lx (v := s33.v) hF hS rfl (ex_load1 2 0 Try.underlying42 rfl rfl rfl rfl) rfl rfl fun a hF => ?_
          refine e_p (v := (.int .i64 (goLen g_32.Parents))) 5 hF rfl (ex_len Try.underlying42 rfl h33.len) rfl rfl (by kernel_rfl) (by kernel_rfl) (by kernel_rfl) fun a hF => ?_
          refine e_all [1, 6] (by kernel_rfl) rfl ⟨?_, ?_, trivial⟩
          · refine e_lx (v := s33.v) hF hS rfl (ex_load1 2 0 Try.underlying42 rfl rfl rfl rfl) rfl rfl fun a hF => ?_
            refine e_one 6 (by kernel_rfl) ?_
            have hS : St _ _ _ _ [[⟨b_p_c, [s1.v, (.int .i64 p_c_30.at_), (.int .u64 p_c_30.seed.v)], 103⟩], q33, [⟨b25, [s33.v], 89⟩], [⟨b2, [nilS.v], 89⟩]] := hS.sel [1, 0, 2, 3] (by decide)
            have hS34 : St _ _ _ _ ([[⟨b_p_c, [s1.v, (.int .i64 p_c_30.at_), (.int .u64 p_c_30.seed.v)], 103⟩]] ++ [q33, [⟨b25, [s33.v], 89⟩], [⟨b2, [nilS.v], 89⟩]]) := hS
            have hE34 := hS34.enter
            refine e_opl rfl rfl rfl fun _ hK => wp_callX (vs := [(.pointer (some ⟨b_p_c, 0, none⟩)), (.int .i64 (goLen g_32.Parents))]) hF Try.func99 (by kernel_rfl) rfl rfl rfl (c_spec_l1Cur_pick p_c_30 (goLen g_32.Parents) t_35 ht_35 _ m15 b_p_c s1 h31 _ hE34) fun a w _ hR hF => hK _ _ ?_
            obtain ⟨rfl, hR34, hk36⟩ := hR
            have hS : St _ _ _ _ [[⟨b_p_c, [s1.v, (.int .i64 t_35.2.at_), (.int .u64 t_35.2.seed.v)], 103⟩], q33, [⟨b25, [s33.v], 89⟩], [⟨b2, [nilS.v], 89⟩]] := hS34.leaveF hR34
            have h36 : Rd m15 s1 t_35.2.code := by rw [hk36]; exact h31
            refine e_one 7 (by kernel_rfl) ?_
            refine e_op rfl rfl fun _ hK => wp_buildSlice' (l := ([t_35.1] : List Int)) (cells := [(.int .i64 t_35.1)]) hF hS Try.underlying42 inf3 rfl rfl (by kernel_rfl) rfl rfl rfl ⟨rfl, rfl⟩ rfl rfl fun a w q37 s37 hF hS h37 hb => hK _ _ hb ?_
            refine e_one 8 (by kernel_rfl) ?_
            have hS : St _ _ _ _ [q33, q37, [⟨b_p_c, [s1.v, (.int .i64 t_35.2.at_), (.int .u64 t_35.2.seed.v)], 103⟩], [⟨b25, [s33.v], 89⟩], [⟨b2, [nilS.v], 89⟩]] := hS.sel [2, 0, 1, 3, 4] (by decide)
            refine e_opl rfl rfl rfl fun _ hK => wp_append hF hS h33 Try.underlying42 inf3 rfl rfl rfl rfl (h37.vw hS (j := 1) rfl) rfl (by decide) hl_38 rfl fun a w q39 s39 hF hS h39 => hK _ _ ?_
            refine e_p (v := (.pointer (some ⟨b25, 0, none⟩))) 9 hF rfl (ex_fieldAddr Try.underlying89 rfl sz42 rfl rfl) rfl rfl (by kernel_rfl) (by kernel_rfl) (by kernel_rfl) fun a hF => ?_
            refine e_one 10 (by kernel_rfl) ?_
            refine e_store (vs := [s39.v]) (cs' := [s39.v]) 3 0 hF hS rfl rfl sz42 rfl rfl rfl rfl rfl rfl rfl rfl fun a w hF hS => ?_
            refine e_end (by kernel_rfl) (n_jn ?_) _
            obtain rfl := someI hj3
            exact ⟨q39, s39, _, _, rfl, hF.sub ⟨rfl, rfl, rfl, rfl, trivial⟩, hS.mask [true, false, true, true, true], h36, (hk36.trans h31k), h39⟩
          · have hS : St _ _ _ _ [[⟨b_p_c, [s1.v, (.int .i64 p_c_30.at_), (.int .u64 p_c_30.seed.v)], 103⟩], q33, [⟨b25, [s33.v], 89⟩], [⟨b2, [nilS.v], 89⟩]] := hS.sel [1, 0, 2, 3] (by decide)
            have hS34 : St _ _ _ _ ([[⟨b_p_c, [s1.v, (.int .i64 p_c_30.at_), (.int .u64 p_c_30.seed.v)], 103⟩]] ++ [q33, [⟨b25, [s33.v], 89⟩], [⟨b2, [nilS.v], 89⟩]]) := hS
            have hE34 := hS34.enter
            refine e_opl rfl rfl rfl fun _ hK => wp_callX (vs := [(.pointer (some ⟨b_p_c, 0, none⟩)), (.int .i64 (goLen g_32.Parents))]) hF Try.func99 (by kernel_rfl) rfl rfl rfl (c_spec_l1Cur_pick p_c_30 (goLen g_32.Parents) t_35 ht_35 _ m15 b_p_c s1 h31 _ hE34) fun a w _ hR hF => hK _ _ ?_
            obtain ⟨rfl, hR34, hk36⟩ := hR
            have hS : St _ _ _ _ [[⟨b_p_c, [s1.v, (.int .i64 t_35.2.at_), (.int .u64 t_35.2.seed.v)], 103⟩], q33, [⟨b25, [s33.v], 89⟩], [⟨b2, [nilS.v], 89⟩]] := hS34.leaveF hR34
            have h36 : Rd m15 s1 t_35.2.code := by rw [hk36]; exact h31
            refine e_x (v := s33.v) 1 hF hS rfl (ex_load1 2 0 Try.underlying42 rfl rfl rfl rfl) rfl rfl (by kernel_rfl) (by kernel_rfl) (by kernel_rfl) (by kernel_rfl) fun a hF => ?_
            refine e_one 7 (by kernel_rfl) ?_
            refine e_op rfl rfl fun _ hK => wp_buildSlice' (l := ([t_35.1] : List Int)) (cells := [(.int .i64 t_35.1)]) hF hS Try.underlying42 inf3 rfl rfl (by kernel_rfl) rfl rfl rfl ⟨rfl, rfl⟩ rfl rfl fun a w q37 s37 hF hS h37 hb => hK _ _ hb ?_
            refine e_one 8 (by kernel_rfl) ?_
            have hS : St _ _ _ _ [q33, q37, [⟨b_p_c, [s1.v, (.int .i64 t_35.2.at_), (.int .u64 t_35.2.seed.v)], 103⟩], [⟨b25, [s33.v], 89⟩], [⟨b2, [nilS.v], 89⟩]] := hS.sel [2, 0, 1, 3, 4] (by decide)
            refine e_opl rfl rfl rfl fun _ hK => wp_append hF hS h33 Try.underlying42 inf3 rfl rfl rfl rfl (h37.vw hS (j := 1) rfl) rfl (by decide) hl_38 rfl fun a w q39 s39 hF hS h39 => hK _ _ ?_
            refine e_p (v := (.pointer (some ⟨b25, 0, none⟩))) 9 hF rfl (ex_fieldAddr Try.underlying89 rfl sz42 rfl rfl) rfl rfl (by kernel_rfl) (by kernel_rfl) (by kernel_rfl) fun a hF => ?_
            refine e_one 10 (by kernel_rfl) ?_
            refine e_store (vs := [s39.v]) (cs' := [s39.v]) 3 0 hF hS rfl rfl sz42 rfl rfl rfl rfl rfl rfl rfl rfl fun a w hF hS => ?_
            refine e_end (by kernel_rfl) (n_jn ?_) _
            obtain rfl := someI hj3
            exact ⟨q39, s39, _, _, rfl, hF.sub ⟨rfl, rfl, rfl, rfl, trivial⟩, hS.mask [true, false, true, true, true], h36, (hk36.trans h31k), h39⟩
      · rintro a w ⟨q43, s43, p_c_40, g_42, rfl, hF, hS, h41, h41k, h43⟩
        refine n_ib (n_sq ?_)
        refine q_region ?_
        refine q_x (v := (.int .i64 k_29)) hF hS (ex_move rfl) rfl rfl fun a hF => ?_
        refine q_x (v := (.int .i64 (w64 (k_29 - 1)))) hF hS (ex_ibin rfl rfl rfl) rfl rfl fun a hF => ?_
        refine q_x (v := (.int .i64 (w64 (k_29 - 1)))) hF hS (ex_assign rfl) rfl rfl fun a hF => ?_
        refine q_end ?_
        obtain rfl := someI hb1
        exact ⟨rfl, q43, s43, _, _, _, rfl, hF.sub ⟨rfl, rfl, rfl, rfl, trivial⟩, hS, h41, h41k, h43⟩
  · rintro e a w ⟨q47, s47, p_c_44, g_46, rfl, rfl, hF, hS, h45, h45k, h47⟩
    refine x_ib (n_sq ?_)
    refine q_seq ?_
    refine q_region ?_
    refine q_x (v := (.agg #[s47.v])) hF hS (ex_loadA (vs := [s47.v]) 2 0 Try.underlying89 rfl sz89 rfl rfl rfl rfl) rfl rfl fun a hF => ?_
    refine q_store (vs := [s47.v]) (cs' := [s47.v]) 3 0 hF hS sz89 rfl rfl rfl rfl rfl rfl rfl rfl fun a w hF hS => ?_
    refine q_end (n_sq (q_ret ?_))
    obtain rfl := someI hr
    exact ret_ofX hF hS rfl (.cellA (us := [s47.v]) 3 0 Try.underlying89 rfl sz89 rfl rfl rfl rfl .nil) ⟨m15, q47, s47, rfl, (((((hm10.trans hm11).trans hm12).trans hm13).trans hm14).trans hm15), hS.sel [1, 0] (by decide), h47, h45k⟩

theorem c_spec_l1Cur_among (p_c : spec_l1Cur) (p_list : List Int) (r : Int × spec_l1Cur) (hr : spec_l1Cur_among p_c p_list = some r) (w0 : World) (m : Mem) (b_p_c : Nat) (s1 : Sl) (h1 : Rd m s1 p_c.code) (s2 : Sl) (h2 : Rd m s2 p_list) (X : List Nat) (hS : St X w0 w0 m [[⟨b_p_c, [s1.v, (.int .i64 p_c.at_), (.int .u64 p_c.seed.v)], 103⟩]]) :
    RetX Try.prog 100 [(.pointer (some ⟨b_p_c, 0, none⟩)), s2.v] w0 (fun v w => v = (.int .i64 r.1) ∧ St X w0 w m [[⟨b_p_c, [s1.v, (.int .i64 r.2.at_), (.int .u64 r.2.seed.v)], 103⟩]] ∧ r.2.code = p_c.code) := by
  unfold spec_l1Cur_among at hr
  refine ret_startX Try.func100 rfl 12 rfl rfl fun a hF => ?_
  refine q_seq ?_
  refine q_region ?_
  refine q_x (v := (.int .i64 0)) hF hS (ex_assign rfl) rfl rfl fun a hF => ?_
  refine q_end (n_sq ?_)
  refine q_seq ?_
  refine q_region ?_
  refine q_x (v := s2.v) hF hS (ex_move rfl) rfl rfl fun a hF => ?_
  refine q_x (v := (.pointer (some ⟨b_p_c, 0, none⟩))) hF hS (ex_move rfl) rfl rfl fun a hF => ?_
  refine q_x (v := s2.v) hF hS (ex_move rfl) rfl rfl fun a hF => ?_
  refine q_x (v := (.int .i64 (goLen p_list))) hF hS (ex_len Try.underlying42 rfl h2.len) rfl rfl fun a hF => ?_
  have hS3 : St _ _ _ _ ([[⟨b_p_c, [s1.v, (.int .i64 p_c.at_), (.int .u64 p_c.seed.v)], 103⟩]] ++ []) := hS
  have hE3 := hS3.enter
  obtain ⟨t_4, ht_4, hr⟩ := bindS hr
  refine q_do rfl fun _ hK => wp_callX (vs := [(.pointer (some ⟨b_p_c, 0, none⟩)), (.int .i64 (goLen p_list))]) hF Try.func99 (by kernel_rfl) rfl rfl rfl (c_spec_l1Cur_pick p_c (goLen p_list) t_4 ht_4 _ m b_p_c s1 h1 _ hE3) fun a w _ hR hF => hK _ _ ?_
  obtain ⟨rfl, hR3, hk5⟩ := hR
  have hS : St _ _ _ _ [[⟨b_p_c, [s1.v, (.int .i64 t_4.2.at_), (.int .u64 t_4.2.seed.v)], 103⟩]] := hS3.leaveF hR3
  have h5 : Rd m s1 t_4.2.code := by rw [hk5]; exact h1
  obtain ⟨e_6, he_6, hr⟩ := bindS hr
  obtain ⟨vs7, at7, d7⟩ := h2.at he_6 1 rfl
  obtain rfl : vs7 = [(.int .i64 e_6)] := d7
  refine q_x (v := (elP s2 (t_4.1.toNat * 1))) hF hS (ex_indexAddr Try.underlying42 sz3 rfl rfl (h2.idx he_6)) rfl rfl fun a hF => ?_
  refine q_x (v := (.int .i64 e_6)) hF hS (ex_loadE1 0 Try.underlying3 rfl rfl ((at7).at) rfl rfl) rfl rfl fun a hF => ?_
  refine q_x (v := (.int .i64 e_6)) hF hS (ex_assign rfl) rfl rfl fun a hF => ?_
  refine q_end (n_sq (q_ret ?_))
  obtain rfl := someI hr
  exact ret_ofX hF hS rfl (.tmp rfl .nil) ⟨rfl, hS.sel [0] (by decide), hk5⟩

theorem c_spec_l1Cur_anyGeo (p_c : spec_l1Cur) (r : impl_Geo × spec_l1Cur) (hr : spec_l1Cur_anyGeo p_c = some r) (w0 : World) (m : Mem) (b_p_c : Nat) (s1 : Sl) (h1 : Rd m s1 p_c.code) (X : List Nat) (hS : St X w0 w0 m [[⟨b_p_c, [s1.v, (.int .i64 p_c.at_), (.int .u64 p_c.seed.v)], 103⟩]]) :
    RetX Try.prog 151 [(.pointer (some ⟨b_p_c, 0, none⟩))] w0 (fun v w => ∃ (m' : Mem) (q0' : Piece) (s0' : Sl), v = (.agg #[s0'.v]) ∧ MLe X w0.heap.size m m' ∧ St X w0 w m' [[⟨b_p_c, [s1.v, (.int .i64 r.2.at_), (.int .u64 r.2.seed.v)], 103⟩], q0'] ∧ OwnL m' 3 q0' s0' r.1.Parents ∧ r.2.code = p_c.code) := by
  unfold spec_l1Cur_anyGeo at hr
  refine ret_startX Try.func151 rfl 43 rfl rfl fun a hF => ?_
  refine q_seq ?_
  refine q_region ?_
  refine q_alloc (cs := [nilS.v]) hF hS rfl rfl rfl fun a w b2 hF hS => ?_
  refine q_end (n_sq ?_)
  refine q_seq ?_
  refine q_region ?_
  refine q_x (v := (.pointer (some ⟨b_p_c, 0, none⟩))) hF hS (ex_move rfl) rfl rfl fun a hF => ?_
  have hS : St _ _ _ _ [[⟨b_p_c, [s1.v, (.int .i64 p_c.at_), (.int .u64 p_c.seed.v)], 103⟩], [⟨b2, [nilS.v], 89⟩]] := hS.sel [1, 0] (by decide)
  have hS3 : St _ _ _ _ ([[⟨b_p_c, [s1.v, (.int .i64 p_c.at_), (.int .u64 p_c.seed.v)], 103⟩]] ++ [[⟨b2, [nilS.v], 89⟩]]) := hS
  have hE3 := hS3.enter
  obtain ⟨t_4, ht_4, hr⟩ := bindS hr
  refine q_do rfl fun _ hK => wp_callX (vs := [(.pointer (some ⟨b_p_c, 0, none⟩))]) hF Try.func172 (by kernel_rfl) rfl rfl rfl (c_spec_l1Cur_geo p_c t_4 ht_4 _ m b_p_c s1 h1 _ hE3) fun a w _ hR hF => hK _ _ ?_
  obtain ⟨m3', q5, s5, rfl, hm3, hR3, h5, hk6⟩ := hR
  have hS : St _ _ _ _ [[⟨b_p_c, [s1.v, (.int .i64 t_4.2.at_), (.int .u64 t_4.2.seed.v)], 103⟩], q5, [⟨b2, [nilS.v], 89⟩]] := hS3.leave hR3 hm3
  have hm3 := MLe.weakX hS3 hm3
  have h6 : Rd m3' s1 t_4.2.code := by rw [hk6]; exact (h1.mono hm3.le)
  refine q_alloc (cs := [nilS.v]) hF hS rfl rfl rfl fun a w b7 hF hS => ?_
  refine q_store (vs := [s5.v]) (cs' := [s5.v]) 0 0 hF hS sz89 rfl rfl rfl rfl rfl rfl rfl rfl fun a w hF hS => ?_
  refine q_end (n_sq ?_)
  refine q_seq ?_
  refine q_seq ?_
  refine q_region ?_
  refine q_x (v := (.pointer (some ⟨b_p_c, 0, none⟩))) hF hS (ex_move rfl) rfl rfl fun a hF => ?_
  have hS : St _ _ _ _ [[⟨b_p_c, [s1.v, (.int .i64 t_4.2.at_), (.int .u64 t_4.2.seed.v)], 103⟩], [⟨b7, [s5.v], 89⟩], q5, [⟨b2, [nilS.v], 89⟩]] := hS.sel [1, 0, 2, 3] (by decide)
  have hS8 : St _ _ _ _ ([[⟨b_p_c, [s1.v, (.int .i64 t_4.2.at_), (.int .u64 t_4.2.seed.v)], 103⟩]] ++ [[⟨b7, [s5.v], 89⟩], q5, [⟨b2, [nilS.v], 89⟩]]) := hS
  have hE8 := hS8.enter
  obtain ⟨t_9, ht_9, hr⟩ := bindS hr
  refine q_do rfl fun _ hK => wp_callX (vs := [(.pointer (some ⟨b_p_c, 0, none⟩)), (.int .i64 24)]) hF Try.func99 (by kernel_rfl) rfl rfl rfl (c_spec_l1Cur_pick t_4.2 24 t_9 ht_9 _ m3' b_p_c s1 h6 _ hE8) fun a w _ hR hF => hK _ _ ?_
  obtain ⟨rfl, hR8, hk10⟩ := hR
  have hS : St _ _ _ _ [[⟨b_p_c, [s1.v, (.int .i64 t_9.2.at_), (.int .u64 t_9.2.seed.v)], 103⟩], [⟨b7, [s5.v], 89⟩], q5, [⟨b2, [nilS.v], 89⟩]] := hS8.leaveF hR8
  have h10 : Rd m3' s1 t_9.2.code := by rw [hk10]; exact h6
  refine q_end (n_sq ?_)
  refine q_block ?_
  refine q_seq ?_
  refine q_region ?_
  refine q_x (v := (.bool (t_9.1 == 0))) hF hS (ex_ibin rfl rfl rfl) rfl rfl fun a hF => ?_
  refine q_x (v := (.bool (t_9.1 == 0))) hF hS (ex_assign rfl) rfl rfl fun a hF => ?_
  refine q_end (n_sq ?_)
  obtain ⟨j1, hj1, hr⟩ := bindS hr
  refine q_join (fun a w => ∃ (q44 : Piece), ∃ (s44 : Sl), ∃ p_c_41, ∃ g_43, j1 = .inl (p_c_41, g_43) ∧ Fr a 43 [(2, (.pointer (some ⟨b2, 0, none⟩))), (3, (.pointer (some ⟨b7, 0, none⟩)))] ∧ St X w0 w m3' [q44, [⟨b_p_c, [s1.v, (.int .i64 p_c_41.at_), (.int .u64 p_c_41.seed.v)], 103⟩], [⟨b7, [s44.v], 89⟩], [⟨b2, [nilS.v], 89⟩]] ∧ Rd m3' s1 p_c_41.code ∧ p_c_41.code = p_c.code ∧ OwnL m3' 3 q44 s44 g_43.Parents) ?_ ?_
  · rcases bcase (t_9.1 == 0) with hc2 | hc2
    · have hj1 := cond_f hc2 hj1
      refine q_cond_f hF rfl hc2 ?_
      refine q_seq ?_
      refine q_region ?_
      refine q_x (v := (.bool (t_9.1 == 1))) hF hS (ex_ibin rfl rfl rfl) rfl rfl fun a hF => ?_
      refine q_x (v := (.bool (t_9.1 == 1))) hF hS (ex_assign rfl) rfl rfl fun a hF => ?_
      refine q_end (n_sq ?_)
      obtain ⟨j3, hj3, hj1⟩ := bindS hj1
      refine q_join (fun a w => ∃ (q37 : Piece), ∃ (s37 : Sl), ∃ p_c_34, ∃ g_36, j3 = .inl (p_c_34, g_36) ∧ Fr a 43 [(2, (.pointer (some ⟨b2, 0, none⟩))), (3, (.pointer (some ⟨b7, 0, none⟩)))] ∧ St X w0 w m3' [q37, [⟨b_p_c, [s1.v, (.int .i64 p_c_34.at_), (.int .u64 p_c_34.seed.v)], 103⟩], [⟨b7, [s37.v], 89⟩], [⟨b2, [nilS.v], 89⟩]] ∧ Rd m3' s1 p_c_34.code ∧ p_c_34.code = p_c.code ∧ OwnL m3' 3 q37 s37 g_36.Parents) ?_ ?_
      · rcases bcase (t_9.1 == 1) with hc4 | hc4
        · have hj3 := cond_f hc4 hj3
          refine q_cond_f hF rfl hc4 ?_
          refine q_seq ?_
          refine q_region ?_
          refine q_x (v := (.bool (t_9.1 == 2))) hF hS (ex_ibin rfl rfl rfl) rfl rfl fun a hF => ?_
          refine q_x (v := (.bool (t_9.1 == 2))) hF hS (ex_assign rfl) rfl rfl fun a hF => ?_
          refine q_end (n_sq ?_)
          rcases bcase (t_9.1 == 2) with hc5 | hc5
          · have hj3 := cond_f hc5 hj3
            refine q_cond_f hF rfl hc5 ?_
            refine q_seq ?_
            refine q_region ?_
            refine q_x (v := (.bool (t_9.1 == 3))) hF hS (ex_ibin rfl rfl rfl) rfl rfl fun a hF => ?_
            refine q_x (v := (.bool (t_9.1 == 3))) hF hS (ex_assign rfl) rfl rfl fun a hF => ?_
            refine q_end (n_sq ?_)
            obtain ⟨j6, hj6, hj3⟩ := bindS hj3
            refine q_join (fun a w => ∃ (q22 : Piece), ∃ (s22 : Sl), ∃ p_c_19, ∃ g_21, j6 = (p_c_19, g_21) ∧ Fr a 43 [(2, (.pointer (some ⟨b2, 0, none⟩))), (3, (.pointer (some ⟨b7, 0, none⟩)))] ∧ St X w0 w m3' [q22, [⟨b_p_c, [s1.v, (.int .i64 p_c_19.at_), (.int .u64 p_c_19.seed.v)], 103⟩], [⟨b7, [s22.v], 89⟩], [⟨b2, [nilS.v], 89⟩]] ∧ Rd m3' s1 p_c_19.code ∧ p_c_19.code = p_c.code ∧ OwnL m3' 3 q22 s22 g_21.Parents) ?_ ?_
            · rcases bcase (t_9.1 == 3) with hc7 | hc7
              · have hj6 := cond_f hc7 hj6
                refine q_cond_f hF rfl hc7 ?_
                refine q_skipc (n_jn ?_)
                obtain rfl := someI hj6
                exact ⟨q5, s5, _, _, rfl, hF.sub ⟨rfl, rfl, trivial⟩, hS.sel [2, 0, 1, 3] (by decide), h10, (hk10.trans hk6), h5⟩
              · have hj6 := cond_t hc7 hj6
                refine q_cond_t hF rfl hc7 ?_
                refine e_region [7, 9, 11] mixed fun w' hw' => ?_
                have hS := hS.below hw'
                refine e_p (v := (.pointer (some ⟨b7, 0, none⟩))) 0 hF rfl (ex_fieldAddr Try.underlying89 rfl sz42 rfl rfl) rfl rfl (by kernel_rfl) (by kernel_rfl) (by kernel_rfl) fun a hF => ?_
                refine e_p (v := (.pointer (some ⟨b7, 0, none⟩))) 2 hF rfl (ex_fieldAddr Try.underlying89 rfl sz42 rfl rfl) rfl rfl (by kernel_rfl) (by kernel_rfl) (by kernel_rfl) fun a hF => ?_
                refine e_p (v := (.pointer (some ⟨b_p_c, 0, none⟩))) 6 hF rfl (ex_move rfl) rfl rfl (by kernel_rfl) (by kernel_rfl) (by kernel_rfl) fun a hF => ?_
                obtain ⟨t_15, ht_15, hj6⟩ := bindS hj6
                obtain ⟨l_17, hl_17, hj6⟩ := bindS hj6
                refine e_all [1, 3, 7] (by kernel_rfl) rfl ⟨?_, ?_, ?_, trivial⟩
                · refine e_lx (v := s5.v) hF hS rfl (ex_load1 1 0 Try.underlying42 rfl rfl rfl rfl) rfl rfl fun a hF => ?_
                  refine e_all [3, 7] (by kernel_rfl) rfl ⟨?_, ?_, trivial⟩
                  · refine e_lx (v := s5.v) hF hS rfl (ex_load1 1 0 Try.underlying42 rfl rfl rfl rfl) rfl rfl fun a hF => ?_
                    refine e_p (v := (.int .i64 (goLen t_4.1.Parents))) 4 hF rfl (ex_len Try.underlying42 rfl h5.len) rfl rfl (by kernel_rfl) (by kernel_rfl) (by kernel_rfl) fun a hF => ?_
                    refine e_p (v := (.int .i64 (w64 (30 - (goLen t_4.1.Parents))))) 5 hF rfl (ex_ibin rfl rfl rfl) rfl rfl (by kernel_rfl) (by kernel_rfl) (by kernel_rfl) fun a hF => ?_
                    refine e_one 7 (by kernel_rfl) ?_
                    have hS14 : St _ _ _ _ ([[⟨b_p_c, [s1.v, (.int .i64 t_9.2.at_), (.int .u64 t_9.2.seed.v)], 103⟩]] ++ [[⟨b7, [s5.v], 89⟩], q5, [⟨b2, [nilS.v], 89⟩]]) := hS
                    have hE14 := hS14.enter
                    refine e_opl rfl rfl rfl fun _ hK => wp_callX (vs := [(.pointer (some ⟨b_p_c, 0, none⟩)), (.int .i64 2)]) hF Try.func99 (by kernel_rfl) rfl rfl rfl (c_spec_l1Cur_pick t_9.2 2 t_15 ht_15 _ m3' b_p_c s1 h10 _ hE14) fun a w _ hR hF => hK _ _ ?_
                    obtain ⟨rfl, hR14, hk16⟩ := hR
                    have hS : St _ _ _ _ [[⟨b_p_c, [s1.v, (.int .i64 t_15.2.at_), (.int .u64 t_15.2.seed.v)], 103⟩], [⟨b7, [s5.v], 89⟩], q5, [⟨b2, [nilS.v], 89⟩]] := hS14.leaveF hR14
                    have h16 : Rd m3' s1 t_15.2.code := by rw [hk16]; exact h10
                    refine e_p (v := (.int .i64 (w64 ((w64 (30 - (goLen t_4.1.Parents))) + t_15.1)))) 8 hF rfl (ex_ibin rfl rfl rfl) rfl rfl (by kernel_rfl) (by kernel_rfl) (by kernel_rfl) fun a hF => ?_
                    refine e_one 9 (by kernel_rfl) ?_
                    have hS : St _ _ _ _ [q5, [⟨b_p_c, [s1.v, (.int .i64 t_15.2.at_), (.int .u64 t_15.2.seed.v)], 103⟩], [⟨b7, [s5.v], 89⟩], [⟨b2, [nilS.v], 89⟩]] := hS.sel [2, 0, 1, 3] (by decide)
                    refine e_opl rfl rfl rfl fun _ hK => wp_appendZ (z := (0 : Int)) hF hS h5 Try.underlying42 Try.underlying3 inf3 rfl rfl rfl rfl rfl rfl (by decide) hl_17 rfl fun a w q18 s18 hF hS h18 => hK _ _ ?_
                    refine e_p (v := (.pointer (some ⟨b7, 0, none⟩))) 10 hF rfl (ex_fieldAddr Try.underlying89 rfl sz42 rfl rfl) rfl rfl (by kernel_rfl) (by kernel_rfl) (by kernel_rfl) fun a hF => ?_
                    refine e_one 11 (by kernel_rfl) ?_
                    refine e_store (vs := [s18.v]) (cs' := [s18.v]) 2 0 hF hS rfl rfl sz42 rfl rfl rfl rfl rfl rfl rfl rfl fun a w hF hS => ?_
                    refine e_end (by kernel_rfl) (n_jn ?_) _
                    obtain rfl := someI hj6
                    exact ⟨q18, s18, _, _, rfl, hF.sub ⟨rfl, rfl, trivial⟩, hS, h16, (hk16.trans (hk10.trans hk6)), h18⟩
                  · have hS14 : St _ _ _ _ ([[⟨b_p_c, [s1.v, (.int .i64 t_9.2.at_), (.int .u64 t_9.2.seed.v)], 103⟩]] ++ [[⟨b7, [s5.v], 89⟩], q5, [⟨b2, [nilS.v], 89⟩]]) := hS
                    have hE14 := hS14.enter
                    refine e_opl rfl rfl rfl fun _ hK => wp_callX (vs := [(.pointer (some ⟨b_p_c, 0, none⟩)), (.int .i64 2)]) hF Try.func99 (by kernel_rfl) rfl rfl rfl (c_spec_l1Cur_pick t_9.2 2 t_15 ht_15 _ m3' b_p_c s1 h10 _ hE14) fun a w _ hR hF => hK _ _ ?_
                    obtain ⟨rfl, hR14, hk16⟩ := hR
                    have hS : St _ _ _ _ [[⟨b_p_c, [s1.v, (.int .i64 t_15.2.at_), (.int .u64 t_15.2.seed.v)], 103⟩], [⟨b7, [s5.v], 89⟩], q5, [⟨b2, [nilS.v], 89⟩]] := hS14.leaveF hR14
                    have h16 : Rd m3' s1 t_15.2.code := by rw [hk16]; exact h10
                    refine e_one 3 (by kernel_rfl) ?_
                    refine e_lx (v := s5.v) hF hS rfl (ex_load1 1 0 Try.underlying42 rfl rfl rfl rfl) rfl rfl fun a hF => ?_
                    refine e_p (v := (.int .i64 (goLen t_4.1.Parents))) 4 hF rfl (ex_len Try.underlying42 rfl h5.len) rfl rfl (by kernel_rfl) (by kernel_rfl) (by kernel_rfl) fun a hF => ?_
                    refine e_p (v := (.int .i64 (w64 (30 - (goLen t_4.1.Parents))))) 5 hF rfl (ex_ibin rfl rfl rfl) rfl rfl (by kernel_rfl) (by kernel_rfl) (by kernel_rfl) fun a hF => ?_
                    refine e_p (v := (.int .i64 (w64 ((w64 (30 - (goLen t_4.1.Parents))) + t_15.1)))) 8 hF rfl (ex_ibin rfl rfl rfl) rfl rfl (by kernel_rfl) (by kernel_rfl) (by kernel_rfl) fun a hF => ?_
                    refine e_one 9 (by kernel_rfl) ?_
                    have hS : St _ _ _ _ [q5, [⟨b_p_c, [s1.v, (.int .i64 t_15.2.at_), (.int .u64 t_15.2.seed.v)], 103⟩], [⟨b7, [s5.v], 89⟩], [⟨b2, [nilS.v], 89⟩]] := hS.sel [2, 0, 1, 3] (by decide)
                    refine e_opl rfl rfl rfl fun _ hK => wp_appendZ (z := (0 : Int)) hF hS h5 Try.underlying42 Try.underlying3 inf3 rfl rfl rfl rfl rfl rfl (by decide) hl_17 rfl fun a w q18 s18 hF hS h18 => hK _ _ ?_
                    refine e_p (v := (.pointer (some ⟨b7, 0, none⟩))) 10 hF rfl (ex_fieldAddr Try.underlying89 rfl sz42 rfl rfl) rfl rfl (by kernel_rfl) (by kernel_rfl) (by kernel_rfl) fun a hF => ?_
                    refine e_one 11 (by kernel_rfl) ?_
                    refine e_store (vs := [s18.v]) (cs' := [s18.v]) 2 0 hF hS rfl rfl sz42 rfl rfl rfl rfl rfl rfl rfl rfl fun a w hF hS => ?_
                    refine e_end (by kernel_rfl) (n_jn ?_) _
                    obtain rfl := someI hj6
                    exact ⟨q18, s18, _, _, rfl, hF.sub ⟨rfl, rfl, trivial⟩, hS, h16, (hk16.trans (hk10.trans hk6)), h18⟩
                · refine e_lx (v := s5.v) hF hS rfl (ex_load1 1 0 Try.underlying42 rfl rfl rfl rfl) rfl rfl fun a hF => ?_
                  refine e_p (v := (.int .i64 (goLen t_4.1.Parents))) 4 hF rfl (ex_len Try.underlying42 rfl h5.len) rfl rfl (by kernel_rfl) (by kernel_rfl) (by kernel_rfl) fun a hF => ?_
                  refine e_p (v := (.int .i64 (w64 (30 - (goLen t_4.1.Parents))))) 5 hF rfl (ex_ibin rfl rfl rfl) rfl rfl (by kernel_rfl) (by kernel_rfl) (by kernel_rfl) fun a hF => ?_
                  refine e_all [1, 7] (by kernel_rfl) rfl ⟨?_, ?_, trivial⟩
                  · refine e_lx (v := s5.v) hF hS rfl (ex_load1 1 0 Try.underlying42 rfl rfl rfl rfl) rfl rfl fun a hF => ?_
                    refine e_one 7 (by kernel_rfl) ?_
                    have hS14 : St _ _ _ _ ([[⟨b_p_c, [s1.v, (.int .i64 t_9.2.at_), (.int .u64 t_9.2.seed.v)], 103⟩]] ++ [[⟨b7, [s5.v], 89⟩], q5, [⟨b2, [nilS.v], 89⟩]]) := hS
                    have hE14 := hS14.enter
                    refine e_opl rfl rfl rfl fun _ hK => wp_callX (vs := [(.pointer (some ⟨b_p_c, 0, none⟩)), (.int .i64 2)]) hF Try.func99 (by kernel_rfl) rfl rfl rfl (c_spec_l1Cur_pick t_9.2 2 t_15 ht_15 _ m3' b_p_c s1 h10 _ hE14) fun a w _ hR hF => hK _ _ ?_
                    obtain ⟨rfl, hR14, hk16⟩ := hR
                    have hS : St _ _ _ _ [[⟨b_p_c, [s1.v, (.int .i64 t_15.2.at_), (.int .u64 t_15.2.seed.v)], 103⟩], [⟨b7, [s5.v], 89⟩], q5, [⟨b2, [nilS.v], 89⟩]] := hS14.leaveF hR14
                    have h16 : Rd m3' s1 t_15.2.code := by rw [hk16]; exact h10
                    refine e_p (v := (.int .i64 (w64 ((w64 (30 - (goLen t_4.1.Parents))) + t_15.1)))) 8 hF rfl (ex_ibin rfl rfl rfl) rfl rfl (by kernel_rfl) (by kernel_rfl) (by kernel_rfl) fun a hF => ?_
                    refine e_one 9 (by kernel_rfl) ?_
                    have hS : St _ _ _ _ [q5, [⟨b_p_c, [s1.v, (.int .i64 t_15.2.at_), (.int .u64 t_15.2.seed.v)], 103⟩], [⟨b7, [s5.v], 89⟩], [⟨b2, [nilS.v], 89⟩]] := hS.sel [2, 0, 1, 3] (by decide)
                    refine e_opl rfl rfl rfl fun _ hK => wp_appendZ (z := (0 : Int)) hF hS h5 Try.underlying42 Try.underlying3 inf3 rfl rfl rfl rfl rfl rfl (by decide) hl_17 rfl fun a w q18 s18 hF hS h18 => hK _ _ ?_
                    refine e_p (v := (.pointer (some ⟨b7, 0, none⟩))) 10 hF rfl (ex_fieldAddr Try.underlying89 rfl sz42 rfl rfl) rfl rfl (by kernel_rfl) (by kernel_rfl) (by kernel_rfl) fun a hF => ?_
                    refine e_one 11 (by kernel_rfl) ?_
                    refine e_store (vs := [s18.v]) (cs' := [s18.v]) 2 0 hF hS rfl rfl sz42 rfl rfl rfl rfl rfl rfl rfl rfl fun a w hF hS => ?_
                    refine e_end (by kernel_rfl) (n_jn ?_) _
                    obtain rfl := someI hj6
                    exact ⟨q18, s18, _, _, rfl, hF.sub ⟨rfl, rfl, trivial⟩, hS, h16, (hk16.trans (hk10.trans hk6)), h18⟩
                  · have hS14 : St _ _ _ _ ([[⟨b_p_c, [s1.v, (.int .i64 t_9.2.at_), (.int .u64 t_9.2.seed.v)], 103⟩]] ++ [[⟨b7, [s5.v], 89⟩], q5, [⟨b2, [nilS.v], 89⟩]]) := hS
                    have hE14 := hS14.enter
                    refine e_opl rfl rfl rfl fun _ hK => wp_callX (vs := [(.pointer (some ⟨b_p_c, 0, none⟩)), (.int .i64 2)]) hF Try.func99 (by kernel_rfl) rfl rfl rfl (c_spec_l1Cur_pick t_9.2 2 t_15 ht_15 _ m3' b_p_c s1 h10 _ hE14) fun a w _ hR hF => hK _ _ ?_
                    obtain ⟨rfl, hR14, hk16⟩ := hR
                    have hS : St _ _ _ _ [[⟨b_p_c, [s1.v, (.int .i64 t_15.2.at_), (.int .u64 t_15.2.seed.v)], 103⟩], [⟨b7, [s5.v], 89⟩], q5, [⟨b2, [nilS.v], 89⟩]] := hS14.leaveF hR14
                    have h16 : Rd m3' s1 t_15.2.code := by rw [hk16]; exact h10
                    refine e_x (v := s5.v) 1 hF hS rfl (ex_load1 1 0 Try.underlying42 rfl rfl rfl rfl) rfl rfl (by kernel_rfl) (by kernel_rfl) (by kernel_rfl) (by kernel_rfl) fun a hF => ?_
                    refine e_p (v := (.int .i64 (w64 ((w64 (30 - (goLen t_4.1.Parents))) + t_15.1)))) 8 hF rfl (ex_ibin rfl rfl rfl) rfl rfl (by kernel_rfl) (by kernel_rfl) (by kernel_rfl) fun a hF => ?_
                    refine e_one 9 (by kernel_rfl) ?_
                    have hS : St _ _ _ _ [q5, [⟨b_p_c, [s1.v, (.int .i64 t_15.2.at_), (.int .u64 t_15.2.seed.v)], 103⟩], [⟨b7, [s5.v], 89⟩], [⟨b2, [nilS.v], 89⟩]] := hS.sel [2, 0, 1, 3] (by decide)
                    refine e_opl rfl rfl rfl fun _ hK => wp_appendZ (z := (0 : Int)) hF hS h5 Try.underlying42 Try.underlying3 inf3 rfl rfl rfl rfl rfl rfl (by decide) hl_17 rfl fun a w q18 s18 hF hS h18 => hK _ _ ?_
                    refine e_p (v := (.pointer (some ⟨b7, 0, none⟩))) 10 hF rfl (ex_fieldAddr Try.underlying89 rfl sz42 rfl rfl) rfl rfl (by kernel_rfl) (by kernel_rfl) (by kernel_rfl) fun a hF => ?_
                    refine e_one 11 (by kernel_rfl) ?_
                    refine e_store (vs := [s18.v]) (cs' := [s18.v]) 2 0 hF hS rfl rfl sz42 rfl rfl rfl rfl rfl rfl rfl rfl fun a w hF hS => ?_
                    refine e_end (by kernel_rfl) (n_jn ?_) _
                    obtain rfl := someI hj6
                    exact ⟨q18, s18, _, _, rfl, hF.sub ⟨rfl, rfl, trivial⟩, hS, h16, (hk16.trans (hk10.trans hk6)), h18⟩
                · have hS14 : St _ _ _ _ ([[⟨b_p_c, [s1.v, (.int .i64 t_9.2.at_), (.int .u64 t_9.2.seed.v)], 103⟩]] ++ [[⟨b7, [s5.v], 89⟩], q5, [⟨b2, [nilS.v], 89⟩]]) := hS
                  have hE14 := hS14.enter
                  refine e_opl rfl rfl rfl fun _ hK => wp_callX (vs := [(.pointer (some ⟨b_p_c, 0, none⟩)), (.int .i64 2)]) hF Try.func99 (by kernel_rfl) rfl rfl rfl (c_spec_l1Cur_pick t_9.2 2 t_15 ht_15 _ m3' b_p_c s1 h10 _ hE14) fun a w _ hR hF => hK _ _ ?_
                  obtain ⟨rfl, hR14, hk16⟩ := hR
                  have hS : St _ _ _ _ [[⟨b_p_c, [s1.v, (.int .i64 t_15.2.at_), (.int .u64 t_15.2.seed.v)], 103⟩], [⟨b7, [s5.v], 89⟩], q5, [⟨b2, [nilS.v], 89⟩]] := hS14.leaveF hR14
                  have h16 : Rd m3' s1 t_15.2.code := by rw [hk16]; exact h10
                  refine e_x (v := s5.v) 1 hF hS rfl (ex_load1 1 0 Try.underlying42 rfl rfl rfl rfl) rfl rfl (by kernel_rfl) (by kernel_rfl) (by kernel_rfl) (by kernel_rfl) fun a hF => ?_
                  refine e_one 3 (by kernel_rfl) ?_
                  refine e_lx (v := s5.v) hF hS rfl (ex_load1 1 0 Try.underlying42 rfl rfl rfl rfl) rfl rfl fun a hF => ?_
                  refine e_p (v := (.int .i64 (goLen t_4.1.Parents))) 4 hF rfl (ex_len Try.underlying42 rfl h5.len) rfl rfl (by kernel_rfl) (by kernel_rfl) (by kernel_rfl) fun a hF => ?_
                  refine e_p (v := (.int .i64 (w64 (30 - (goLen t_4.1.Parents))))) 5 hF rfl (ex_ibin rfl rfl rfl) rfl rfl (by kernel_rfl) (by kernel_rfl) (by kernel_rfl) fun a hF => ?_
                  refine e_p (v := (.int .i64 (w64 ((w64 (30 - (goLen t_4.1.Parents))) + t_15.1)))) 8 hF rfl (ex_ibin rfl rfl rfl) rfl rfl (by kernel_rfl) (by kernel_rfl) (by kernel_rfl) fun a hF => ?_
                  refine e_one 9 (by kernel_rfl) ?_
                  have hS : St _ _ _ _ [q5, [⟨b_p_c, [s1.v, (.int .i64 t_15.2.at_), (.int .u64 t_15.2.seed.v)], 103⟩], [⟨b7, [s5.v], 89⟩], [⟨b2, [nilS.v], 89⟩]] := hS.sel [2, 0, 1, 3] (by decide)
                  refine e_opl rfl rfl rfl fun _ hK => wp_appendZ (z := (0 : Int)) hF hS h5 Try.underlying42 Try.underlying3 inf3 rfl rfl rfl rfl rfl rfl (by decide) hl_17 rfl fun a w q18 s18 hF hS h18 => hK _ _ ?_
                  refine e_p (v := (.pointer (some ⟨b7, 0, none⟩))) 10 hF rfl (ex_fieldAddr Try.underlying89 rfl sz42 rfl rfl) rfl rfl (by kernel_rfl) (by kernel_rfl) (by kernel_rfl) fun a hF => ?_
                  refine e_one 11 (by kernel_rfl) ?_
                  refine e_store (vs := [s18.v]) (cs' := [s18.v]) 2 0 hF hS rfl rfl sz42 rfl rfl rfl rfl rfl rfl rfl rfl fun a w hF hS => ?_
                  refine e_end (by kernel_rfl) (n_jn ?_) _
                  obtain rfl := someI hj6
                  exact ⟨q18, s18, _, _, rfl, hF.sub ⟨rfl, rfl, trivial⟩, hS, h16, (hk16.trans (hk10.trans hk6)), h18⟩
            · rintro a w ⟨q22, s22, p_c_19, g_21, rfl, hF, hS, h20, h20k, h22⟩
              refine n_jn ?_
              obtain rfl := someI hj3
              exact ⟨q22, s22, _, _, rfl, hF.sub ⟨rfl, rfl, trivial⟩, hS, h20, h20k, h22⟩
          · have hj3 := cond_t hc5 hj3
            refine q_cond_t hF rfl hc5 ?_
            refine q_seq ?_
            refine q_region ?_
            refine q_x (v := (.agg #[nilS.v])) hF hS (ex_build (cells := [nilS.v]) rfl (by kernel_rfl)) rfl rfl fun a hF => ?_
            refine q_store (vs := [nilS.v]) (cs' := [nilS.v]) 3 0 hF hS sz89 rfl rfl rfl rfl rfl rfl rfl rfl fun a w hF hS => ?_
            refine q_end (n_sq (q_ret (r_jn ?_)))
            obtain rfl := someI hj3
            refine r_jn ?_
            obtain rfl := someI hj1
            refine r_ib (r_sq ?_)
            obtain rfl := someI hr
            exact ret_ofX hF hS rfl (.cellA (us := [nilS.v]) 3 0 Try.underlying89 rfl sz89 rfl rfl rfl rfl .nil) ⟨m3', [], nilS, rfl, hm3, hS.sel [0, 4] (by decide), (OwnL.nil (α := Int) m3' 3), (hk10.trans hk6)⟩
        · have hj3 := cond_t hc4 hj3
          refine q_cond_t hF rfl hc4 ?_
          obtain ⟨j8, hj8, hj3⟩ := bindS hj3
          refine q_join (fun a w => ∃ (q33 : Piece), ∃ (s33 : Sl), ∃ p_c_30, ∃ g_32, j8 = (p_c_30, g_32) ∧ Fr a 43 [(2, (.pointer (some ⟨b2, 0, none⟩))), (3, (.pointer (some ⟨b7, 0, none⟩)))] ∧ St X w0 w m3' [q33, [⟨b_p_c, [s1.v, (.int .i64 p_c_30.at_), (.int .u64 p_c_30.seed.v)], 103⟩], [⟨b7, [s33.v], 89⟩], [⟨b2, [nilS.v], 89⟩]] ∧ Rd m3' s1 p_c_30.code ∧ p_c_30.code = p_c.code ∧ OwnL m3' 3 q33 s33 g_32.Parents) ?_ ?_
          · refine e_region [7, 9, 11] mixed fun w' hw' => ?_
            have hS := hS.below hw'
            refine e_p (v := (.pointer (some ⟨b7, 0, none⟩))) 0 hF rfl (ex_fieldAddr Try.underlying89 rfl sz42 rfl rfl) rfl rfl (by kernel_rfl) (by kernel_rfl) (by kernel_rfl) fun a hF => ?_
            refine e_p (v := (.pointer (some ⟨b_p_c, 0, none⟩))) 2 hF rfl (ex_move rfl) rfl rfl (by kernel_rfl) (by kernel_rfl) (by kernel_rfl) fun a hF => ?_
            refine e_p (v := (.pointer (some ⟨b7, 0, none⟩))) 3 hF rfl (ex_fieldAddr Try.underlying89 rfl sz42 rfl rfl) rfl rfl (by kernel_rfl) (by kernel_rfl) (by kernel_rfl) fun a hF => ?_
            obtain ⟨t_25, ht_25, hj8⟩ := bindS hj8
            obtain ⟨l_28, hl_28, hj8⟩ := bindS hj8
            refine e_all [1, 4] (by kernel_rfl) rfl ⟨?_, ?_, trivial⟩
            · refine e_lx (v := s5.v) hF hS rfl (ex_load1 1 0 Try.underlying42 rfl rfl rfl rfl) rfl rfl fun a hF => ?_
              refine e_one 4 (by kernel_rfl) ?_
              refine e_lx (v := s5.v) hF hS rfl (ex_load1 1 0 Try.underlying42 rfl rfl rfl rfl) rfl rfl fun a hF => ?_
              refine e_p (v := (.int .i64 (goLen t_4.1.Parents))) 5 hF rfl (ex_len Try.underlying42 rfl h5.len) rfl rfl (by kernel_rfl) (by kernel_rfl) (by kernel_rfl) fun a hF => ?_
              refine e_one 6 (by kernel_rfl) ?_
              refine e_op rfl rfl fun _ hK => wp_buildSlice' (l := ([-1, goLen t_4.1.Parents, 0] : List Int)) (cells := [(.int .i64 (-1)), (.int .i64 (goLen t_4.1.Parents)), (.int .i64 0)]) hF hS Try.underlying42 inf3 rfl rfl (by kernel_rfl) rfl rfl rfl ⟨rfl, rfl, rfl, rfl⟩ rfl rfl fun a w q23 s23 hF hS h23 hb => hK _ _ hb ?_
              refine e_one 7 (by kernel_rfl) ?_
              have hS : St _ _ _ _ [[⟨b_p_c, [s1.v, (.int .i64 t_9.2.at_), (.int .u64 t_9.2.seed.v)], 103⟩], q23, [⟨b7, [s5.v], 89⟩], q5, [⟨b2, [nilS.v], 89⟩]] := hS.sel [1, 0, 2, 3, 4] (by decide)
              have hS24 : St _ _ _ _ ([[⟨b_p_c, [s1.v, (.int .i64 t_9.2.at_), (.int .u64 t_9.2.seed.v)], 103⟩]] ++ [q23, [⟨b7, [s5.v], 89⟩], q5, [⟨b2, [nilS.v], 89⟩]]) := hS
              obtain ⟨m24, hl24, hE24, hz24⟩ := hS24.lendX
              refine e_opl rfl rfl rfl fun _ hK => wp_callX (vs := [(.pointer (some ⟨b_p_c, 0, none⟩)), s23.v]) hF Try.func100 (by kernel_rfl) rfl rfl rfl (c_spec_l1Cur_among t_9.2 ([-1, goLen t_4.1.Parents, 0] : List Int) t_25 ht_25 _ m24 b_p_c s1 (h10.mono hl24) s23 (h23.froz hl24 (hz24 0 _ rfl)) _ hE24) fun a w _ hR hF => hK _ _ ?_
              obtain ⟨rfl, hR24, hk26⟩ := hR
              have hS : St _ _ _ _ [[⟨b_p_c, [s1.v, (.int .i64 t_25.2.at_), (.int .u64 t_25.2.seed.v)], 103⟩], q23, [⟨b7, [s5.v], 89⟩], q5, [⟨b2, [nilS.v], 89⟩]] := hS24.leaveF hR24
              have h26 : Rd m3' s1 t_25.2.code := by rw [hk26]; exact h10
              refine e_one 8 (by kernel_rfl) ?_
              refine e_op rfl rfl fun _ hK => wp_buildSlice' (l := ([t_25.1] : List Int)) (cells := [(.int .i64 t_25.1)]) hF hS Try.underlying42 inf3 rfl rfl (by kernel_rfl) rfl rfl rfl ⟨rfl, rfl⟩ rfl rfl fun a w q27 s27 hF hS h27 hb => hK _ _ hb ?_
              refine e_one 9 (by kernel_rfl) ?_
              have hS : St _ _ _ _ [q5, q27, [⟨b_p_c, [s1.v, (.int .i64 t_25.2.at_), (.int .u64 t_25.2.seed.v)], 103⟩], q23, [⟨b7, [s5.v], 89⟩], [⟨b2, [nilS.v], 89⟩]] := hS.sel [4, 0, 1, 2, 3, 5] (by decide)
              refine e_opl rfl rfl rfl fun _ hK => wp_append hF hS h5 Try.underlying42 inf3 rfl rfl rfl rfl (h27.vw hS (j := 1) rfl) rfl (by decide) hl_28 rfl fun a w q29 s29 hF hS h29 => hK _ _ ?_
              refine e_p (v := (.pointer (some ⟨b7, 0, none⟩))) 10 hF rfl (ex_fieldAddr Try.underlying89 rfl sz42 rfl rfl) rfl rfl (by kernel_rfl) (by kernel_rfl) (by kernel_rfl) fun a hF => ?_
              refine e_one 11 (by kernel_rfl) ?_
              refine e_store (vs := [s29.v]) (cs' := [s29.v]) 4 0 hF hS rfl rfl sz42 rfl rfl rfl rfl rfl rfl rfl rfl fun a w hF hS => ?_
              refine e_end (by kernel_rfl) (n_jn ?_) _
              obtain rfl := someI hj8
              exact ⟨q29, s29, _, _, rfl, hF.sub ⟨rfl, rfl, trivial⟩, hS.mask [true, false, true, false, true, true], h26, (hk26.trans (hk10.trans hk6)), h29⟩
            · refine e_lx (v := s5.v) hF hS rfl (ex_load1 1 0 Try.underlying42 rfl rfl rfl rfl) rfl rfl fun a hF => ?_
              refine e_p (v := (.int .i64 (goLen t_4.1.Parents))) 5 hF rfl (ex_len Try.underlying42 rfl h5.len) rfl rfl (by kernel_rfl) (by kernel_rfl) (by kernel_rfl) fun a hF => ?_
              refine e_all [1, 6] (by kernel_rfl) rfl ⟨?_, ?_, trivial⟩
              · refine e_lx (v := s5.v) hF hS rfl (ex_load1 1 0 Try.underlying42 rfl rfl rfl rfl) rfl rfl fun a hF => ?_
                refine e_one 6 (by kernel_rfl) ?_
                refine e_op rfl rfl fun _ hK => wp_buildSlice' (l := ([-1, goLen t_4.1.Parents, 0] : List Int)) (cells := [(.int .i64 (-1)), (.int .i64 (goLen t_4.1.Parents)), (.int .i64 0)]) hF hS Try.underlying42 inf3 rfl rfl (by kernel_rfl) rfl rfl rfl ⟨rfl, rfl, rfl, rfl⟩ rfl rfl fun a w q23 s23 hF hS h23 hb => hK _ _ hb ?_
                refine e_one 7 (by kernel_rfl) ?_
                have hS : St _ _ _ _ [[⟨b_p_c, [s1.v, (.int .i64 t_9.2.at_), (.int .u64 t_9.2.seed.v)], 103⟩], q23, [⟨b7, [s5.v], 89⟩], q5, [⟨b2, [nilS.v], 89⟩]] := hS.sel [1, 0, 2, 3, 4] (by decide)
                have hS24 : St _ _ _ _ ([[⟨b_p_c, [s1.v, (.int .i64 t_9.2.at_), (.int .u64 t_9.2.seed.v)], 103⟩]] ++ [q23, [⟨b7, [s5.v], 89⟩], q5, [⟨b2, [nilS.v], 89⟩]]) := hS
                obtain ⟨m24, hl24, hE24, hz24⟩ := hS24.lendX
                refine e_opl rfl rfl rfl fun _ hK => wp_callX (vs := [(.pointer (some ⟨b_p_c, 0, none⟩)), s23.v]) hF Try.func100 (by kernel_rfl) rfl rfl rfl (c_spec_l1Cur_among t_9.2 ([-1, goLen t_4.1.Parents, 0] : List Int) t_25 ht_25 _ m24 b_p_c s1 (h10.mono hl24) s23 (h23.froz hl24 (hz24 0 _ rfl)) _ hE24) fun a w _ hR hF => hK _ _ ?_
                obtain ⟨rfl, hR24, hk26⟩ := hR
                have hS : St _ _ _ _ [[⟨b_p_c, [s1.v, (.int .i64 t_25.2.at_), (.int .u64 t_25.2.seed.v)], 103⟩], q23, [⟨b7, [s5.v], 89⟩], q5, [⟨b2, [nilS.v], 89⟩]] := hS24.leaveF hR24
                have h26 : Rd m3' s1 t_25.2.code := by rw [hk26]; exact h10
                refine e_one 8 (by kernel_rfl) ?_
                refine e_op rfl rfl fun _ hK => wp_buildSlice' (l := ([t_25.1] : List Int)) (cells := [(.int .i64 t_25.1)]) hF hS Try.underlying42 inf3 rfl rfl (by kernel_rfl) rfl rfl rfl ⟨rfl, rfl⟩ rfl rfl fun a w q27 s27 hF hS h27 hb => hK _ _ hb ?_
                refine e_one 9 (by kernel_rfl) ?_
                have hS : St _ _ _ _ [q5, q27, [⟨b_p_c, [s1.v, (.int .i64 t_25.2.at_), (.int .u64 t_25.2.seed.v)], 103⟩], q23, [⟨b7, [s5.v], 89⟩], [⟨b2, [nilS.v], 89⟩]] := hS.sel [4, 0, 1, 2, 3, 5] (by decide)
                refine e_opl rfl rfl rfl fun _ hK => wp_append hF hS h5 Try.underlying42 inf3 rfl rfl rfl rfl (h27.vw hS (j := 1) rfl) rfl (by decide) hl_28 rfl fun a w q29 s29 hF hS h29 => hK _ _ ?_
                refine e_p (v := (.pointer (some ⟨b7, 0, none⟩))) 10 hF rfl (ex_fieldAddr Try.underlying89 rfl sz42 rfl rfl) rfl rfl (by kernel_rfl) (by kernel_rfl) (by kernel_rfl) fun a hF => ?_
                refine e_one 11 (by kernel_rfl) ?_
                refine e_store (vs := [s29.v]) (cs' := [s29.v]) 4 0 hF hS rfl rfl sz42 rfl rfl rfl rfl rfl rfl rfl rfl fun a w hF hS => ?_
                refine e_end (by kernel_rfl) (n_jn ?_) _
                obtain rfl := someI hj8
                exact ⟨q29, s29, _, _, rfl, hF.sub ⟨rfl, rfl, trivial⟩, hS.mask [true, false, true, false, true, true], h26, (hk26.trans (hk10.trans hk6)), h29⟩
              · refine e_op rfl rfl fun _ hK => wp_buildSlice' (l := ([-1, goLen t_4.1.Parents, 0] : List Int)) (cells := [(.int .i64 (-1)), (.int .i64 (goLen t_4.1.Parents)), (.int .i64 0)]) hF hS Try.underlying42 inf3 rfl rfl (by kernel_rfl) rfl rfl rfl ⟨rfl, rfl, rfl, rfl⟩ rfl rfl fun a w q23 s23 hF hS h23 hb => hK _ _ hb ?_
                refine e_all [1, 7] (by kernel_rfl) rfl ⟨?_, ?_, trivial⟩
                · refine e_lx (v := s5.v) hF hS rfl (ex_load1 2 0 Try.underlying42 rfl rfl rfl rfl) rfl rfl fun a hF => ?_
                  refine e_one 7 (by kernel_rfl) ?_
                  have hS : St _ _ _ _ [[⟨b_p_c, [s1.v, (.int .i64 t_9.2.at_), (.int .u64 t_9.2.seed.v)], 103⟩], q23, [⟨b7, [s5.v], 89⟩], q5, [⟨b2, [nilS.v], 89⟩]] := hS.sel [1, 0, 2, 3, 4] (by decide)
                  have hS24 : St _ _ _ _ ([[⟨b_p_c, [s1.v, (.int .i64 t_9.2.at_), (.int .u64 t_9.2.seed.v)], 103⟩]] ++ [q23, [⟨b7, [s5.v], 89⟩], q5, [⟨b2, [nilS.v], 89⟩]]) := hS
                  obtain ⟨m24, hl24, hE24, hz24⟩ := hS24.lendX
                  refine e_opl rfl rfl rfl fun _ hK => wp_callX (vs := [(.pointer (some ⟨b_p_c, 0, none⟩)), s23.v]) hF Try.func100 (by kernel_rfl) rfl rfl rfl (c_spec_l1Cur_among t_9.2 ([-1, goLen t_4.1.Parents, 0] : List Int) t_25 ht_25 _ m24 b_p_c s1 (h10.mono hl24) s23 (h23.froz hl24 (hz24 0 _ rfl)) _ hE24) fun a w _ hR hF => hK _ _ ?_
                  obtain ⟨rfl, hR24, hk26⟩ := hR
                  have hS : St _ _ _ _ [[⟨b_p_c, [s1.v, (.int .i64 t_25.2.at_), (.int .u64 t_25.2.seed.v)], 103⟩], q23, [⟨b7, [s5.v], 89⟩], q5, [⟨b2, [nilS.v], 89⟩]] := hS24.leaveF hR24
                  have h26 : Rd m3' s1 t_25.2.code := by rw [hk26]; exact h10
                  refine e_one 8 (by kernel_rfl) ?_
                  refine e_op rfl rfl fun _ hK => wp_buildSlice' (l := ([t_25.1] : List Int)) (cells := [(.int .i64 t_25.1)]) hF hS Try.underlying42 inf3 rfl rfl (by kernel_rfl) rfl rfl rfl ⟨rfl, rfl⟩ rfl rfl fun a w q27 s27 hF hS h27 hb => hK _ _ hb ?_
                  refine e_one 9 (by kernel_rfl) ?_
                  have hS : St _ _ _ _ [q5, q27, [⟨b_p_c, [s1.v, (.int .i64 t_25.2.at_), (.int .u64 t_25.2.seed.v)], 103⟩], q23, [⟨b7, [s5.v], 89⟩], [⟨b2, [nilS.v], 89⟩]] := hS.sel [4, 0, 1, 2, 3, 5] (by decide)
                  refine e_opl rfl rfl rfl fun _ hK => wp_append hF hS h5 Try.underlying42 inf3 rfl rfl rfl rfl (h27.vw hS (j := 1) rfl) rfl (by decide) hl_28 rfl fun a w q29 s29 hF hS h29 => hK _ _ ?_
                  refine e_p (v := (.pointer (some ⟨b7, 0, none⟩))) 10 hF rfl (ex_fieldAddr Try.underlying89 rfl sz42 rfl rfl) rfl rfl (by kernel_rfl) (by kernel_rfl) (by kernel_rfl) fun a hF => ?_
                  refine e_one 11 (by kernel_rfl) ?_
                  refine e_store (vs := [s29.v]) (cs' := [s29.v]) 4 0 hF hS rfl rfl sz42 rfl rfl rfl rfl rfl rfl rfl rfl fun a w hF hS => ?_
                  refine e_end (by kernel_rfl) (n_jn ?_) _
                  obtain rfl := someI hj8
                  exact ⟨q29, s29, _, _, rfl, hF.sub ⟨rfl, rfl, trivial⟩, hS.mask [true, false, true, false, true, true], h26, (hk26.trans (hk10.trans hk6)), h29⟩
                · have hS : St _ _ _ _ [[⟨b_p_c, [s1.v, (.int .i64 t_9.2.at_), (.int .u64 t_9.2.seed.v)], 103⟩], q23, [⟨b7, [s5.v], 89⟩], q5, [⟨b2, [nilS.v], 89⟩]] := hS.sel [1, 0, 2, 3, 4] (by decide)
                  have hS24 : St _ _ _ _ ([[⟨b_p_c, [s1.v, (.int .i64 t_9.2.at_), (.int .u64 t_9.2.seed.v)], 103⟩]] ++ [q23, [⟨b7, [s5.v], 89⟩], q5, [⟨b2, [nilS.v], 89⟩]]) := hS
                  obtain ⟨m24, hl24, hE24, hz24⟩ := hS24.lendX
                  refine e_opl rfl rfl rfl fun _ hK => wp_callX (vs := [(.pointer (some ⟨b_p_c, 0, none⟩)), s23.v]) hF Try.func100 (by kernel_rfl) rfl rfl rfl (c_spec_l1Cur_among t_9.2 ([-1, goLen t_4.1.Parents, 0] : List Int) t_25 ht_25 _ m24 b_p_c s1 (h10.mono hl24) s23 (h23.froz hl24 (hz24 0 _ rfl)) _ hE24) fun a w _ hR hF => hK _ _ ?_
                  obtain ⟨rfl, hR24, hk26⟩ := hR
                  have hS : St _ _ _ _ [[⟨b_p_c, [s1.v, (.int .i64 t_25.2.at_), (.int .u64 t_25.2.seed.v)], 103⟩], q23, [⟨b7, [s5.v], 89⟩], q5, [⟨b2, [nilS.v], 89⟩]] := hS24.leaveF hR24
                  have h26 : Rd m3' s1 t_25.2.code := by rw [hk26]; exact h10
                  refine e_x (v := s5.v) 1 hF hS rfl (ex_load1 2 0 Try.underlying42 rfl rfl rfl rfl) rfl rfl (by kernel_rfl) (by kernel_rfl) (by kernel_rfl) (by kernel_rfl) fun a hF => ?_
                  refine e_one 8 (by kernel_rfl) ?_
                  refine e_op rfl rfl fun _ hK => wp_buildSlice' (l := ([t_25.1] : List Int)) (cells := [(.int .i64 t_25.1)]) hF hS Try.underlying42 inf3 rfl rfl (by kernel_rfl) rfl rfl rfl ⟨rfl, rfl⟩ rfl rfl fun a w q27 s27 hF hS h27 hb => hK _ _ hb ?_
                  refine e_one 9 (by kernel_rfl) ?_
                  have hS : St _ _ _ _ [q5, q27, [⟨b_p_c, [s1.v, (.int .i64 t_25.2.at_), (.int .u64 t_25.2.seed.v)], 103⟩], q23, [⟨b7, [s5.v], 89⟩], [⟨b2, [nilS.v], 89⟩]] := hS.sel [4, 0, 1, 2, 3, 5] (by decide)
                  refine e_opl rfl rfl rfl fun _ hK => wp_append hF hS h5 Try.underlying42 inf3 rfl rfl rfl rfl (h27.vw hS (j := 1) rfl) rfl (by decide) hl_28 rfl fun a w q29 s29 hF hS h29 => hK _ _ ?_
                  refine e_p (v := (.pointer (some ⟨b7, 0, none⟩))) 10 hF rfl (ex_fieldAddr Try.underlying89 rfl sz42 rfl rfl) rfl rfl (by kernel_rfl) (by kernel_rfl) (by kernel_rfl) fun a hF => ?_
                  refine e_one 11 (by kernel_rfl) ?_
                  refine e_store (vs := [s29.v]) (cs' := [s29.v]) 4 0 hF hS rfl rfl sz42 rfl rfl rfl rfl rfl rfl rfl rfl fun a w hF hS => ?_
                  refine e_end (by kernel_rfl) (n_jn ?_) _
                  obtain rfl := someI hj8
                  exact ⟨q29, s29, _, _, rfl, hF.sub ⟨rfl, rfl, trivial⟩, hS.mask [true, false, true, false, true, true], h26, (hk26.trans (hk10.trans hk6)), h29⟩
          · rintro a w ⟨q33, s33, p_c_30, g_32, rfl, hF, hS, h31, h31k, h33⟩
            refine n_jn ?_
            obtain rfl := someI hj3
            exact ⟨q33, s33, _, _, rfl, hF.sub ⟨rfl, rfl, trivial⟩, hS, h31, h31k, h33⟩
      · rintro a w ⟨q37, s37, p_c_34, g_36, rfl, hF, hS, h35, h35k, h37⟩
        refine n_jn ?_
        obtain rfl := someI hj1
        exact ⟨q37, s37, _, _, rfl, hF.sub ⟨rfl, rfl, trivial⟩, hS, h35, h35k, h37⟩
    · have hj1 := cond_t hc2 hj1
      refine q_cond_t hF rfl hc2 ?_
      refine q_region ?_
      refine q_x (v := (.pointer (some ⟨b7, 0, none⟩))) hF hS (ex_fieldAddr Try.underlying89 rfl sz42 rfl rfl) rfl rfl fun a hF => ?_
      refine q_x (v := s5.v) hF hS (ex_load1 1 0 Try.underlying42 rfl rfl rfl rfl) rfl rfl fun a hF => ?_
      obtain ⟨e_38, he_38, hj1⟩ := bindS hj1
      obtain ⟨vs39, at39, d39⟩ := h5.at he_38 1 rfl
      obtain rfl : vs39 = [(.int .i64 e_38)] := d39
      refine q_x (v := (elP s5 ((0 : Int).toNat * 1))) hF hS (ex_indexAddr Try.underlying42 sz3 rfl rfl (h5.idx he_38)) rfl rfl fun a hF => ?_
      have hS : St _ _ _ _ [q5, [⟨b_p_c, [s1.v, (.int .i64 t_9.2.at_), (.int .u64 t_9.2.seed.v)], 103⟩], [⟨b7, [s5.v], 89⟩], [⟨b2, [nilS.v], 89⟩]] := hS.sel [2, 0, 1, 3] (by decide)
      refine q_do rfl fun _ hK => wp_storeE (e' := 0) (us := [(.int .i64 0)]) (vs := [(.int .i64 e_38)]) 0 hF hS h5 sz3 rfl rfl rfl rfl rfl rfl rfl he_38 at39 rfl rfl rfl fun w q40 hS h40 => hK _ _ ?_
      refine q_end (n_jn ?_)
      obtain rfl := someI hj1
      exact ⟨q40, s5, _, _, rfl, hF.sub ⟨rfl, rfl, trivial⟩, hS, h10, (hk10.trans hk6), h40⟩
  · rintro a w ⟨q44, s44, p_c_41, g_43, rfl, hF, hS, h42, h42k, h44⟩
    refine n_ib (n_sq ?_)
    refine q_seq ?_
    refine q_region ?_
    refine q_x (v := (.agg #[s44.v])) hF hS (ex_loadA (vs := [s44.v]) 2 0 Try.underlying89 rfl sz89 rfl rfl rfl rfl) rfl rfl fun a hF => ?_
    refine q_store (vs := [s44.v]) (cs' := [s44.v]) 3 0 hF hS sz89 rfl rfl rfl rfl rfl rfl rfl rfl fun a w hF hS => ?_
    refine q_end (n_sq (q_ret ?_))
    obtain rfl := someI hr
    exact ret_ofX hF hS rfl (.cellA (us := [s44.v]) 3 0 Try.underlying89 rfl sz89 rfl rfl rfl rfl .nil) ⟨m3', q44, s44, rfl, hm3, hS.sel [1, 0] (by decide), h44, h42k⟩

theorem c_spec_l1Cur_anArea (p_c : spec_l1Cur) (p_g : impl_Geo) (r : Int × spec_l1Cur) (hr : spec_l1Cur_anArea p_c p_g = some r) (w0 : World) (m : Mem) (b_p_c : Nat) (s1 : Sl) (h1 : Rd m s1 p_c.code) (s2 : Sl) (h2 : Rd m s2 p_g.Parents) (X : List Nat) (hS : St X w0 w0 m [[⟨b_p_c, [s1.v, (.int .i64 p_c.at_), (.int .u64 p_c.seed.v)], 103⟩]]) :
    RetX Try.prog 152 [(.pointer (some ⟨b_p_c, 0, none⟩)), (.agg #[s2.v])] w0 (fun v w => v = (.int .i64 r.1) ∧ St X w0 w m [[⟨b_p_c, [s1.v, (.int .i64 r.2.at_), (.int .u64 r.2.seed.v)], 103⟩]] ∧ r.2.code = p_c.code) := by
  unfold spec_l1Cur_anArea at hr
  refine ret_startX Try.func152 rfl 15 rfl rfl fun a hF => ?_
  refine q_seq ?_
  refine q_region ?_
  refine q_box (cs := [s2.v]) hF hS rfl rfl rfl fun a w b3 hF hS => ?_
  refine q_x (v := (.int .i64 0)) hF hS (ex_assign rfl) rfl rfl fun a hF => ?_
  refine q_end (n_sq ?_)
  refine q_seq ?_
  refine q_region ?_
  refine q_x (v := (.pointer (some ⟨b_p_c, 0, none⟩))) hF hS (ex_move rfl) rfl rfl fun a hF => ?_
  refine q_x (v := (.pointer (some ⟨b3, 0, none⟩))) hF hS (ex_fieldAddr Try.underlying89 rfl sz42 rfl rfl) rfl rfl fun a hF => ?_
  refine q_x (v := s2.v) hF hS (ex_load1 0 0 Try.underlying42 rfl rfl rfl rfl) rfl rfl fun a hF => ?_
  refine q_x (v := (.int .i64 (goLen p_g.Parents))) hF hS (ex_len Try.underlying42 rfl h2.len) rfl rfl fun a hF => ?_
  refine q_x (v := (.int .i64 (w64 ((goLen p_g.Parents) + 1)))) hF hS (ex_ibin rfl rfl rfl) rfl rfl fun a hF => ?_
  have hS : St _ _ _ _ [[⟨b_p_c, [s1.v, (.int .i64 p_c.at_), (.int .u64 p_c.seed.v)], 103⟩], [⟨b3, [s2.v], 89⟩]] := hS.sel [1, 0] (by decide)
  have hS4 : St _ _ _ _ ([[⟨b_p_c, [s1.v, (.int .i64 p_c.at_), (.int .u64 p_c.seed.v)], 103⟩]] ++ [[⟨b3, [s2.v], 89⟩]]) := hS
  have hE4 := hS4.enter
  obtain ⟨t_5, ht_5, hr⟩ := bindS hr
  refine q_do rfl fun _ hK => wp_callX (vs := [(.pointer (some ⟨b_p_c, 0, none⟩)), (.int .i64 (w64 ((goLen p_g.Parents) + 1)))]) hF Try.func99 (by kernel_rfl) rfl rfl rfl (c_spec_l1Cur_pick p_c (w64 ((goLen p_g.Parents) + 1)) t_5 ht_5 _ m b_p_c s1 h1 _ hE4) fun a w _ hR hF => hK _ _ ?_
  obtain ⟨rfl, hR4, hk6⟩ := hR
  have hS : St _ _ _ _ [[⟨b_p_c, [s1.v, (.int .i64 t_5.2.at_), (.int .u64 t_5.2.seed.v)], 103⟩], [⟨b3, [s2.v], 89⟩]] := hS4.leaveF hR4
  have h6 : Rd m s1 t_5.2.code := by rw [hk6]; exact h1
  refine q_x (v := (.pointer (some ⟨b_p_c, 0, none⟩))) hF hS (ex_move rfl) rfl rfl fun a hF => ?_
  have hS7 : St _ _ _ _ ([[⟨b_p_c, [s1.v, (.int .i64 t_5.2.at_), (.int .u64 t_5.2.seed.v)], 103⟩]] ++ [[⟨b3, [s2.v], 89⟩]]) := hS
  have hE7 := hS7.enter
  obtain ⟨t_8, ht_8, hr⟩ := bindS hr
  refine q_do rfl fun _ hK => wp_callX (vs := [(.pointer (some ⟨b_p_c, 0, none⟩)), (.int .i64 20)]) hF Try.func99 (by kernel_rfl) rfl rfl rfl (c_spec_l1Cur_pick t_5.2 20 t_8 ht_8 _ m b_p_c s1 h6 _ hE7) fun a w _ hR hF => hK _ _ ?_
  obtain ⟨rfl, hR7, hk9⟩ := hR
  have hS : St _ _ _ _ [[⟨b_p_c, [s1.v, (.int .i64 t_8.2.at_), (.int .u64 t_8.2.seed.v)], 103⟩], [⟨b3, [s2.v], 89⟩]] := hS7.leaveF hR7
  have h9 : Rd m s1 t_8.2.code := by rw [hk9]; exact h6
  obtain ⟨t_10, ht_10, hr⟩ := bindS hr
  refine q_x (v := (.int .i64 t_10)) hF hS (ex_quo rfl rfl ht_10) rfl rfl fun a hF => ?_
  refine q_x (v := (.int .i64 (w64 (t_5.1 - t_10)))) hF hS (ex_ibin rfl rfl rfl) rfl rfl fun a hF => ?_
  refine q_x (v := (.int .i64 (w64 (t_5.1 - t_10)))) hF hS (ex_assign rfl) rfl rfl fun a hF => ?_
  refine q_end (n_sq (q_ret ?_))
  obtain rfl := someI hr
  exact ret_ofX hF hS rfl (.tmp rfl .nil) ⟨rfl, hS.sel [0] (by decide), (hk9.trans hk6)⟩

theorem c_spec_DrawDepthOf (p_code : List (K .u8)) (r : impl_Geo × Int) (hr : spec_DrawDepthOf p_code = some r) (w0 : World) (m : Mem) (hv : Vis m w0) (s1 : Sl) (h1 : Rd m s1 p_code) :
    Ret Try.prog 143 [s1.v] w0 (fun v w => ∃ (m' : Mem) (q0' : Piece) (s0' : Sl), v = (.tuple #[(.agg #[s0'.v]), (.int .i64 r.2)]) ∧ MLe [] w0.heap.size m m' ∧ St [] w0 w m' [q0'] ∧ OwnL m' 3 q0' s0' r.1.Parents) := by
  unfold spec_DrawDepthOf at hr
  refine ret_start Try.func143 rfl 15 rfl rfl m hv fun a hF hS => ?_
  refine q_seq ?_
  refine q_region ?_
  refine q_alloc (cs := [nilS.v]) hF hS rfl rfl rfl fun a w b2 hF hS => ?_
  refine q_x (v := (.int .i64 0)) hF hS (ex_assign rfl) rfl rfl fun a hF => ?_
  refine q_end (n_sq ?_)
  refine q_seq ?_
  refine q_region ?_
  refine q_x (v := s1.v) hF hS (ex_move rfl) rfl rfl fun a hF => ?_
  refine q_x (v := (.agg #[s1.v, (.int .i64 0), (.int .u64 0)])) hF hS (ex_build (cells := [s1.v, (.int .i64 0), (.int .u64 0)]) rfl (by kernel_rfl)) rfl rfl fun a hF => ?_
  refine q_box (cs := [s1.v, (.int .i64 0), (.int .u64 0)]) hF hS rfl rfl rfl fun a w b3 hF hS => ?_
  refine q_x (v := (.pointer (some ⟨b3, 0, none⟩))) hF hS (ex_assign rfl) rfl rfl fun a hF => ?_
  refine q_end (n_sq ?_)
  refine q_seq ?_
  refine q_region ?_
  refine q_x (v := (.pointer (some ⟨b3, 0, none⟩))) hF hS (ex_move rfl) rfl rfl fun a hF => ?_
  have hS4 : St _ _ _ _ ([[⟨b3, [s1.v, (.int .i64 0), (.int .u64 0)], 103⟩]] ++ [[⟨b2, [nilS.v], 89⟩]]) := hS
  have hE4 := hS4.enter
  obtain ⟨t_5, ht_5, hr⟩ := bindS hr
  refine q_do rfl fun _ hK => wp_callX (vs := [(.pointer (some ⟨b3, 0, none⟩))]) hF Try.func151 (by kernel_rfl) rfl rfl rfl (c_spec_l1Cur_anyGeo (spec_l1Cur.mk p_code 0 (⟨0⟩ : K .u64)) t_5 ht_5 _ m b3 s1 h1 _ hE4) fun a w _ hR hF => hK _ _ ?_
  obtain ⟨m4', q6, s6, rfl, hm4, hR4, h6, hk7⟩ := hR
  have hS : St _ _ _ _ [[⟨b3, [s1.v, (.int .i64 t_5.2.at_), (.int .u64 t_5.2.seed.v)], 103⟩], q6, [⟨b2, [nilS.v], 89⟩]] := hS4.leave hR4 hm4
  have hm4 := MLe.weakX hS4 hm4
  have h7 : Rd m4' s1 t_5.2.code := by rw [hk7]; exact (h1.mono hm4.le)
  refine q_alloc (cs := [nilS.v]) hF hS rfl rfl rfl fun a w b8 hF hS => ?_
  refine q_store (vs := [s6.v]) (cs' := [s6.v]) 0 0 hF hS sz89 rfl rfl rfl rfl rfl rfl rfl rfl fun a w hF hS => ?_
  refine q_end (n_sq ?_)
  refine q_seq ?_
  refine e_region [3, 4] mixed fun w' hw' => ?_
  have hS := hS.below hw'
  refine e_p (v := (.pointer (some ⟨b3, 0, none⟩))) 1 hF rfl (ex_move rfl) rfl rfl (by kernel_rfl) (by kernel_rfl) (by kernel_rfl) fun a hF => ?_
  obtain ⟨t_10, ht_10, hr⟩ := bindS hr
  refine e_all [0, 2] (by kernel_rfl) rfl ⟨?_, ?_, trivial⟩
  · refine e_lx (v := (.agg #[s6.v])) hF hS rfl (ex_loadA (vs := [s6.v]) 0 0 Try.underlying89 rfl sz89 rfl rfl rfl rfl) rfl rfl fun a hF => ?_
    refine e_one 2 (by kernel_rfl) ?_
    refine e_lx (v := (.agg #[s6.v])) hF hS rfl (ex_loadA (vs := [s6.v]) 0 0 Try.underlying89 rfl sz89 rfl rfl rfl rfl) rfl rfl fun a hF => ?_
    refine e_one 3 (by kernel_rfl) ?_
    have hS : St _ _ _ _ [[⟨b3, [s1.v, (.int .i64 t_5.2.at_), (.int .u64 t_5.2.seed.v)], 103⟩], [⟨b8, [s6.v], 89⟩], q6, [⟨b2, [nilS.v], 89⟩]] := hS.sel [1, 0, 2, 3] (by decide)
    have hS9 : St _ _ _ _ ([[⟨b3, [s1.v, (.int .i64 t_5.2.at_), (.int .u64 t_5.2.seed.v)], 103⟩]] ++ [[⟨b8, [s6.v], 89⟩], q6, [⟨b2, [nilS.v], 89⟩]]) := hS
    obtain ⟨m9, hl9, hE9, hz9⟩ := hS9.lendX
    refine e_opl rfl rfl rfl fun _ hK => wp_callX (vs := [(.pointer (some ⟨b3, 0, none⟩)), (.agg #[s6.v])]) hF Try.func152 (by kernel_rfl) rfl rfl rfl (c_spec_l1Cur_anArea t_5.2 t_5.1 t_10 ht_10 _ m9 b3 s1 (h7.mono hl9) s6 (h6.froz hl9 (hz9 1 _ rfl)) _ hE9) fun a w _ hR hF => hK _ _ ?_
    obtain ⟨rfl, hR9, hk11⟩ := hR
    have hS : St _ _ _ _ [[⟨b3, [s1.v, (.int .i64 t_10.2.at_), (.int .u64 t_10.2.seed.v)], 103⟩], [⟨b8, [s6.v], 89⟩], q6, [⟨b2, [nilS.v], 89⟩]] := hS9.leaveF hR9
    have h11 : Rd m4' s1 t_10.2.code := by rw [hk11]; exact h7
    refine e_one 4 (by kernel_rfl) ?_
    refine e_store (vs := [s6.v]) (cs' := [s6.v]) 3 0 hF hS rfl rfl sz89 rfl rfl rfl rfl rfl rfl rfl rfl fun a w hF hS => ?_
    refine e_p (v := (.int .i64 t_10.1)) 5 hF rfl (ex_assign rfl) rfl rfl (by kernel_rfl) (by kernel_rfl) (by kernel_rfl) fun a hF => ?_
    refine e_end (by kernel_rfl) (n_sq (q_ret ?_)) _
    obtain rfl := someI hr
    exact ret_of hF hS rfl (.cellA (us := [s6.v]) 3 0 Try.underlying89 rfl sz89 rfl rfl rfl rfl (.tmp rfl .nil)) ⟨m4', q6, s6, rfl, hm4, hS.sel [2] (by decide), h6⟩
  · refine e_lx (v := (.agg #[s6.v])) hF hS rfl (ex_loadA (vs := [s6.v]) 0 0 Try.underlying89 rfl sz89 rfl rfl rfl rfl) rfl rfl fun a hF => ?_
    refine e_all [0, 3] (by kernel_rfl) rfl ⟨?_, ?_, trivial⟩
    · refine e_lx (v := (.agg #[s6.v])) hF hS rfl (ex_loadA (vs := [s6.v]) 0 0 Try.underlying89 rfl sz89 rfl rfl rfl rfl) rfl rfl fun a hF => ?_
      refine e_one 3 (by kernel_rfl) ?_
      have hS : St _ _ _ _ [[⟨b3, [s1.v, (.int .i64 t_5.2.at_), (.int .u64 t_5.2.seed.v)], 103⟩], [⟨b8, [s6.v], 89⟩], q6, [⟨b2, [nilS.v], 89⟩]] := hS.sel [1, 0, 2, 3] (by decide)
      have hS9 : St _ _ _ _ ([[⟨b3, [s1.v, (.int .i64 t_5.2.at_), (.int .u64 t_5.2.seed.v)], 103⟩]] ++ [[⟨b8, [s6.v], 89⟩], q6, [⟨b2, [nilS.v], 89⟩]]) := hS
      obtain ⟨m9, hl9, hE9, hz9⟩ := hS9.lendX
      refine e_opl rfl rfl rfl fun _ hK => wp_callX (vs := [(.pointer (some ⟨b3, 0, none⟩)), (.agg #[s6.v])]) hF Try.func152 (by kernel_rfl) rfl rfl rfl (c_spec_l1Cur_anArea t_5.2 t_5.1 t_10 ht_10 _ m9 b3 s1 (h7.mono hl9) s6 (h6.froz hl9 (hz9 1 _ rfl)) _ hE9) fun a w _ hR hF => hK _ _ ?_
      obtain ⟨rfl, hR9, hk11⟩ := hR
      have hS : St _ _ _ _ [[⟨b3, [s1.v, (.int .i64 t_10.2.at_), (.int .u64 t_10.2.seed.v)], 103⟩], [⟨b8, [s6.v], 89⟩], q6, [⟨b2, [nilS.v], 89⟩]] := hS9.leaveF hR9
      have h11 : Rd m4' s1 t_10.2.code := by rw [hk11]; exact h7
      refine e_one 4 (by kernel_rfl) ?_
      refine e_store (vs := [s6.v]) (cs' := [s6.v]) 3 0 hF hS rfl rfl sz89 rfl rfl rfl rfl rfl rfl rfl rfl fun a w hF hS => ?_
      refine e_p (v := (.int .i64 t_10.1)) 5 hF rfl (ex_assign rfl) rfl rfl (by kernel_rfl) (by kernel_rfl) (by kernel_rfl) fun a hF => ?_
      refine e_end (by kernel_rfl) (n_sq (q_ret ?_)) _
      obtain rfl := someI hr
      exact ret_of hF hS rfl (.cellA (us := [s6.v]) 3 0 Try.underlying89 rfl sz89 rfl rfl rfl rfl (.tmp rfl .nil)) ⟨m4', q6, s6, rfl, hm4, hS.sel [2] (by decide), h6⟩
    · have hS : St _ _ _ _ [[⟨b3, [s1.v, (.int .i64 t_5.2.at_), (.int .u64 t_5.2.seed.v)], 103⟩], [⟨b8, [s6.v], 89⟩], q6, [⟨b2, [nilS.v], 89⟩]] := hS.sel [1, 0, 2, 3] (by decide)
      have hS9 : St _ _ _ _ ([[⟨b3, [s1.v, (.int .i64 t_5.2.at_), (.int .u64 t_5.2.seed.v)], 103⟩]] ++ [[⟨b8, [s6.v], 89⟩], q6, [⟨b2, [nilS.v], 89⟩]]) := hS
      obtain ⟨m9, hl9, hE9, hz9⟩ := hS9.lendX
      refine e_opl rfl rfl rfl fun _ hK => wp_callX (vs := [(.pointer (some ⟨b3, 0, none⟩)), (.agg #[s6.v])]) hF Try.func152 (by kernel_rfl) rfl rfl rfl (c_spec_l1Cur_anArea t_5.2 t_5.1 t_10 ht_10 _ m9 b3 s1 (h7.mono hl9) s6 (h6.froz hl9 (hz9 1 _ rfl)) _ hE9) fun a w _ hR hF => hK _ _ ?_
      obtain ⟨rfl, hR9, hk11⟩ := hR
      have hS : St _ _ _ _ [[⟨b3, [s1.v, (.int .i64 t_10.2.at_), (.int .u64 t_10.2.seed.v)], 103⟩], [⟨b8, [s6.v], 89⟩], q6, [⟨b2, [nilS.v], 89⟩]] := hS9.leaveF hR9
      have h11 : Rd m4' s1 t_10.2.code := by rw [hk11]; exact h7
      refine e_x (v := (.agg #[s6.v])) 0 hF hS rfl (ex_loadA (vs := [s6.v]) 1 0 Try.underlying89 rfl sz89 rfl rfl rfl rfl) rfl rfl (by kernel_rfl) (by kernel_rfl) (by kernel_rfl) (by kernel_rfl) fun a hF => ?_
      refine e_one 4 (by kernel_rfl) ?_
      refine e_store (vs := [s6.v]) (cs' := [s6.v]) 3 0 hF hS rfl rfl sz89 rfl rfl rfl rfl rfl rfl rfl rfl fun a w hF hS => ?_
      refine e_p (v := (.int .i64 t_10.1)) 5 hF rfl (ex_assign rfl) rfl rfl (by kernel_rfl) (by kernel_rfl) (by kernel_rfl) fun a hF => ?_
      refine e_end (by kernel_rfl) (n_sq (q_ret ?_)) _
      obtain rfl := someI hr
      exact ret_of hF hS rfl (.cellA (us := [s6.v]) 3 0 Try.underlying89 rfl sz89 rfl rfl rfl rfl (.tmp rfl .nil)) ⟨m4', q6, s6, rfl, hm4, hS.sel [2] (by decide), h6⟩

theorem c_spec_DrawPathTo (p_code : List (K .u8)) (r : impl_Geo × Int) (hr : spec_DrawPathTo p_code = some r) (w0 : World) (m : Mem) (hv : Vis m w0) (s1 : Sl) (h1 : Rd m s1 p_code) :
    Ret Try.prog 67 [s1.v] w0 (fun v w => ∃ (m' : Mem) (q0' : Piece) (s0' : Sl), v = (.tuple #[(.agg #[s0'.v]), (.int .i64 r.2)]) ∧ MLe [] w0.heap.size m m' ∧ St [] w0 w m' [q0'] ∧ OwnL m' 3 q0' s0' r.1.Parents) := by
  unfold spec_DrawPathTo at hr
  refine ret_start Try.func67 rfl 8 rfl rfl m hv fun a hF hS => ?_
  refine q_seq ?_
  refine q_region ?_
  refine q_alloc (cs := [nilS.v]) hF hS rfl rfl rfl fun a w b2 hF hS => ?_
  refine q_x (v := (.int .i64 0)) hF hS (ex_assign rfl) rfl rfl fun a hF => ?_
  refine q_end (n_sq ?_)
  refine q_seq ?_
  refine q_region ?_
  refine q_x (v := s1.v) hF hS (ex_move rfl) rfl rfl fun a hF => ?_
  obtain ⟨t_3, ht_3, hr⟩ := bindS hr
  refine q_call (vs := [s1.v]) hF hS Try.func143 (by kernel_rfl) rfl rfl rfl (c_spec_DrawDepthOf p_code t_3 ht_3 _ m hS.vis s1 h1) ?_
  have hT := hS
  rintro a w _ ⟨m4, q5, s5, rfl, hm4, hR4, h5⟩ hF hS2
  have hS : St _ _ _ _ [q5, [⟨b2, [nilS.v], 89⟩]] := hS.join hR4 hm4
  have hm4 := MLe.weakX (O0 := []) hT hm4
  refine q_x (v := (.agg #[s5.v])) hF hS (ex_extract rfl rfl) rfl rfl fun a hF => ?_
  refine q_x (v := (.int .i64 t_3.2)) hF hS (ex_extract rfl rfl) rfl rfl fun a hF => ?_
  refine q_store (vs := [s5.v]) (cs' := [s5.v]) 1 0 hF hS sz89 rfl rfl rfl rfl rfl rfl rfl rfl fun a w hF hS => ?_
  refine q_x (v := (.int .i64 t_3.2)) hF hS (ex_assign rfl) rfl rfl fun a hF => ?_
  refine q_end (n_sq (q_ret ?_))
  obtain rfl := someI hr
  exact ret_of hF hS rfl (.cellA (us := [s5.v]) 1 0 Try.underlying89 rfl sz89 rfl rfl rfl rfl (.tmp rfl .nil)) ⟨m4, q5, s5, rfl, hm4, hS.sel [0] (by decide), h5⟩

theorem c_impl_IsGeo (p_g : impl_Geo) (r : Bool) (hr : impl_IsGeo p_g = some r) (w0 : World) (m : Mem) (hv : Vis m w0) (s1 : Sl) (h1 : Rd m s1 p_g.Parents) :
    Ret Try.prog 144 [(.agg #[s1.v])] w0 (fun v _ => v = (.bool r)) := by
  unfold impl_IsGeo at hr
  refine ret_start Try.func144 rfl 43 rfl rfl m hv fun a hF hS => ?_
  refine q_seq ?_
  refine q_region ?_
  refine q_box (cs := [s1.v]) hF hS rfl rfl rfl fun a w b2 hF hS => ?_
  refine q_x (v := (.bool false)) hF hS (ex_assign rfl) rfl rfl fun a hF => ?_
  refine q_end (n_sq ?_)
  refine q_seq ?_
  refine q_seq ?_
  obtain ⟨t_5, hj1, hr⟩ := bindS hr
  refine q_join (fun a w => Fr a 43 [(1, (.pointer (some ⟨b2, 0, none⟩))), (20, (.bool t_5))] ∧ St [] w0 w m [[⟨b2, [s1.v], 89⟩]]) ?_ ?_
  · refine q_region ?_
    refine q_x (v := (.pointer (some ⟨b2, 0, none⟩))) hF hS (ex_fieldAddr Try.underlying89 rfl sz42 rfl rfl) rfl rfl fun a hF => ?_
    refine q_x (v := s1.v) hF hS (ex_load1 0 0 Try.underlying42 rfl rfl rfl rfl) rfl rfl fun a hF => ?_
    refine q_x (v := (.int .i64 (goLen p_g.Parents))) hF hS (ex_len Try.underlying42 rfl h1.len) rfl rfl fun a hF => ?_
    refine q_x (v := (.bool (decide ((goLen p_g.Parents) < 1)))) hF hS (ex_ibin rfl rfl rfl) rfl rfl fun a hF => ?_
    refine q_x (v := (.bool (decide ((goLen p_g.Parents) < 1)))) hF hS (ex_move rfl) rfl rfl fun a hF => ?_
    rcases bcase (decide ((goLen p_g.Parents) < 1)) with hc2 | hc2
    · have hj1 := cond_f hc2 hj1
      refine q_xg (v := (.pointer (some ⟨b2, 0, none⟩))) hF hS (ex_fieldAddr Try.underlying89 rfl sz42 rfl rfl) (wanted_t hF rfl rfl rfl hc2) rfl fun a hF => ?_
      refine q_xg (v := s1.v) hF hS (ex_load1 0 0 Try.underlying42 rfl rfl rfl rfl) (wanted_t hF rfl rfl rfl hc2) rfl fun a hF => ?_
      refine q_xg (v := (.int .i64 (goLen p_g.Parents))) hF hS (ex_len Try.underlying42 rfl h1.len) (wanted_t hF rfl rfl rfl hc2) rfl fun a hF => ?_
      refine q_xg (v := (.bool (decide (30 < (goLen p_g.Parents))))) hF hS (ex_ibin rfl rfl rfl) (wanted_t hF rfl rfl rfl hc2) rfl fun a hF => ?_
      refine q_x (v := (.bool (decide (30 < (goLen p_g.Parents))))) hF hS (ex_pick_f rfl rfl hc2) rfl rfl fun a hF => ?_
      refine q_x (v := (.bool (decide (30 < (goLen p_g.Parents))))) hF hS (ex_move rfl) rfl rfl fun a hF => ?_
      rcases bcase (decide (30 < (goLen p_g.Parents))) with hc3 | hc3
      · have hj1 := cond_f hc3 hj1
        refine q_xg (v := (.pointer (some ⟨b2, 0, none⟩))) hF hS (ex_fieldAddr Try.underlying89 rfl sz42 rfl rfl) (wanted_t hF rfl rfl rfl hc3) rfl fun a hF => ?_
        refine q_xg (v := s1.v) hF hS (ex_load1 0 0 Try.underlying42 rfl rfl rfl rfl) (wanted_t hF rfl rfl rfl hc3) rfl fun a hF => ?_
        obtain ⟨e_3, he_3, hj1⟩ := bindS hj1
        obtain ⟨vs4, at4, d4⟩ := h1.at he_3 1 rfl
        obtain rfl : vs4 = [(.int .i64 e_3)] := d4
        refine q_xg (v := (elP s1 ((0 : Int).toNat * 1))) hF hS (ex_indexAddr Try.underlying42 sz3 rfl rfl (h1.idx he_3)) (wanted_t hF rfl rfl rfl hc3) rfl fun a hF => ?_
        refine q_xg (v := (.int .i64 e_3)) hF hS (ex_loadE1 0 Try.underlying3 rfl rfl ((at4).at) rfl rfl) (wanted_t hF rfl rfl rfl hc3) rfl fun a hF => ?_
        refine q_xg (v := (.bool (e_3 != (-1)))) hF hS (ex_ibin rfl rfl rfl) (wanted_t hF rfl rfl rfl hc3) rfl fun a hF => ?_
        refine q_x (v := (.bool (e_3 != (-1)))) hF hS (ex_pick_f rfl rfl hc3) rfl rfl fun a hF => ?_
        refine q_end (n_jn ?_)
        obtain rfl := someI hj1
        exact ⟨hF.sub ⟨rfl, rfl, trivial⟩, hS⟩
      · have hj1 := cond_t hc3 hj1
        refine q_skip hF (wanted_f hF rfl rfl rfl hc3 rfl) rfl fun a hF => ?_
        refine q_skip hF (wanted_f hF rfl rfl rfl hc3 rfl) rfl fun a hF => ?_
        refine q_skip hF (wanted_f hF rfl rfl rfl hc3 rfl) rfl fun a hF => ?_
        refine q_skip hF (wanted_f hF rfl rfl rfl hc3 rfl) rfl fun a hF => ?_
        refine q_skip hF (wanted_f hF rfl rfl rfl hc3 rfl) rfl fun a hF => ?_
        refine q_x (v := (.bool true)) hF hS (ex_pick_t rfl rfl hc3) rfl rfl fun a hF => ?_
        refine q_end (n_jn ?_)
        obtain rfl := someI hj1
        exact ⟨hF.sub ⟨rfl, rfl, trivial⟩, hS⟩
    · have hj1 := cond_t hc2 hj1
      refine q_skip hF (wanted_f hF rfl rfl rfl hc2 rfl) rfl fun a hF => ?_
      refine q_skip hF (wanted_f hF rfl rfl rfl hc2 rfl) rfl fun a hF => ?_
      refine q_skip hF (wanted_f hF rfl rfl rfl hc2 rfl) rfl fun a hF => ?_
      refine q_skip hF (wanted_f hF rfl rfl rfl hc2 rfl) rfl fun a hF => ?_
      refine q_x (v := (.bool true)) hF hS (ex_pick_t rfl rfl hc2) rfl rfl fun a hF => ?_
      refine q_x (v := (.bool true)) hF hS (ex_move rfl) rfl rfl fun a hF => ?_
      refine q_skip hF (wanted_f hF rfl rfl rfl rfl rfl) rfl fun a hF => ?_
      refine q_skip hF (wanted_f hF rfl rfl rfl rfl rfl) rfl fun a hF => ?_
      refine q_skip hF (wanted_f hF rfl rfl rfl rfl rfl) rfl fun a hF => ?_
      refine q_skip hF (wanted_f hF rfl rfl rfl rfl rfl) rfl fun a hF => ?_
      refine q_skip hF (wanted_f hF rfl rfl rfl rfl rfl) rfl fun a hF => ?_
      refine q_x (v := (.bool true)) hF hS (ex_pick_t rfl rfl rfl) rfl rfl fun a hF => ?_
      refine q_end (n_jn ?_)
      obtain rfl := someI hj1
      exact ⟨hF.sub ⟨rfl, rfl, trivial⟩, hS⟩
  · rintro a w ⟨hF, hS⟩
    refine n_sq ?_
    rcases bcase (t_5) with hc4 | hc4
    · have hr := cond_f hc4 hr
      refine q_cond_f hF rfl hc4 ?_
      refine q_skipc (n_sq ?_)
      refine q_seq ?_
      refine q_seq ?_
      refine q_region ?_
      refine q_x (v := (.int .i64 1)) hF hS (ex_assign rfl) rfl rfl fun a hF => ?_
      refine q_end (n_sq ?_)
      refine q_block ?_
      obtain ⟨o5, hl5, hr⟩ := bindS hr
      refine q_loop (fun (i_6 : Int) a w => Fr a 43 [(1, (.pointer (some ⟨b2, 0, none⟩))), (3, (.int .i64 i_6))] ∧ St [] w0 w m [[⟨b2, [s1.v], 89⟩]]) (fun (o : (Unit) ⊕ (Bool)) e a w => o = .inl () ∧ e = .exit 0 ∧ Fr a 43 [] ∧ St [] w0 w m []) hl5 ⟨hF.sub ⟨rfl, rfl, trivial⟩, hS⟩ ?_ ?_
      · clear hF hS
        rintro i_6 a w st ⟨hF, hS⟩ hb5
        unfold impl_IsGeo_l1 at hb5
        refine q_seq ?_
        refine q_seq ?_
        refine q_region ?_
        refine q_x (v := (.int .i64 i_6)) hF hS (ex_move rfl) rfl rfl fun a hF => ?_
        refine q_x (v := (.pointer (some ⟨b2, 0, none⟩))) hF hS (ex_fieldAddr Try.underlying89 rfl sz42 rfl rfl) rfl rfl fun a hF => ?_
        refine q_x (v := s1.v) hF hS (ex_load1 0 0 Try.underlying42 rfl rfl rfl rfl) rfl rfl fun a hF => ?_
        refine q_x (v := (.int .i64 (goLen p_g.Parents))) hF hS (ex_len Try.underlying42 rfl h1.len) rfl rfl fun a hF => ?_
        refine q_x (v := (.bool (decide (i_6 < (goLen p_g.Parents))))) hF hS (ex_ibin rfl rfl rfl) rfl rfl fun a hF => ?_
        refine q_end (n_sq ?_)
        rcases bcase (decide (i_6 < (goLen p_g.Parents))) with hc6 | hc6
        · have hb5 := cond_f hc6 hb5
          refine q_cond_f hF rfl hc6 ?_
          refine q_exit (x_sq ?_)
          obtain rfl := someI hb5
          exact ⟨nofun, .inl ⟨rfl, rfl, hF.sub trivial, hS.mask [false]⟩⟩
        · have hb5 := cond_t hc6 hb5
          refine q_cond_t hF rfl hc6 ?_
          refine q_skipc (n_sq ?_)
          refine q_seq ?_
          refine q_block ?_
          refine q_seq ?_
          obtain ⟨t_11, hj7, hb5⟩ := bindS hb5
          refine q_join (fun a w => Fr a 43 [(1, (.pointer (some ⟨b2, 0, none⟩))), (3, (.int .i64 i_6)), (42, (.bool t_11))] ∧ St [] w0 w m [[⟨b2, [s1.v], 89⟩]]) ?_ ?_
          · refine q_region ?_
            refine q_x (v := (.pointer (some ⟨b2, 0, none⟩))) hF hS (ex_fieldAddr Try.underlying89 rfl sz42 rfl rfl) rfl rfl fun a hF => ?_
            refine q_x (v := s1.v) hF hS (ex_load1 0 0 Try.underlying42 rfl rfl rfl rfl) rfl rfl fun a hF => ?_
            refine q_x (v := (.int .i64 i_6)) hF hS (ex_move rfl) rfl rfl fun a hF => ?_
            obtain ⟨e_7, he_7, hj7⟩ := bindS hj7
            obtain ⟨vs8, at8, d8⟩ := h1.at he_7 1 rfl
            obtain rfl : vs8 = [(.int .i64 e_7)] := d8
            refine q_x (v := (elP s1 (i_6.toNat * 1))) hF hS (ex_indexAddr Try.underlying42 sz3 rfl rfl (h1.idx he_7)) rfl rfl fun a hF => ?_
            refine q_x (v := (.int .i64 e_7)) hF hS (ex_loadE1 0 Try.underlying3 rfl rfl ((at8).at) rfl rfl) rfl rfl fun a hF => ?_
            refine q_x (v := (.bool (decide (e_7 < 0)))) hF hS (ex_ibin rfl rfl rfl) rfl rfl fun a hF => ?_
            refine q_x (v := (.bool (decide (e_7 < 0)))) hF hS (ex_move rfl) rfl rfl fun a hF => ?_
            rcases bcase (decide (e_7 < 0)) with hc8 | hc8
            · have hj7 := cond_f hc8 hj7
              refine q_xg (v := (.pointer (some ⟨b2, 0, none⟩))) hF hS (ex_fieldAddr Try.underlying89 rfl sz42 rfl rfl) (wanted_t hF rfl rfl rfl hc8) rfl fun a hF => ?_
              refine q_xg (v := s1.v) hF hS (ex_load1 0 0 Try.underlying42 rfl rfl rfl rfl) (wanted_t hF rfl rfl rfl hc8) rfl fun a hF => ?_
              refine q_xg (v := (.int .i64 i_6)) hF hS (ex_move rfl) (wanted_t hF rfl rfl rfl hc8) rfl fun a hF => ?_
              obtain ⟨e_9, he_9, hj7⟩ := bindS hj7
              obtain ⟨vs10, at10, d10⟩ := h1.at he_9 1 rfl
              obtain rfl : vs10 = [(.int .i64 e_9)] := d10
              refine q_xg (v := (elP s1 (i_6.toNat * 1))) hF hS (ex_indexAddr Try.underlying42 sz3 rfl rfl (h1.idx he_9)) (wanted_t hF rfl rfl rfl hc8) rfl fun a hF => ?_
              refine q_xg (v := (.int .i64 e_9)) hF hS (ex_loadE1 0 Try.underlying3 rfl rfl ((at10).at) rfl rfl) (wanted_t hF rfl rfl rfl hc8) rfl fun a hF => ?_
              refine q_xg (v := (.int .i64 i_6)) hF hS (ex_move rfl) (wanted_t hF rfl rfl rfl hc8) rfl fun a hF => ?_
              refine q_xg (v := (.bool (decide (i_6 ≤ e_9)))) hF hS (ex_ibin rfl rfl rfl) (wanted_t hF rfl rfl rfl hc8) rfl fun a hF => ?_
              refine q_x (v := (.bool (decide (i_6 ≤ e_9)))) hF hS (ex_pick_f rfl rfl hc8) rfl rfl fun a hF => ?_
              refine q_end (n_jn ?_)
              obtain rfl := someI hj7
              exact ⟨hF.sub ⟨rfl, rfl, rfl, trivial⟩, hS⟩
            · have hj7 := cond_t hc8 hj7
              refine q_skip hF (wanted_f hF rfl rfl rfl hc8 rfl) rfl fun a hF => ?_
              refine q_skip hF (wanted_f hF rfl rfl rfl hc8 rfl) rfl fun a hF => ?_
              refine q_skip hF (wanted_f hF rfl rfl rfl hc8 rfl) rfl fun a hF => ?_
              refine q_skip hF (wanted_f hF rfl rfl rfl hc8 rfl) rfl fun a hF => ?_
              refine q_skip hF (wanted_f hF rfl rfl rfl hc8 rfl) rfl fun a hF => ?_
              refine q_skip hF (wanted_f hF rfl rfl rfl hc8 rfl) rfl fun a hF => ?_
              refine q_skip hF (wanted_f hF rfl rfl rfl hc8 rfl) rfl fun a hF => ?_
              refine q_x (v := (.bool true)) hF hS (ex_pick_t rfl rfl hc8) rfl rfl fun a hF => ?_
              refine q_end (n_jn ?_)
              obtain rfl := someI hj7
              exact ⟨hF.sub ⟨rfl, rfl, rfl, trivial⟩, hS⟩
          · rintro a w ⟨hF, hS⟩
            refine n_sq ?_
            rcases bcase (t_11) with hc9 | hc9
            · have hb5 := cond_f hc9 hb5
              refine q_cond_f hF rfl hc9 ?_
              refine q_skipc (n_ib (n_sq ?_))
              refine q_region ?_
              refine q_x (v := (.int .i64 i_6)) hF hS (ex_move rfl) rfl rfl fun a hF => ?_
              refine q_x (v := (.int .i64 (w64 (i_6 + 1)))) hF hS (ex_ibin rfl rfl rfl) rfl rfl fun a hF => ?_
              refine q_x (v := (.int .i64 (w64 (i_6 + 1)))) hF hS (ex_assign rfl) rfl rfl fun a hF => ?_
              refine q_end ?_
              obtain rfl := someI hb5
              exact ⟨rfl, hF.sub ⟨rfl, rfl, trivial⟩, hS⟩
            · have hb5 := cond_t hc9 hb5
              refine q_cond_t hF rfl hc9 ?_
              refine q_seq ?_
              refine q_region ?_
              refine q_x (v := (.bool false)) hF hS (ex_assign rfl) rfl rfl fun a hF => ?_
              refine q_end (n_sq (q_ret (r_ib (r_sq ?_))))
              obtain rfl := someI hb5
              refine ⟨nofun, .inr fun ho => ?_⟩
              subst ho
              refine r_ib (r_sq ?_)
              obtain rfl := someI hr
              exact ret_of hF hS rfl (.tmp rfl .nil) rfl
      · rintro e a w ⟨rfl, rfl, hF, hS⟩
        refine x_ib (n_sq ?_)
        refine q_seq ?_
        refine q_region ?_
        refine q_x (v := (.bool true)) hF hS (ex_assign rfl) rfl rfl fun a hF => ?_
        refine q_end (n_sq (q_ret ?_))
        obtain rfl := someI hr
        exact ret_of hF hS rfl (.tmp rfl .nil) rfl
    · have hr := cond_t hc4 hr
      refine q_cond_t hF rfl hc4 ?_
      refine q_seq ?_
      refine q_region ?_
      refine q_x (v := (.bool false)) hF hS (ex_assign rfl) rfl rfl fun a hF => ?_
      refine q_end (n_sq (q_ret (r_sq ?_)))
      obtain rfl := someI hr
      exact ret_of hF hS rfl (.tmp rfl .nil) rfl

theorem c_impl_isArea (p_g : impl_Geo) (p_i : Int) (r : Bool) (hr : impl_isArea p_g p_i = some r) (w0 : World) (m : Mem) (hv : Vis m w0) (s1 : Sl) (h1 : Rd m s1 p_g.Parents) :
    Ret Try.prog 145 [(.agg #[s1.v]), (.int .i64 p_i)] w0 (fun v _ => v = (.bool r)) := by
  unfold impl_isArea at hr
  refine ret_start Try.func145 rfl 14 rfl rfl m hv fun a hF hS => ?_
  refine q_seq ?_
  refine q_region ?_
  refine q_box (cs := [s1.v]) hF hS rfl rfl rfl fun a w b2 hF hS => ?_
  refine q_x (v := (.bool false)) hF hS (ex_assign rfl) rfl rfl fun a hF => ?_
  refine q_end (n_sq ?_)
  refine q_seq ?_
  obtain ⟨t_3, hj1, hr⟩ := bindS hr
  refine q_join (fun a w => Fr a 14 [(4, (.bool t_3))] ∧ St [] w0 w m []) ?_ ?_
  · refine q_region ?_
    refine q_x (v := (.int .i64 p_i)) hF hS (ex_move rfl) rfl rfl fun a hF => ?_
    refine q_x (v := (.bool (decide (0 ≤ p_i)))) hF hS (ex_ibin rfl rfl rfl) rfl rfl fun a hF => ?_
    refine q_x (v := (.bool (decide (0 ≤ p_i)))) hF hS (ex_move rfl) rfl rfl fun a hF => ?_
    rcases bcase (decide (0 ≤ p_i)) with hc2 | hc2
    · have hj1 := cond_f hc2 hj1
      refine q_skip hF (wanted_f hF rfl rfl rfl hc2 rfl) rfl fun a hF => ?_
      refine q_skip hF (wanted_f hF rfl rfl rfl hc2 rfl) rfl fun a hF => ?_
      refine q_skip hF (wanted_f hF rfl rfl rfl hc2 rfl) rfl fun a hF => ?_
      refine q_skip hF (wanted_f hF rfl rfl rfl hc2 rfl) rfl fun a hF => ?_
      refine q_skip hF (wanted_f hF rfl rfl rfl hc2 rfl) rfl fun a hF => ?_
      refine q_x (v := (.bool false)) hF hS (ex_pick_f rfl rfl hc2) rfl rfl fun a hF => ?_
      refine q_x (v := (.bool false)) hF hS (ex_assign rfl) rfl rfl fun a hF => ?_
      refine q_end (n_jn ?_)
      obtain rfl := someI hj1
      exact ⟨hF.sub ⟨rfl, trivial⟩, hS.mask [false]⟩
    · have hj1 := cond_t hc2 hj1
      refine q_xg (v := (.int .i64 p_i)) hF hS (ex_move rfl) (wanted_t hF rfl rfl rfl hc2) rfl fun a hF => ?_
      refine q_xg (v := (.pointer (some ⟨b2, 0, none⟩))) hF hS (ex_fieldAddr Try.underlying89 rfl sz42 rfl rfl) (wanted_t hF rfl rfl rfl hc2) rfl fun a hF => ?_
      refine q_xg (v := s1.v) hF hS (ex_load1 0 0 Try.underlying42 rfl rfl rfl rfl) (wanted_t hF rfl rfl rfl hc2) rfl fun a hF => ?_
      refine q_xg (v := (.int .i64 (goLen p_g.Parents))) hF hS (ex_len Try.underlying42 rfl h1.len) (wanted_t hF rfl rfl rfl hc2) rfl fun a hF => ?_
      refine q_xg (v := (.bool (decide (p_i < (goLen p_g.Parents))))) hF hS (ex_ibin rfl rfl rfl) (wanted_t hF rfl rfl rfl hc2) rfl fun a hF => ?_
      refine q_x (v := (.bool (decide (p_i < (goLen p_g.Parents))))) hF hS (ex_pick_t rfl rfl hc2) rfl rfl fun a hF => ?_
      refine q_x (v := (.bool (decide (p_i < (goLen p_g.Parents))))) hF hS (ex_assign rfl) rfl rfl fun a hF => ?_
      refine q_end (n_jn ?_)
      obtain rfl := someI hj1
      exact ⟨hF.sub ⟨rfl, trivial⟩, hS.mask [false]⟩
  · rintro a w ⟨hF, hS⟩
    refine n_sq (q_ret ?_)
    obtain rfl := someI hr
    exact ret_of hF hS rfl (.tmp rfl .nil) rfl

theorem c_slices_Reverse_int_int (p_s : List Int) (r : (List Int)) (hr : slices_Reverse_int_int p_s = some r) (w0 : World) (m : Mem) (s1 : Sl) (q1 : Piece) (h1 : OwnL m 3 q1 s1 p_s) (X : List Nat) (hS : St X w0 w0 m [q1]) :
    RetX Try.prog 171 [s1.v] w0 (fun v w => ∃ (qp0 : Piece), v = (.tuple #[]) ∧ St X w0 w m [qp0] ∧ OwnL m 3 qp0 s1 r) := by
  unfold slices_Reverse_int_int at hr
  refine ret_startX Try.func171 rfl 28 rfl rfl fun a hF => ?_
  refine q_seq ?_
  refine q_region ?_
  refine q_x (v := s1.v) hF hS (ex_move rfl) rfl rfl fun a hF => ?_
  refine q_x (v := (.int .i64 (goLen p_s))) hF hS (ex_len Try.underlying42 rfl h1.len) rfl rfl fun a hF => ?_
  refine q_x (v := (.int .i64 (w64 ((goLen p_s) - 1)))) hF hS (ex_ibin rfl rfl rfl) rfl rfl fun a hF => ?_
  refine q_x (v := (.int .i64 0)) hF hS (ex_assign rfl) rfl rfl fun a hF => ?_
  refine q_x (v := (.int .i64 (w64 ((goLen p_s) - 1)))) hF hS (ex_assign rfl) rfl rfl fun a hF => ?_
  refine q_end (n_sq ?_)
  refine q_block ?_
  obtain ⟨s_16, hl1, hr⟩ := bindS hr
  refine q_loop (fun (s : (List Int) × Int × Int) a w => ∃ (q3 : Piece), ∃ s_2, ∃ i_4, ∃ j_5, s = (s_2, i_4, j_5) ∧ Fr a 28 [(0, s1.v), (2, (.int .i64 i_4)), (3, (.int .i64 j_5))] ∧ St X w0 w m [q3] ∧ OwnL m 3 q3 s1 s_2) (fun (s_16 : (List Int)) e a w => ∃ (q17 : Piece), e = .exit 0 ∧ Fr a 28 [] ∧ St X w0 w m [q17] ∧ OwnL m 3 q17 s1 s_16) hl1 ⟨q1, _, _, _, rfl, hF.sub ⟨rfl, rfl, rfl, trivial⟩, hS, h1⟩ ?_ ?_
  · clear hF hS
    rintro s a w st ⟨q3, s_2, i_4, j_5, rfl, hF, hS, h3⟩ hb1
    unfold slices_Reverse_int_int_l1 at hb1
    refine q_seq ?_
    refine q_seq ?_
    refine q_region ?_
    refine q_x (v := (.int .i64 i_4)) hF hS (ex_move rfl) rfl rfl fun a hF => ?_
    refine q_x (v := (.int .i64 j_5)) hF hS (ex_move rfl) rfl rfl fun a hF => ?_
    refine q_x (v := (.bool (decide (i_4 < j_5)))) hF hS (ex_ibin rfl rfl rfl) rfl rfl fun a hF => ?_
    refine q_end (n_sq ?_)
    rcases bcase (decide (i_4 < j_5)) with hc2 | hc2
    · have hb1 := cond_f hc2 hb1
      refine q_cond_f hF rfl hc2 ?_
      refine q_exit (x_sq ?_)
      obtain rfl := someI hb1
      exact ⟨nofun, .inl ⟨q3, rfl, hF.sub trivial, hS, h3⟩⟩
    · have hb1 := cond_t hc2 hb1
      refine q_cond_t hF rfl hc2 ?_
      refine q_skipc (n_sq ?_)
      refine q_seq ?_
      refine q_block ?_
      refine e_region [13, 15] mixed fun w' hw' => ?_
      have hS := hS.below hw'
      refine e_p (v := s1.v) 0 hF rfl (ex_move rfl) rfl rfl (by kernel_rfl) (by kernel_rfl) (by kernel_rfl) fun a hF => ?_
      refine e_p (v := (.int .i64 i_4)) 1 hF rfl (ex_move rfl) rfl rfl (by kernel_rfl) (by kernel_rfl) (by kernel_rfl) fun a hF => ?_
      refine e_p (v := s1.v) 2 hF rfl (ex_move rfl) rfl rfl (by kernel_rfl) (by kernel_rfl) (by kernel_rfl) fun a hF => ?_
      refine e_p (v := (.int .i64 j_5)) 3 hF rfl (ex_move rfl) rfl rfl (by kernel_rfl) (by kernel_rfl) (by kernel_rfl) fun a hF => ?_
      refine e_p (v := s1.v) 4 hF rfl (ex_move rfl) rfl rfl (by kernel_rfl) (by kernel_rfl) (by kernel_rfl) fun a hF => ?_
      refine e_p (v := (.int .i64 j_5)) 5 hF rfl (ex_move rfl) rfl rfl (by kernel_rfl) (by kernel_rfl) (by kernel_rfl) fun a hF => ?_
      obtain ⟨e_6, he_6, hb1⟩ := bindS hb1
      obtain ⟨vs7, at7, d7⟩ := h3.at he_6 1 rfl
      obtain rfl : vs7 = [(.int .i64 e_6)] := d7
      refine e_p (v := (elP s1 (j_5.toNat * 1))) 6 hF rfl (ex_indexAddr Try.underlying42 sz3 rfl rfl (h3.idx he_6)) rfl rfl (by kernel_rfl) (by kernel_rfl) (by kernel_rfl) fun a hF => ?_
      refine e_x (v := (.int .i64 e_6)) 7 hF hS rfl (ex_loadE1 0 Try.underlying3 rfl rfl (at7.at 0 rfl) rfl rfl) rfl rfl (by kernel_rfl) (by kernel_rfl) (by kernel_rfl) (by kernel_rfl) fun a hF => ?_
      refine e_p (v := s1.v) 8 hF rfl (ex_move rfl) rfl rfl (by kernel_rfl) (by kernel_rfl) (by kernel_rfl) fun a hF => ?_
      refine e_p (v := (.int .i64 i_4)) 9 hF rfl (ex_move rfl) rfl rfl (by kernel_rfl) (by kernel_rfl) (by kernel_rfl) fun a hF => ?_
      obtain ⟨e_8, he_8, hb1⟩ := bindS hb1
      obtain ⟨vs9, at9, d9⟩ := h3.at he_8 1 rfl
      obtain rfl : vs9 = [(.int .i64 e_8)] := d9
      refine e_p (v := (elP s1 (i_4.toNat * 1))) 10 hF rfl (ex_indexAddr Try.underlying42 sz3 rfl rfl (h3.idx he_8)) rfl rfl (by kernel_rfl) (by kernel_rfl) (by kernel_rfl) fun a hF => ?_
      refine e_x (v := (.int .i64 e_8)) 11 hF hS rfl (ex_loadE1 0 Try.underlying3 rfl rfl (at9.at 0 rfl) rfl rfl) rfl rfl (by kernel_rfl) (by kernel_rfl) (by kernel_rfl) (by kernel_rfl) fun a hF => ?_
      obtain ⟨e_10, he_10, hb1⟩ := bindS hb1
      obtain ⟨vs11, at11, d11⟩ := h3.at he_10 1 rfl
      obtain rfl : vs11 = [(.int .i64 e_10)] := d11
      refine e_p (v := (elP s1 (i_4.toNat * 1))) 12 hF rfl (ex_indexAddr Try.underlying42 sz3 rfl rfl (h3.idx he_10)) rfl rfl (by kernel_rfl) (by kernel_rfl) (by kernel_rfl) fun a hF => ?_
      refine e_one 13 (by kernel_rfl) ?_
      refine e_opl rfl rfl rfl fun _ hK => wp_storeE (e' := e_6) (us := [(.int .i64 e_6)]) (vs := [(.int .i64 e_10)]) 0 hF hS h3 sz3 rfl rfl rfl rfl rfl rfl rfl he_10 at11 rfl rfl rfl fun w q12 hS h12 => hK _ _ ?_
      obtain ⟨e_13, he_13, hb1⟩ := bindS hb1
      obtain ⟨vs14, at14, d14⟩ := h12.at he_13 1 rfl
      obtain rfl : vs14 = [(.int .i64 e_13)] := d14
      refine e_p (v := (elP s1 (j_5.toNat * 1))) 14 hF rfl (ex_indexAddr Try.underlying42 sz3 rfl rfl (h12.idx he_13)) rfl rfl (by kernel_rfl) (by kernel_rfl) (by kernel_rfl) fun a hF => ?_
      refine e_one 15 (by kernel_rfl) ?_
      refine e_opl rfl rfl rfl fun _ hK => wp_storeE (e' := e_8) (us := [(.int .i64 e_8)]) (vs := [(.int .i64 e_13)]) 0 hF hS h12 sz3 rfl rfl rfl rfl rfl rfl rfl he_13 at14 rfl rfl rfl fun w q15 hS h15 => hK _ _ ?_
      refine e_end (by kernel_rfl) (n_ib (n_sq ?_)) _
      refine q_region ?_
      refine q_x (v := (.int .i64 i_4)) hF hS (ex_move rfl) rfl rfl fun a hF => ?_
      refine q_x (v := (.int .i64 (w64 (i_4 + 1)))) hF hS (ex_ibin rfl rfl rfl) rfl rfl fun a hF => ?_
      refine q_x (v := (.int .i64 j_5)) hF hS (ex_move rfl) rfl rfl fun a hF => ?_
      refine q_x (v := (.int .i64 (w64 (j_5 - 1)))) hF hS (ex_ibin rfl rfl rfl) rfl rfl fun a hF => ?_
      refine q_x (v := (.int .i64 (w64 (i_4 + 1)))) hF hS (ex_assign rfl) rfl rfl fun a hF => ?_
      refine q_x (v := (.int .i64 (w64 (j_5 - 1)))) hF hS (ex_assign rfl) rfl rfl fun a hF => ?_
      refine q_end ?_
      obtain rfl := someI hb1
      exact ⟨rfl, q15, _, _, _, rfl, hF.sub ⟨rfl, rfl, rfl, trivial⟩, hS, h15⟩
  · rintro e a w ⟨q17, rfl, hF, hS, h17⟩
    refine x_ib (normal_ret ?_)
    obtain rfl := someI hr
    exact ret_ofX hF hS rfl .nil ⟨q17, rfl, hS.sel [0] (by decide), h17⟩

theorem c_impl_pathTo (p_g : impl_Geo) (p_i : Int) (r : (List Int)) (hr : impl_pathTo p_g p_i = some r) (w0 : World) (m : Mem) (hv : Vis m w0) (s1 : Sl) (h1 : Rd m s1 p_g.Parents) :
    Ret Try.prog 146 [(.agg #[s1.v]), (.int .i64 p_i)] w0 (fun v w => ∃ (q0' : Piece) (s0' : Sl), v = s0'.v ∧ St [] w0 w m [q0'] ∧ OwnL m 3 q0' s0' r) := by
  unfold impl_pathTo at hr
  refine ret_start Try.func146 rfl 20 rfl rfl m hv fun a hF hS => ?_
  refine q_seq ?_
  refine q_region ?_
  refine q_box (cs := [s1.v]) hF hS rfl rfl rfl fun a w b2 hF hS => ?_
  refine q_x (v := nilS.v) hF hS (ex_assign rfl) rfl rfl fun a hF => ?_
  refine q_end (n_sq ?_)
  refine q_seq ?_
  refine q_region ?_
  refine q_x (v := nilS.v) hF hS (ex_assign rfl) rfl rfl fun a hF => ?_
  refine q_end (n_sq ?_)
  refine q_seq ?_
  refine q_block ?_
  obtain ⟨path_11, hl1, hr⟩ := bindS hr
  refine q_loop (fun (s : Int × (List Int)) a w => ∃ (q5 : Piece), ∃ (s5 : Sl), ∃ i_3, ∃ path_4, s = (i_3, path_4) ∧ Fr a 20 [(1, (.int .i64 i_3)), (2, (.pointer (some ⟨b2, 0, none⟩))), (5, s5.v)] ∧ St [] w0 w m [q5, [⟨b2, [s1.v], 89⟩]] ∧ OwnL m 3 q5 s5 path_4) (fun (path_11 : (List Int)) e a w => ∃ (q12 : Piece), ∃ (s12 : Sl), e = .exit 0 ∧ Fr a 20 [(5, s12.v)] ∧ St [] w0 w m [q12] ∧ OwnL m 3 q12 s12 path_11) hl1 ⟨[], nilS, _, _, rfl, hF.sub ⟨rfl, rfl, rfl, trivial⟩, hS.sel [1, 0] (by decide), (OwnL.nil (α := Int) m 3)⟩ ?_ ?_
  · clear hF hS
    rintro s a w st ⟨q5, s5, i_3, path_4, rfl, hF, hS, h5⟩ hb1
    unfold impl_pathTo_l1 at hb1
    refine q_seq ?_
    refine q_seq ?_
    refine q_region ?_
    refine q_x (v := (.int .i64 i_3)) hF hS (ex_move rfl) rfl rfl fun a hF => ?_
    refine q_x (v := (.bool (decide (0 ≤ i_3)))) hF hS (ex_ibin rfl rfl rfl) rfl rfl fun a hF => ?_
    refine q_end (n_sq ?_)
    rcases bcase (decide (0 ≤ i_3)) with hc2 | hc2
    · have hb1 := cond_f hc2 hb1
      refine q_cond_f hF rfl hc2 ?_
      refine q_exit (x_sq ?_)
      obtain rfl := someI hb1
      exact ⟨nofun, .inl ⟨q5, s5, rfl, hF.sub ⟨rfl, trivial⟩, hS.mask [true, false], h5⟩⟩
    · have hb1 := cond_t hc2 hb1
      refine q_cond_t hF rfl hc2 ?_
      refine q_skipc (n_sq ?_)
      refine q_seq ?_
      refine q_block ?_
      refine q_region ?_
      refine q_x (v := s5.v) hF hS (ex_move rfl) rfl rfl fun a hF => ?_
      refine q_x (v := (.int .i64 i_3)) hF hS (ex_move rfl) rfl rfl fun a hF => ?_
      refine q_do rfl fun _ hK => wp_buildSlice' (l := ([i_3] : List Int)) (cells := [(.int .i64 i_3)]) hF hS Try.underlying42 inf3 rfl rfl (by kernel_rfl) rfl rfl rfl ⟨rfl, rfl⟩ rfl rfl fun a w q6 s6 hF hS h6 _ => hK _ _ ?_
      have hS : St _ _ _ _ [q5, q6, [⟨b2, [s1.v], 89⟩]] := hS.sel [1, 0, 2] (by decide)
      obtain ⟨l_7, hl_7, hb1⟩ := bindS hb1
      refine q_do rfl fun _ hK => wp_append hF hS h5 Try.underlying42 inf3 rfl rfl rfl rfl (h6.vw hS (j := 1) rfl) rfl (by decide) hl_7 rfl fun a w q8 s8 hF hS h8 => hK _ _ ?_
      refine q_x (v := s8.v) hF hS (ex_assign rfl) rfl rfl fun a hF => ?_
      refine q_end (n_ib (n_sq ?_))
      refine q_region ?_
      refine q_x (v := (.pointer (some ⟨b2, 0, none⟩))) hF hS (ex_fieldAddr Try.underlying89 rfl sz42 rfl rfl) rfl rfl fun a hF => ?_
      refine q_x (v := s1.v) hF hS (ex_load1 2 0 Try.underlying42 rfl rfl rfl rfl) rfl rfl fun a hF => ?_
      refine q_x (v := (.int .i64 i_3)) hF hS (ex_move rfl) rfl rfl fun a hF => ?_
      obtain ⟨e_9, he_9, hb1⟩ := bindS hb1
      obtain ⟨vs10, at10, d10⟩ := h1.at he_9 1 rfl
      obtain rfl : vs10 = [(.int .i64 e_9)] := d10
      refine q_x (v := (elP s1 (i_3.toNat * 1))) hF hS (ex_indexAddr Try.underlying42 sz3 rfl rfl (h1.idx he_9)) rfl rfl fun a hF => ?_
      refine q_x (v := (.int .i64 e_9)) hF hS (ex_loadE1 0 Try.underlying3 rfl rfl ((at10).at) rfl rfl) rfl rfl fun a hF => ?_
      refine q_x (v := (.int .i64 e_9)) hF hS (ex_assign rfl) rfl rfl fun a hF => ?_
      refine q_end ?_
      obtain rfl := someI hb1
      exact ⟨rfl, q8, s8, _, _, rfl, hF.sub ⟨rfl, rfl, rfl, trivial⟩, hS.mask [true, false, true], h8⟩
  · rintro e a w ⟨q12, s12, rfl, hF, hS, h12⟩
    refine x_ib (n_sq ?_)
    refine q_seq ?_
    refine q_region ?_
    refine q_x (v := s12.v) hF hS (ex_move rfl) rfl rfl fun a hF => ?_
    have hS13 : St _ _ _ _ ([q12] ++ []) := hS
    have hE13 := hS13.enter
    obtain ⟨t_14, ht_14, hr⟩ := bindS hr
    refine q_do rfl fun _ hK => wp_callX (vs := [s12.v]) hF Try.func171 (by kernel_rfl) rfl rfl rfl (c_slices_Reverse_int_int path_11 t_14 ht_14 _ m s12 q12 h12 _ hE13) fun a w _ hR hF => hK _ _ ?_
    obtain ⟨q15, rfl, hR13, h15⟩ := hR
    have hS : St _ _ _ _ [q15] := hS13.leaveF hR13
    refine q_end (n_sq ?_)
    refine q_seq ?_
    refine q_region ?_
    refine q_x (v := s12.v) hF hS (ex_move rfl) rfl rfl fun a hF => ?_
    refine q_x (v := s12.v) hF hS (ex_assign rfl) rfl rfl fun a hF => ?_
    refine q_end (n_sq (q_ret ?_))
    obtain rfl := someI hr
    exact ret_of hF hS rfl (.tmp rfl .nil) ⟨q15, s12, rfl, hS.sel [0] (by decide), h15⟩

theorem c_impl_PathTo (p_g : impl_Geo) (p_i : Int) (r : (List Int) × Bool) (hr : impl_PathTo p_g p_i = some r) (w0 : World) (m : Mem) (hv : Vis m w0) (s1 : Sl) (h1 : Rd m s1 p_g.Parents) :
    Ret Try.prog 68 [(.agg #[s1.v]), (.int .i64 p_i)] w0 (fun v w => ∃ (q0' : Piece) (s0' : Sl), v = (.tuple #[s0'.v, (.bool r.2)]) ∧ St [] w0 w m [q0'] ∧ OwnL m 3 q0' s0' r.1) := by
  unfold impl_PathTo at hr
  refine ret_start Try.func68 rfl 18 rfl rfl m hv fun a hF hS => ?_
  refine q_seq ?_
  refine q_region ?_
  refine q_box (cs := [s1.v]) hF hS rfl rfl rfl fun a w b2 hF hS => ?_
  refine q_x (v := nilS.v) hF hS (ex_assign rfl) rfl rfl fun a hF => ?_
  refine q_x (v := (.bool false)) hF hS (ex_assign rfl) rfl rfl fun a hF => ?_
  refine q_end (n_sq ?_)
  refine q_seq ?_
  refine q_seq ?_
  obtain ⟨t_5, hj1, hr⟩ := bindS hr
  refine q_join (fun a w => Fr a 18 [(1, (.int .i64 p_i)), (2, (.pointer (some ⟨b2, 0, none⟩))), (14, (.bool t_5))] ∧ St [] w0 w m [[⟨b2, [s1.v], 89⟩]]) ?_ ?_
  · refine q_region ?_
    refine q_x (v := (.agg #[s1.v])) hF hS (ex_loadA (vs := [s1.v]) 0 0 Try.underlying89 rfl sz89 rfl rfl rfl rfl) rfl rfl fun a hF => ?_
    obtain ⟨t_3, ht_3, hj1⟩ := bindS hj1
    refine q_call (vs := [(.agg #[s1.v])]) hF hS Try.func144 (by kernel_rfl) rfl rfl rfl (c_impl_IsGeo p_g t_3 ht_3 _ m hS.vis s1 h1) ?_
    rintro a w _ rfl hF hS
    refine q_x (v := (.bool (!t_3))) hF hS (ex_not rfl) rfl rfl fun a hF => ?_
    refine q_x (v := (.bool (!t_3))) hF hS (ex_move rfl) rfl rfl fun a hF => ?_
    rcases bcase (!t_3) with hc2 | hc2
    · have hj1 := cond_f hc2 hj1
      refine q_xg (v := (.agg #[s1.v])) hF hS (ex_loadA (vs := [s1.v]) 0 0 Try.underlying89 rfl sz89 rfl rfl rfl rfl) (wanted_t hF rfl rfl rfl hc2) rfl fun a hF => ?_
      refine q_xg (v := (.int .i64 p_i)) hF hS (ex_move rfl) (wanted_t hF rfl rfl rfl hc2) rfl fun a hF => ?_
      obtain ⟨t_4, ht_4, hj1⟩ := bindS hj1
      refine q_callg (vs := [(.agg #[s1.v]), (.int .i64 p_i)]) hF hS (wanted_t hF rfl rfl rfl hc2) Try.func145 (by kernel_rfl) rfl rfl rfl (c_impl_isArea p_g p_i t_4 ht_4 _ m hS.vis s1 h1) ?_
      rintro a w _ rfl hF hS
      refine q_xg (v := (.bool (!t_4))) hF hS (ex_not rfl) (wanted_t hF rfl rfl rfl hc2) rfl fun a hF => ?_
      refine q_x (v := (.bool (!t_4))) hF hS (ex_pick_f rfl rfl hc2) rfl rfl fun a hF => ?_
      refine q_end (n_jn ?_)
      obtain rfl := someI hj1
      exact ⟨hF.sub ⟨rfl, rfl, rfl, trivial⟩, hS⟩
    · have hj1 := cond_t hc2 hj1
      refine q_skip hF (wanted_f hF rfl rfl rfl hc2 rfl) rfl fun a hF => ?_
      refine q_skip hF (wanted_f hF rfl rfl rfl hc2 rfl) rfl fun a hF => ?_
      refine q_skip hF (wanted_f hF rfl rfl rfl hc2 rfl) rfl fun a hF => ?_
      refine q_skip hF (wanted_f hF rfl rfl rfl hc2 rfl) rfl fun a hF => ?_
      refine q_x (v := (.bool true)) hF hS (ex_pick_t rfl rfl hc2) rfl rfl fun a hF => ?_
      refine q_end (n_jn ?_)
      obtain rfl := someI hj1
      exact ⟨hF.sub ⟨rfl, rfl, rfl, trivial⟩, hS⟩
  · rintro a w ⟨hF, hS⟩
    refine n_sq ?_
    rcases bcase (t_5) with hc3 | hc3
    · have hr := cond_f hc3 hr
      refine q_cond_f hF rfl hc3 ?_
      refine q_skipc (n_sq ?_)
      refine q_seq ?_
      refine q_region ?_
      refine q_x (v := (.agg #[s1.v])) hF hS (ex_loadA (vs := [s1.v]) 0 0 Try.underlying89 rfl sz89 rfl rfl rfl rfl) rfl rfl fun a hF => ?_
      refine q_x (v := (.int .i64 p_i)) hF hS (ex_move rfl) rfl rfl fun a hF => ?_
      obtain ⟨t_6, ht_6, hr⟩ := bindS hr
      refine q_call (vs := [(.agg #[s1.v]), (.int .i64 p_i)]) hF hS Try.func146 (by kernel_rfl) rfl rfl rfl (c_impl_pathTo p_g p_i t_6 ht_6 _ m hS.vis s1 h1) ?_
      rintro a w _ ⟨q8, s8, rfl, hR7, h8⟩ hF hS2
      have hS : St _ _ _ _ [q8, [⟨b2, [s1.v], 89⟩]] := hS.joinF hR7
      refine q_x (v := s8.v) hF hS (ex_assign rfl) rfl rfl fun a hF => ?_
      refine q_x (v := (.bool true)) hF hS (ex_assign rfl) rfl rfl fun a hF => ?_
      refine q_end (n_sq (q_ret ?_))
      obtain rfl := someI hr
      exact ret_of hF hS rfl (.tmp rfl (.tmp rfl .nil)) ⟨q8, s8, rfl, hS.sel [0] (by decide), h8⟩
    · have hr := cond_t hc3 hr
      refine q_cond_t hF rfl hc3 ?_
      refine q_seq ?_
      refine q_region ?_
      refine q_x (v := nilS.v) hF hS (ex_assign rfl) rfl rfl fun a hF => ?_
      refine q_x (v := (.bool false)) hF hS (ex_assign rfl) rfl rfl fun a hF => ?_
      refine q_end (n_sq (q_ret (r_sq ?_)))
      obtain rfl := someI hr
      exact ret_of hF hS rfl (.tmp rfl (.tmp rfl .nil)) ⟨[], nilS, rfl, hS.sel [1] (by decide), (OwnL.nil (α := Int) m 3)⟩

theorem c_spec_l1In (p_n : Int) (p_lo : Int) (p_hi : Int) (r : Bool) (hr : spec_l1In p_n p_lo p_hi = some r) (w0 : World) (m : Mem) (hv : Vis m w0) :
    Ret Try.prog 104 [(.int .i64 p_n), (.int .i64 p_lo), (.int .i64 p_hi)] w0 (fun v _ => v = (.bool r)) := by
  unfold spec_l1In at hr
  refine ret_start Try.func104 rfl 15 rfl rfl m hv fun a hF hS => ?_
  refine q_seq ?_
  refine q_region ?_
  refine q_x (v := (.bool false)) hF hS (ex_assign rfl) rfl rfl fun a hF => ?_
  refine q_end (n_sq ?_)
  refine q_seq ?_
  obtain ⟨t_1, hj1, hr⟩ := bindS hr
  refine q_join (fun a w => Fr a 15 [(6, (.bool t_1))] ∧ St [] w0 w m []) ?_ ?_
  · refine q_region ?_
    refine q_x (v := (.int .i64 p_n)) hF hS (ex_move rfl) rfl rfl fun a hF => ?_
    refine q_x (v := (.int .i64 p_lo)) hF hS (ex_move rfl) rfl rfl fun a hF => ?_
    refine q_x (v := (.bool (decide (p_lo ≤ p_n)))) hF hS (ex_ibin rfl rfl rfl) rfl rfl fun a hF => ?_
    refine q_x (v := (.bool (decide (p_lo ≤ p_n)))) hF hS (ex_move rfl) rfl rfl fun a hF => ?_
    rcases bcase (decide (p_lo ≤ p_n)) with hc2 | hc2
    · have hj1 := cond_f hc2 hj1
      refine q_skip hF (wanted_f hF rfl rfl rfl hc2 rfl) rfl fun a hF => ?_
      refine q_skip hF (wanted_f hF rfl rfl rfl hc2 rfl) rfl fun a hF => ?_
      refine q_skip hF (wanted_f hF rfl rfl rfl hc2 rfl) rfl fun a hF => ?_
      refine q_x (v := (.bool false)) hF hS (ex_pick_f rfl rfl hc2) rfl rfl fun a hF => ?_
      refine q_x (v := (.bool false)) hF hS (ex_assign rfl) rfl rfl fun a hF => ?_
      refine q_end (n_jn ?_)
      obtain rfl := someI hj1
      exact ⟨hF.sub ⟨rfl, trivial⟩, hS⟩
    · have hj1 := cond_t hc2 hj1
      refine q_xg (v := (.int .i64 p_n)) hF hS (ex_move rfl) (wanted_t hF rfl rfl rfl hc2) rfl fun a hF => ?_
      refine q_xg (v := (.int .i64 p_hi)) hF hS (ex_move rfl) (wanted_t hF rfl rfl rfl hc2) rfl fun a hF => ?_
      refine q_xg (v := (.bool (decide (p_n ≤ p_hi)))) hF hS (ex_ibin rfl rfl rfl) (wanted_t hF rfl rfl rfl hc2) rfl fun a hF => ?_
      refine q_x (v := (.bool (decide (p_n ≤ p_hi)))) hF hS (ex_pick_t rfl rfl hc2) rfl rfl fun a hF => ?_
      refine q_x (v := (.bool (decide (p_n ≤ p_hi)))) hF hS (ex_assign rfl) rfl rfl fun a hF => ?_
      refine q_end (n_jn ?_)
      obtain rfl := someI hj1
      exact ⟨hF.sub ⟨rfl, trivial⟩, hS⟩
  · rintro a w ⟨hF, hS⟩
    refine n_sq (q_ret ?_)
    obtain rfl := someI hr
    exact ret_of hF hS rfl (.tmp rfl .nil) rfl

theorem c_spec_gGood (p_g : impl_Geo) (r : Bool) (hr : spec_gGood p_g = some r) (w0 : World) (m : Mem) (hv : Vis m w0) (s1 : Sl) (h1 : Rd m s1 p_g.Parents) :
    Ret Try.prog 154 [(.agg #[s1.v])] w0 (fun v _ => v = (.bool r)) := by
  unfold spec_gGood at hr
  refine ret_start Try.func154 rfl 35 rfl rfl m hv fun a hF hS => ?_
  refine q_seq ?_
  refine q_region ?_
  refine q_box (cs := [s1.v]) hF hS rfl rfl rfl fun a w b2 hF hS => ?_
  refine q_x (v := (.bool false)) hF hS (ex_assign rfl) rfl rfl fun a hF => ?_
  refine q_end (n_sq ?_)
  refine q_seq ?_
  refine q_seq ?_
  obtain ⟨t_6, hj1, hr⟩ := bindS hr
  refine q_join (fun a w => Fr a 35 [(1, (.pointer (some ⟨b2, 0, none⟩))), (16, (.bool t_6))] ∧ St [] w0 w m [[⟨b2, [s1.v], 89⟩]]) ?_ ?_
  · refine q_region ?_
    refine q_x (v := (.pointer (some ⟨b2, 0, none⟩))) hF hS (ex_fieldAddr Try.underlying89 rfl sz42 rfl rfl) rfl rfl fun a hF => ?_
    refine q_x (v := s1.v) hF hS (ex_load1 0 0 Try.underlying42 rfl rfl rfl rfl) rfl rfl fun a hF => ?_
    refine q_x (v := (.int .i64 (goLen p_g.Parents))) hF hS (ex_len Try.underlying42 rfl h1.len) rfl rfl fun a hF => ?_
    obtain ⟨t_3, ht_3, hj1⟩ := bindS hj1
    refine q_call (vs := [(.int .i64 (goLen p_g.Parents)), (.int .i64 1), (.int .i64 30)]) hF hS Try.func104 (by kernel_rfl) rfl rfl rfl (c_spec_l1In (goLen p_g.Parents) 1 30 t_3 ht_3 _ m hS.vis) ?_
    rintro a w _ rfl hF hS
    refine q_x (v := (.bool (!t_3))) hF hS (ex_not rfl) rfl rfl fun a hF => ?_
    refine q_x (v := (.bool (!t_3))) hF hS (ex_move rfl) rfl rfl fun a hF => ?_
    rcases bcase (!t_3) with hc2 | hc2
    · have hj1 := cond_f hc2 hj1
      refine q_xg (v := (.pointer (some ⟨b2, 0, none⟩))) hF hS (ex_fieldAddr Try.underlying89 rfl sz42 rfl rfl) (wanted_t hF rfl rfl rfl hc2) rfl fun a hF => ?_
      refine q_xg (v := s1.v) hF hS (ex_load1 0 0 Try.underlying42 rfl rfl rfl rfl) (wanted_t hF rfl rfl rfl hc2) rfl fun a hF => ?_
      obtain ⟨e_4, he_4, hj1⟩ := bindS hj1
      obtain ⟨vs5, at5, d5⟩ := h1.at he_4 1 rfl
      obtain rfl : vs5 = [(.int .i64 e_4)] := d5
      refine q_xg (v := (elP s1 ((0 : Int).toNat * 1))) hF hS (ex_indexAddr Try.underlying42 sz3 rfl rfl (h1.idx he_4)) (wanted_t hF rfl rfl rfl hc2) rfl fun a hF => ?_
      refine q_xg (v := (.int .i64 e_4)) hF hS (ex_loadE1 0 Try.underlying3 rfl rfl ((at5).at) rfl rfl) (wanted_t hF rfl rfl rfl hc2) rfl fun a hF => ?_
      refine q_xg (v := (.bool (e_4 != (-1)))) hF hS (ex_ibin rfl rfl rfl) (wanted_t hF rfl rfl rfl hc2) rfl fun a hF => ?_
      refine q_x (v := (.bool (e_4 != (-1)))) hF hS (ex_pick_f rfl rfl hc2) rfl rfl fun a hF => ?_
      refine q_end (n_jn ?_)
      obtain rfl := someI hj1
      exact ⟨hF.sub ⟨rfl, rfl, trivial⟩, hS⟩
    · have hj1 := cond_t hc2 hj1
      refine q_skip hF (wanted_f hF rfl rfl rfl hc2 rfl) rfl fun a hF => ?_
      refine q_skip hF (wanted_f hF rfl rfl rfl hc2 rfl) rfl fun a hF => ?_
      refine q_skip hF (wanted_f hF rfl rfl rfl hc2 rfl) rfl fun a hF => ?_
      refine q_skip hF (wanted_f hF rfl rfl rfl hc2 rfl) rfl fun a hF => ?_
      refine q_skip hF (wanted_f hF rfl rfl rfl hc2 rfl) rfl fun a hF => ?_
      refine q_x (v := (.bool true)) hF hS (ex_pick_t rfl rfl hc2) rfl rfl fun a hF => ?_
      refine q_end (n_jn ?_)
      obtain rfl := someI hj1
      exact ⟨hF.sub ⟨rfl, rfl, trivial⟩, hS⟩
  · rintro a w ⟨hF, hS⟩
    refine n_sq ?_
    rcases bcase (t_6) with hc3 | hc3
    · have hr := cond_f hc3 hr
      refine q_cond_f hF rfl hc3 ?_
      refine q_skipc (n_sq ?_)
      refine q_seq ?_
      refine q_seq ?_
      refine q_region ?_
      refine q_x (v := (.pointer (some ⟨b2, 0, none⟩))) hF hS (ex_fieldAddr Try.underlying89 rfl sz42 rfl rfl) rfl rfl fun a hF => ?_
      refine q_x (v := s1.v) hF hS (ex_load1 0 0 Try.underlying42 rfl rfl rfl rfl) rfl rfl fun a hF => ?_
      refine q_x (v := (.int .i64 (goLen p_g.Parents))) hF hS (ex_len Try.underlying42 rfl h1.len) rfl rfl fun a hF => ?_
      refine q_x (v := (.int .i64 0)) hF hS (ex_move rfl) rfl rfl fun a hF => ?_
      refine q_end (n_sq ?_)
      refine q_block ?_
      obtain ⟨o4, hl4, hr⟩ := bindS hr
      refine q_loop (fun (t_7 : Int) a w => Fr a 35 [(18, s1.v), (19, (.int .i64 (goLen p_g.Parents))), (20, (.int .i64 t_7))] ∧ St [] w0 w m []) (fun (o : (Unit) ⊕ (Bool)) e a w => o = .inl () ∧ e = .exit 0 ∧ Fr a 35 [] ∧ St [] w0 w m []) hl4 ⟨hF.sub ⟨rfl, rfl, rfl, trivial⟩, hS.mask [false]⟩ ?_ ?_
      · clear hF hS
        rintro t_7 a w st ⟨hF, hS⟩ hb4
        unfold spec_gGood_l1 at hb4
        refine q_seq ?_
        refine q_region ?_
        refine q_x (v := (.bool (decide (t_7 < (goLen p_g.Parents))))) hF hS (ex_ibin rfl rfl rfl) rfl rfl fun a hF => ?_
        refine q_end (n_sq ?_)
        refine q_seq ?_
        rcases bcase (decide (t_7 < (goLen p_g.Parents))) with hc5 | hc5
        · have hb4 := cond_f hc5 hb4
          refine q_cond_f hF rfl hc5 ?_
          refine q_exit (x_sq ?_)
          obtain rfl := someI hb4
          exact ⟨nofun, .inl ⟨rfl, rfl, hF.sub trivial, hS⟩⟩
        · have hb4 := cond_t hc5 hb4
          refine q_cond_t hF rfl hc5 ?_
          refine q_skipc (n_sq ?_)
          refine q_seq ?_
          refine q_block ?_
          refine q_seq ?_
          refine q_region ?_
          refine q_x (v := (.int .i64 t_7)) hF hS (ex_move rfl) rfl rfl fun a hF => ?_
          obtain ⟨e_8, he_8, hb4⟩ := bindS hb4
          obtain ⟨vs9, at9, d9⟩ := h1.at he_8 1 rfl
          obtain rfl : vs9 = [(.int .i64 e_8)] := d9
          refine q_x (v := (elP s1 (t_7.toNat * 1))) hF hS (ex_indexAddr Try.underlying42 sz3 rfl rfl (h1.idx he_8)) rfl rfl fun a hF => ?_
          refine q_x (v := (.int .i64 e_8)) hF hS (ex_loadE1 0 Try.underlying3 rfl rfl ((at9).at) rfl rfl) rfl rfl fun a hF => ?_
          refine q_x (v := (.int .i64 t_7)) hF hS (ex_assign rfl) rfl rfl fun a hF => ?_
          refine q_x (v := (.int .i64 e_8)) hF hS (ex_assign rfl) rfl rfl fun a hF => ?_
          refine q_end (n_sq ?_)
          refine q_seq ?_
          obtain ⟨t_11, hj6, hb4⟩ := bindS hb4
          refine q_join (fun a w => Fr a 35 [(18, s1.v), (19, (.int .i64 (goLen p_g.Parents))), (20, (.int .i64 t_7)), (33, (.bool t_11))] ∧ St [] w0 w m []) ?_ ?_
          · refine q_region ?_
            refine q_x (v := (.int .i64 t_7)) hF hS (ex_move rfl) rfl rfl fun a hF => ?_
            refine q_x (v := (.bool (decide (0 < t_7)))) hF hS (ex_ibin rfl rfl rfl) rfl rfl fun a hF => ?_
            refine q_x (v := (.bool (decide (0 < t_7)))) hF hS (ex_move rfl) rfl rfl fun a hF => ?_
            rcases bcase (decide (0 < t_7)) with hc7 | hc7
            · have hj6 := cond_f hc7 hj6
              refine q_skip hF (wanted_f hF rfl rfl rfl hc7 rfl) rfl fun a hF => ?_
              refine q_skip hF (wanted_f hF rfl rfl rfl hc7 rfl) rfl fun a hF => ?_
              refine q_skip hF (wanted_f hF rfl rfl rfl hc7 rfl) rfl fun a hF => ?_
              refine q_skip hF (wanted_f hF rfl rfl rfl hc7 rfl) rfl fun a hF => ?_
              refine q_skip hF (wanted_f hF rfl rfl rfl hc7 rfl) rfl fun a hF => ?_
              refine q_x (v := (.bool false)) hF hS (ex_pick_f rfl rfl hc7) rfl rfl fun a hF => ?_
              refine q_end (n_jn ?_)
              obtain rfl := someI hj6
              exact ⟨hF.sub ⟨rfl, rfl, rfl, rfl, trivial⟩, hS⟩
            · have hj6 := cond_t hc7 hj6
              refine q_xg (v := (.int .i64 e_8)) hF hS (ex_move rfl) (wanted_t hF rfl rfl rfl hc7) rfl fun a hF => ?_
              refine q_xg (v := (.int .i64 t_7)) hF hS (ex_move rfl) (wanted_t hF rfl rfl rfl hc7) rfl fun a hF => ?_
              refine q_xg (v := (.int .i64 (w64 (t_7 - 1)))) hF hS (ex_ibin rfl rfl rfl) (wanted_t hF rfl rfl rfl hc7) rfl fun a hF => ?_
              obtain ⟨t_10, ht_10, hj6⟩ := bindS hj6
              refine q_callg (vs := [(.int .i64 e_8), (.int .i64 0), (.int .i64 (w64 (t_7 - 1)))]) hF hS (wanted_t hF rfl rfl rfl hc7) Try.func104 (by kernel_rfl) rfl rfl rfl (c_spec_l1In e_8 0 (w64 (t_7 - 1)) t_10 ht_10 _ m hS.vis) ?_
              rintro a w _ rfl hF hS
              refine q_xg (v := (.bool (!t_10))) hF hS (ex_not rfl) (wanted_t hF rfl rfl rfl hc7) rfl fun a hF => ?_
              refine q_x (v := (.bool (!t_10))) hF hS (ex_pick_t rfl rfl hc7) rfl rfl fun a hF => ?_
              refine q_end (n_jn ?_)
              obtain rfl := someI hj6
              exact ⟨hF.sub ⟨rfl, rfl, rfl, rfl, trivial⟩, hS⟩
          · rintro a w ⟨hF, hS⟩
            refine n_sq ?_
            rcases bcase (t_11) with hc8 | hc8
            · have hb4 := cond_f hc8 hb4
              refine q_cond_f hF rfl hc8 ?_
              refine q_skipc (n_ib (n_sq ?_))
              refine q_region ?_
              refine q_x (v := (.int .i64 (w64 (t_7 + 1)))) hF hS (ex_ibin rfl rfl rfl) rfl rfl fun a hF => ?_
              refine q_x (v := (.int .i64 (w64 (t_7 + 1)))) hF hS (ex_move rfl) rfl rfl fun a hF => ?_
              refine q_end ?_
              obtain rfl := someI hb4
              exact ⟨rfl, hF.sub ⟨rfl, rfl, rfl, trivial⟩, hS⟩
            · have hb4 := cond_t hc8 hb4
              refine q_cond_t hF rfl hc8 ?_
              refine q_seq ?_
              refine q_region ?_
              refine q_x (v := (.bool false)) hF hS (ex_assign rfl) rfl rfl fun a hF => ?_
              refine q_end (n_sq (q_ret (r_ib (r_sq ?_))))
              obtain rfl := someI hb4
              refine ⟨nofun, .inr fun ho => ?_⟩
              subst ho
              refine r_ib (r_sq ?_)
              obtain rfl := someI hr
              exact ret_of hF hS rfl (.tmp rfl .nil) rfl
      · rintro e a w ⟨rfl, rfl, hF, hS⟩
        refine x_ib (n_sq ?_)
        refine q_seq ?_
        refine q_region ?_
        refine q_x (v := (.bool true)) hF hS (ex_assign rfl) rfl rfl fun a hF => ?_
        refine q_end (n_sq (q_ret ?_))
        obtain rfl := someI hr
        exact ret_of hF hS rfl (.tmp rfl .nil) rfl
    · have hr := cond_t hc3 hr
      refine q_cond_t hF rfl hc3 ?_
      refine q_seq ?_
      refine q_region ?_
      refine q_x (v := (.bool false)) hF hS (ex_assign rfl) rfl rfl fun a hF => ?_
      refine q_end (n_sq (q_ret (r_sq ?_)))
      obtain rfl := someI hr
      exact ret_of hF hS rfl (.tmp rfl .nil) rfl

theorem c_spec_gArea (p_g : impl_Geo) (p_i : Int) (r : Bool) (hr : spec_gArea p_g p_i = some r) (w0 : World) (m : Mem) (hv : Vis m w0) (s1 : Sl) (h1 : Rd m s1 p_g.Parents) :
    Ret Try.prog 147 [(.agg #[s1.v]), (.int .i64 p_i)] w0 (fun v _ => v = (.bool r)) := by
  unfold spec_gArea at hr
  refine ret_start Try.func147 rfl 15 rfl rfl m hv fun a hF hS => ?_
  refine q_seq ?_
  refine q_region ?_
  refine q_box (cs := [s1.v]) hF hS rfl rfl rfl fun a w b2 hF hS => ?_
  refine q_x (v := (.bool false)) hF hS (ex_assign rfl) rfl rfl fun a hF => ?_
  refine q_end (n_sq ?_)
  refine q_seq ?_
  obtain ⟨t_5, hj1, hr⟩ := bindS hr
  refine q_join (fun a w => Fr a 15 [(4, (.bool t_5))] ∧ St [] w0 w m []) ?_ ?_
  · refine q_region ?_
    refine q_x (v := (.agg #[s1.v])) hF hS (ex_loadA (vs := [s1.v]) 0 0 Try.underlying89 rfl sz89 rfl rfl rfl rfl) rfl rfl fun a hF => ?_
    obtain ⟨t_3, ht_3, hj1⟩ := bindS hj1
    refine q_call (vs := [(.agg #[s1.v])]) hF hS Try.func154 (by kernel_rfl) rfl rfl rfl (c_spec_gGood p_g t_3 ht_3 _ m hS.vis s1 h1) ?_
    rintro a w _ rfl hF hS
    refine q_x (v := (.bool t_3)) hF hS (ex_move rfl) rfl rfl fun a hF => ?_
    rcases bcase (t_3) with hc2 | hc2
    · have hj1 := cond_f hc2 hj1
      refine q_skip hF (wanted_f hF rfl rfl rfl hc2 rfl) rfl fun a hF => ?_
      refine q_skip hF (wanted_f hF rfl rfl rfl hc2 rfl) rfl fun a hF => ?_
      refine q_skip hF (wanted_f hF rfl rfl rfl hc2 rfl) rfl fun a hF => ?_
      refine q_skip hF (wanted_f hF rfl rfl rfl hc2 rfl) rfl fun a hF => ?_
      refine q_skip hF (wanted_f hF rfl rfl rfl hc2 rfl) rfl fun a hF => ?_
      refine q_skip hF (wanted_f hF rfl rfl rfl hc2 rfl) rfl fun a hF => ?_
      refine q_x (v := (.bool false)) hF hS (ex_pick_f rfl rfl hc2) rfl rfl fun a hF => ?_
      refine q_x (v := (.bool false)) hF hS (ex_assign rfl) rfl rfl fun a hF => ?_
      refine q_end (n_jn ?_)
      obtain rfl := someI hj1
      exact ⟨hF.sub ⟨rfl, trivial⟩, hS.mask [false]⟩
    · have hj1 := cond_t hc2 hj1
      refine q_xg (v := (.int .i64 p_i)) hF hS (ex_move rfl) (wanted_t hF rfl rfl rfl hc2) rfl fun a hF => ?_
      refine q_xg (v := (.pointer (some ⟨b2, 0, none⟩))) hF hS (ex_fieldAddr Try.underlying89 rfl sz42 rfl rfl) (wanted_t hF rfl rfl rfl hc2) rfl fun a hF => ?_
      refine q_xg (v := s1.v) hF hS (ex_load1 0 0 Try.underlying42 rfl rfl rfl rfl) (wanted_t hF rfl rfl rfl hc2) rfl fun a hF => ?_
      refine q_xg (v := (.int .i64 (goLen p_g.Parents))) hF hS (ex_len Try.underlying42 rfl h1.len) (wanted_t hF rfl rfl rfl hc2) rfl fun a hF => ?_
      refine q_xg (v := (.int .i64 (w64 ((goLen p_g.Parents) - 1)))) hF hS (ex_ibin rfl rfl rfl) (wanted_t hF rfl rfl rfl hc2) rfl fun a hF => ?_
      obtain ⟨t_4, ht_4, hj1⟩ := bindS hj1
      refine q_callg (vs := [(.int .i64 p_i), (.int .i64 0), (.int .i64 (w64 ((goLen p_g.Parents) - 1)))]) hF hS (wanted_t hF rfl rfl rfl hc2) Try.func104 (by kernel_rfl) rfl rfl rfl (c_spec_l1In p_i 0 (w64 ((goLen p_g.Parents) - 1)) t_4 ht_4 _ m hS.vis) ?_
      rintro a w _ rfl hF hS
      refine q_x (v := (.bool t_4)) hF hS (ex_pick_t rfl rfl hc2) rfl rfl fun a hF => ?_
      refine q_x (v := (.bool t_4)) hF hS (ex_assign rfl) rfl rfl fun a hF => ?_
      refine q_end (n_jn ?_)
      obtain rfl := someI hj1
      exact ⟨hF.sub ⟨rfl, trivial⟩, hS.mask [false]⟩
  · rintro a w ⟨hF, hS⟩
    refine n_sq (q_ret ?_)
    obtain rfl := someI hr
    exact ret_of hF hS rfl (.tmp rfl .nil) rfl

theorem c_spec_gPath (p_g : impl_Geo) (p_i : Int) (r : (List Int)) (hr : spec_gPath p_g p_i = some r) (w0 : World) (m : Mem) (hv : Vis m w0) (s1 : Sl) (h1 : Rd m s1 p_g.Parents) :
    Ret Try.prog 148 [(.agg #[s1.v]), (.int .i64 p_i)] w0 (fun v w => ∃ (q0' : Piece) (s0' : Sl), v = s0'.v ∧ St [] w0 w m [q0'] ∧ OwnL m 3 q0' s0' r) := by
  unfold spec_gPath at hr
  refine ret_start Try.func148 rfl 18 rfl rfl m hv fun a hF hS => ?_
  refine q_seq ?_
  refine q_region ?_
  refine q_box (cs := [s1.v]) hF hS rfl rfl rfl fun a w b2 hF hS => ?_
  refine q_x (v := nilS.v) hF hS (ex_assign rfl) rfl rfl fun a hF => ?_
  refine q_end (n_sq ?_)
  refine q_seq ?_
  refine q_region ?_
  refine q_x (v := nilS.v) hF hS (ex_assign rfl) rfl rfl fun a hF => ?_
  refine q_end (n_sq ?_)
  refine q_seq ?_
  refine q_block ?_
  obtain ⟨out_11, hl1, hr⟩ := bindS hr
  refine q_loop (fun (s : Int × (List Int)) a w => ∃ (q5 : Piece), ∃ (s5 : Sl), ∃ i_3, ∃ out_4, s = (i_3, out_4) ∧ Fr a 18 [(1, (.int .i64 i_3)), (2, (.pointer (some ⟨b2, 0, none⟩))), (5, s5.v)] ∧ St [] w0 w m [q5, [⟨b2, [s1.v], 89⟩]] ∧ OwnL m 3 q5 s5 out_4) (fun (out_11 : (List Int)) e a w => ∃ (q12 : Piece), ∃ (s12 : Sl), e = .exit 0 ∧ Fr a 18 [(5, s12.v)] ∧ St [] w0 w m [q12] ∧ OwnL m 3 q12 s12 out_11) hl1 ⟨[], nilS, _, _, rfl, hF.sub ⟨rfl, rfl, rfl, trivial⟩, hS.sel [1, 0] (by decide), (OwnL.nil (α := Int) m 3)⟩ ?_ ?_
  · clear hF hS
    rintro s a w st ⟨q5, s5, i_3, out_4, rfl, hF, hS, h5⟩ hb1
    unfold spec_gPath_l1 at hb1
    refine q_seq ?_
    refine q_seq ?_
    refine q_region ?_
    refine q_x (v := (.int .i64 i_3)) hF hS (ex_move rfl) rfl rfl fun a hF => ?_
    refine q_x (v := (.bool (decide (0 ≤ i_3)))) hF hS (ex_ibin rfl rfl rfl) rfl rfl fun a hF => ?_
    refine q_end (n_sq ?_)
    rcases bcase (decide (0 ≤ i_3)) with hc2 | hc2
    · have hb1 := cond_f hc2 hb1
      refine q_cond_f hF rfl hc2 ?_
      refine q_exit (x_sq ?_)
      obtain rfl := someI hb1
      exact ⟨nofun, .inl ⟨q5, s5, rfl, hF.sub ⟨rfl, trivial⟩, hS.mask [true, false], h5⟩⟩
    · have hb1 := cond_t hc2 hb1
      refine q_cond_t hF rfl hc2 ?_
      refine q_skipc (n_sq ?_)
      refine q_seq ?_
      refine q_block ?_
      refine q_region ?_
      refine q_x (v := (.int .i64 i_3)) hF hS (ex_move rfl) rfl rfl fun a hF => ?_
      refine q_do rfl fun _ hK => wp_buildSlice' (l := ([i_3] : List Int)) (cells := [(.int .i64 i_3)]) hF hS Try.underlying42 inf3 rfl rfl (by kernel_rfl) rfl rfl rfl ⟨rfl, rfl⟩ rfl rfl fun a w q6 s6 hF hS h6 _ => hK _ _ ?_
      refine q_x (v := s5.v) hF hS (ex_move rfl) rfl rfl fun a hF => ?_
      obtain ⟨l_7, hl_7, hb1⟩ := bindS hb1
      refine q_do rfl fun _ hK => wp_append hF hS h6 Try.underlying42 inf3 rfl rfl rfl rfl (h5.vw hS (j := 1) rfl) rfl (by decide) hl_7 rfl fun a w q8 s8 hF hS h8 => hK _ _ ?_
      refine q_x (v := s8.v) hF hS (ex_assign rfl) rfl rfl fun a hF => ?_
      refine q_end (n_ib (n_sq ?_))
      refine q_region ?_
      refine q_x (v := (.pointer (some ⟨b2, 0, none⟩))) hF hS (ex_fieldAddr Try.underlying89 rfl sz42 rfl rfl) rfl rfl fun a hF => ?_
      refine q_x (v := s1.v) hF hS (ex_load1 2 0 Try.underlying42 rfl rfl rfl rfl) rfl rfl fun a hF => ?_
      refine q_x (v := (.int .i64 i_3)) hF hS (ex_move rfl) rfl rfl fun a hF => ?_
      obtain ⟨e_9, he_9, hb1⟩ := bindS hb1
      obtain ⟨vs10, at10, d10⟩ := h1.at he_9 1 rfl
      obtain rfl : vs10 = [(.int .i64 e_9)] := d10
      refine q_x (v := (elP s1 (i_3.toNat * 1))) hF hS (ex_indexAddr Try.underlying42 sz3 rfl rfl (h1.idx he_9)) rfl rfl fun a hF => ?_
      refine q_x (v := (.int .i64 e_9)) hF hS (ex_loadE1 0 Try.underlying3 rfl rfl ((at10).at) rfl rfl) rfl rfl fun a hF => ?_
      refine q_x (v := (.int .i64 e_9)) hF hS (ex_assign rfl) rfl rfl fun a hF => ?_
      refine q_end ?_
      obtain rfl := someI hb1
      exact ⟨rfl, q8, s8, _, _, rfl, hF.sub ⟨rfl, rfl, rfl, trivial⟩, hS.mask [true, false, true], h8⟩
  · rintro e a w ⟨q12, s12, rfl, hF, hS, h12⟩
    refine x_ib (n_sq ?_)
    refine q_seq ?_
    refine q_region ?_
    refine q_x (v := s12.v) hF hS (ex_move rfl) rfl rfl fun a hF => ?_
    refine q_x (v := s12.v) hF hS (ex_assign rfl) rfl rfl fun a hF => ?_
    refine q_end (n_sq (q_ret ?_))
    obtain rfl := someI hr
    exact ret_of hF hS rfl (.tmp rfl .nil) ⟨q12, s12, rfl, hS.sel [0] (by decide), h12⟩

theorem c_spec_PathTo (p_g : impl_Geo) (p_i : Int) (r : (List Int) × Bool) (hr : spec_PathTo p_g p_i = some r) (w0 : World) (m : Mem) (hv : Vis m w0) (s1 : Sl) (h1 : Rd m s1 p_g.Parents) :
    Ret Try.prog 69 [(.agg #[s1.v]), (.int .i64 p_i)] w0 (fun v w => ∃ (q0' : Piece) (s0' : Sl), v = (.tuple #[s0'.v, (.bool r.2)]) ∧ St [] w0 w m [q0'] ∧ OwnL m 3 q0' s0' r.1) := by
  unfold spec_PathTo at hr
  refine ret_start Try.func69 rfl 13 rfl rfl m hv fun a hF hS => ?_
  refine q_seq ?_
  refine q_region ?_
  refine q_box (cs := [s1.v]) hF hS rfl rfl rfl fun a w b2 hF hS => ?_
  refine q_x (v := nilS.v) hF hS (ex_assign rfl) rfl rfl fun a hF => ?_
  refine q_x (v := (.bool false)) hF hS (ex_assign rfl) rfl rfl fun a hF => ?_
  refine q_end (n_sq ?_)
  refine q_seq ?_
  refine q_seq ?_
  refine q_region ?_
  refine q_x (v := (.agg #[s1.v])) hF hS (ex_loadA (vs := [s1.v]) 0 0 Try.underlying89 rfl sz89 rfl rfl rfl rfl) rfl rfl fun a hF => ?_
  refine q_x (v := (.int .i64 p_i)) hF hS (ex_move rfl) rfl rfl fun a hF => ?_
  obtain ⟨t_3, ht_3, hr⟩ := bindS hr
  refine q_call (vs := [(.agg #[s1.v]), (.int .i64 p_i)]) hF hS Try.func147 (by kernel_rfl) rfl rfl rfl (c_spec_gArea p_g p_i t_3 ht_3 _ m hS.vis s1 h1) ?_
  rintro a w _ rfl hF hS
  refine q_x (v := (.bool (!t_3))) hF hS (ex_not rfl) rfl rfl fun a hF => ?_
  refine q_end (n_sq ?_)
  rcases bcase (!t_3) with hc1 | hc1
  · have hr := cond_f hc1 hr
    refine q_cond_f hF rfl hc1 ?_
    refine q_skipc (n_sq ?_)
    refine q_seq ?_
    refine q_region ?_
    refine q_x (v := (.agg #[s1.v])) hF hS (ex_loadA (vs := [s1.v]) 0 0 Try.underlying89 rfl sz89 rfl rfl rfl rfl) rfl rfl fun a hF => ?_
    refine q_x (v := (.int .i64 p_i)) hF hS (ex_move rfl) rfl rfl fun a hF => ?_
    obtain ⟨t_4, ht_4, hr⟩ := bindS hr
    refine q_call (vs := [(.agg #[s1.v]), (.int .i64 p_i)]) hF hS Try.func148 (by kernel_rfl) rfl rfl rfl (c_spec_gPath p_g p_i t_4 ht_4 _ m hS.vis s1 h1) ?_
    rintro a w _ ⟨q6, s6, rfl, hR5, h6⟩ hF hS2
    have hS : St _ _ _ _ [q6, [⟨b2, [s1.v], 89⟩]] := hS.joinF hR5
    refine q_x (v := s6.v) hF hS (ex_assign rfl) rfl rfl fun a hF => ?_
    refine q_x (v := (.bool true)) hF hS (ex_assign rfl) rfl rfl fun a hF => ?_
    refine q_end (n_sq (q_ret ?_))
    obtain rfl := someI hr
    exact ret_of hF hS rfl (.tmp rfl (.tmp rfl .nil)) ⟨q6, s6, rfl, hS.sel [0] (by decide), h6⟩
  · have hr := cond_t hc1 hr
    refine q_cond_t hF rfl hc1 ?_
    refine q_seq ?_
    refine q_region ?_
    refine q_x (v := nilS.v) hF hS (ex_assign rfl) rfl rfl fun a hF => ?_
    refine q_x (v := (.bool false)) hF hS (ex_assign rfl) rfl rfl fun a hF => ?_
    refine q_end (n_sq (q_ret (r_sq ?_)))
    obtain rfl := someI hr
    exact ret_of hF hS rfl (.tmp rfl (.tmp rfl .nil)) ⟨[], nilS, rfl, hS.sel [1] (by decide), (OwnL.nil (α := Int) m 3)⟩

theorem c_laws_sameInts (p_a : List Int) (p_b : List Int) (r : Bool) (hr : laws_sameInts p_a p_b = some r) (w0 : World) (m : Mem) (hv : Vis m w0) (s1 : Sl) (h1 : Rd m s1 p_a) (s2 : Sl) (h2 : Rd m s2 p_b) :
    Ret Try.prog 70 [s1.v, s2.v] w0 (fun v _ => v = (.bool r)) := by
  unfold laws_sameInts at hr
  refine ret_start Try.func70 rfl 26 rfl rfl m hv fun a hF hS => ?_
  refine q_seq ?_
  refine q_region ?_
  refine q_x (v := (.bool false)) hF hS (ex_assign rfl) rfl rfl fun a hF => ?_
  refine q_end (n_sq ?_)
  refine q_seq ?_
  refine q_seq ?_
  refine q_region ?_
  refine q_x (v := s1.v) hF hS (ex_move rfl) rfl rfl fun a hF => ?_
  refine q_x (v := (.int .i64 (goLen p_a))) hF hS (ex_len Try.underlying42 rfl h1.len) rfl rfl fun a hF => ?_
  refine q_x (v := s2.v) hF hS (ex_move rfl) rfl rfl fun a hF => ?_
  refine q_x (v := (.int .i64 (goLen p_b))) hF hS (ex_len Try.underlying42 rfl h2.len) rfl rfl fun a hF => ?_
  refine q_x (v := (.bool ((goLen p_a) != (goLen p_b)))) hF hS (ex_ibin rfl rfl rfl) rfl rfl fun a hF => ?_
  refine q_end (n_sq ?_)
  rcases bcase ((goLen p_a) != (goLen p_b)) with hc1 | hc1
  · have hr := cond_f hc1 hr
    refine q_cond_f hF rfl hc1 ?_
    refine q_skipc (n_sq ?_)
    refine q_seq ?_
    refine q_seq ?_
    refine q_region ?_
    refine q_x (v := s1.v) hF hS (ex_move rfl) rfl rfl fun a hF => ?_
    refine q_x (v := (.int .i64 (goLen p_a))) hF hS (ex_len Try.underlying42 rfl h1.len) rfl rfl fun a hF => ?_
    refine q_x (v := (.int .i64 0)) hF hS (ex_move rfl) rfl rfl fun a hF => ?_
    refine q_end (n_sq ?_)
    refine q_block ?_
    obtain ⟨o2, hl2, hr⟩ := bindS hr
    refine q_loop (fun (t_3 : Int) a w => Fr a 26 [(0, s1.v), (1, s2.v), (12, (.int .i64 (goLen p_a))), (13, (.int .i64 t_3))] ∧ St [] w0 w m []) (fun (o : (Unit) ⊕ (Bool)) e a w => o = .inl () ∧ e = .exit 0 ∧ Fr a 26 [] ∧ St [] w0 w m []) hl2 ⟨hF.sub ⟨rfl, rfl, rfl, rfl, trivial⟩, hS⟩ ?_ ?_
    · clear hF hS
      rintro t_3 a w st ⟨hF, hS⟩ hb2
      unfold laws_sameInts_l1 at hb2
      refine q_seq ?_
      refine q_region ?_
      refine q_x (v := (.bool (decide (t_3 < (goLen p_a))))) hF hS (ex_ibin rfl rfl rfl) rfl rfl fun a hF => ?_
      refine q_end (n_sq ?_)
      refine q_seq ?_
      rcases bcase (decide (t_3 < (goLen p_a))) with hc3 | hc3
      · have hb2 := cond_f hc3 hb2
        refine q_cond_f hF rfl hc3 ?_
        refine q_exit (x_sq ?_)
        obtain rfl := someI hb2
        exact ⟨nofun, .inl ⟨rfl, rfl, hF.sub trivial, hS⟩⟩
      · have hb2 := cond_t hc3 hb2
        refine q_cond_t hF rfl hc3 ?_
        refine q_skipc (n_sq ?_)
        refine q_seq ?_
        refine q_block ?_
        refine q_seq ?_
        refine q_region ?_
        refine q_x (v := (.int .i64 t_3)) hF hS (ex_move rfl) rfl rfl fun a hF => ?_
        refine q_x (v := (.int .i64 t_3)) hF hS (ex_assign rfl) rfl rfl fun a hF => ?_
        refine q_end (n_sq ?_)
        refine q_seq ?_
        refine e_region [] mixed fun w' hw' => ?_
        have hS := hS.below hw'
        refine e_p (v := s1.v) 0 hF rfl (ex_move rfl) rfl rfl (by kernel_rfl) (by kernel_rfl) (by kernel_rfl) fun a hF => ?_
        refine e_p (v := (.int .i64 t_3)) 1 hF rfl (ex_move rfl) rfl rfl (by kernel_rfl) (by kernel_rfl) (by kernel_rfl) fun a hF => ?_
        obtain ⟨e_4, he_4, hb2⟩ := bindS hb2
        obtain ⟨vs5, at5, d5⟩ := h1.at he_4 1 rfl
        obtain rfl : vs5 = [(.int .i64 e_4)] := d5
        refine e_p (v := (elP s1 (t_3.toNat * 1))) 2 hF rfl (ex_indexAddr Try.underlying42 sz3 rfl rfl (h1.idx he_4)) rfl rfl (by kernel_rfl) (by kernel_rfl) (by kernel_rfl) fun a hF => ?_
        refine e_x (v := (.int .i64 e_4)) 3 hF hS rfl (ex_loadE1 0 Try.underlying3 rfl rfl ((at5).at) rfl rfl) rfl rfl (by kernel_rfl) (by kernel_rfl) (by kernel_rfl) (by kernel_rfl) fun a hF => ?_
        refine e_p (v := s2.v) 4 hF rfl (ex_move rfl) rfl rfl (by kernel_rfl) (by kernel_rfl) (by kernel_rfl) fun a hF => ?_
        refine e_p (v := (.int .i64 t_3)) 5 hF rfl (ex_move rfl) rfl rfl (by kernel_rfl) (by kernel_rfl) (by kernel_rfl) fun a hF => ?_
        obtain ⟨e_6, he_6, hb2⟩ := bindS hb2
        obtain ⟨vs7, at7, d7⟩ := h2.at he_6 1 rfl
        obtain rfl : vs7 = [(.int .i64 e_6)] := d7
        refine e_p (v := (elP s2 (t_3.toNat * 1))) 6 hF rfl (ex_indexAddr Try.underlying42 sz3 rfl rfl (h2.idx he_6)) rfl rfl (by kernel_rfl) (by kernel_rfl) (by kernel_rfl) fun a hF => ?_
        refine e_x (v := (.int .i64 e_6)) 7 hF hS rfl (ex_loadE1 0 Try.underlying3 rfl rfl ((at7).at) rfl rfl) rfl rfl (by kernel_rfl) (by kernel_rfl) (by kernel_rfl) (by kernel_rfl) fun a hF => ?_
        refine e_p (v := (.bool (e_4 != e_6))) 8 hF rfl (ex_ibin rfl rfl rfl) rfl rfl (by kernel_rfl) (by kernel_rfl) (by kernel_rfl) fun a hF => ?_
        refine e_end (by kernel_rfl) (n_sq ?_) _
        rcases bcase (e_4 != e_6) with hc4 | hc4
        · have hb2 := cond_f hc4 hb2
          refine q_cond_f hF rfl hc4 ?_
          refine q_skipc (n_ib (n_sq ?_))
          refine q_region ?_
          refine q_x (v := (.int .i64 (w64 (t_3 + 1)))) hF hS (ex_ibin rfl rfl rfl) rfl rfl fun a hF => ?_
          refine q_x (v := (.int .i64 (w64 (t_3 + 1)))) hF hS (ex_move rfl) rfl rfl fun a hF => ?_
          refine q_end ?_
          obtain rfl := someI hb2
          exact ⟨rfl, hF.sub ⟨rfl, rfl, rfl, rfl, trivial⟩, hS⟩
        · have hb2 := cond_t hc4 hb2
          refine q_cond_t hF rfl hc4 ?_
          refine q_seq ?_
          refine q_region ?_
          refine q_x (v := (.bool false)) hF hS (ex_assign rfl) rfl rfl fun a hF => ?_
          refine q_end (n_sq (q_ret (r_ib (r_sq ?_))))
          obtain rfl := someI hb2
          refine ⟨nofun, .inr fun ho => ?_⟩
          subst ho
          refine r_ib (r_sq ?_)
          obtain rfl := someI hr
          exact ret_of hF hS rfl (.tmp rfl .nil) rfl
    · rintro e a w ⟨rfl, rfl, hF, hS⟩
      refine x_ib (n_sq ?_)
      refine q_seq ?_
      refine q_region ?_
      refine q_x (v := (.bool true)) hF hS (ex_assign rfl) rfl rfl fun a hF => ?_
      refine q_end (n_sq (q_ret ?_))
      obtain rfl := someI hr
      exact ret_of hF hS rfl (.tmp rfl .nil) rfl
  · have hr := cond_t hc1 hr
    refine q_cond_t hF rfl hc1 ?_
    refine q_seq ?_
    refine q_region ?_
    refine q_x (v := (.bool false)) hF hS (ex_assign rfl) rfl rfl fun a hF => ?_
    refine q_end (n_sq (q_ret (r_sq ?_)))
    obtain rfl := someI hr
    exact ret_of hF hS rfl (.tmp rfl .nil) rfl

theorem c_impl_depthOf (p_g : impl_Geo) (p_i : Int) (r : Int) (hr : impl_depthOf p_g p_i = some r) (w0 : World) (m : Mem) (hv : Vis m w0) (s1 : Sl) (h1 : Rd m s1 p_g.Parents) :
    Ret Try.prog 150 [(.agg #[s1.v]), (.int .i64 p_i)] w0 (fun v _ => v = (.int .i64 r)) := by
  unfold impl_depthOf at hr
  refine ret_start Try.func150 rfl 16 rfl rfl m hv fun a hF hS => ?_
  refine q_seq ?_
  refine q_region ?_
  refine q_box (cs := [s1.v]) hF hS rfl rfl rfl fun a w b2 hF hS => ?_
  refine q_x (v := (.int .i64 0)) hF hS (ex_assign rfl) rfl rfl fun a hF => ?_
  refine q_end (n_sq ?_)
  refine q_seq ?_
  refine q_region ?_
  refine q_x (v := (.int .i64 0)) hF hS (ex_assign rfl) rfl rfl fun a hF => ?_
  refine q_end (n_sq ?_)
  refine q_seq ?_
  refine q_block ?_
  obtain ⟨d_7, hl1, hr⟩ := bindS hr
  refine q_loop (fun (s : Int × Int) a w => ∃ i_3, ∃ d_4, s = (i_3, d_4) ∧ Fr a 16 [(1, (.int .i64 i_3)), (2, (.pointer (some ⟨b2, 0, none⟩))), (5, (.int .i64 d_4))] ∧ St [] w0 w m [[⟨b2, [s1.v], 89⟩]]) (fun (d_7 : Int) e a w => e = .exit 0 ∧ Fr a 16 [(5, (.int .i64 d_7))] ∧ St [] w0 w m []) hl1 ⟨_, _, rfl, hF.sub ⟨rfl, rfl, rfl, trivial⟩, hS⟩ ?_ ?_
  · clear hF hS
    rintro s a w st ⟨i_3, d_4, rfl, hF, hS⟩ hb1
    unfold impl_depthOf_l1 at hb1
    refine q_seq ?_
    refine q_seq ?_
    refine q_region ?_
    refine q_x (v := (.int .i64 i_3)) hF hS (ex_move rfl) rfl rfl fun a hF => ?_
    refine q_x (v := (.bool (decide (0 < i_3)))) hF hS (ex_ibin rfl rfl rfl) rfl rfl fun a hF => ?_
    refine q_end (n_sq ?_)
    rcases bcase (decide (0 < i_3)) with hc2 | hc2
    · have hb1 := cond_f hc2 hb1
      refine q_cond_f hF rfl hc2 ?_
      refine q_exit (x_sq ?_)
      obtain rfl := someI hb1
      exact ⟨nofun, .inl ⟨rfl, hF.sub ⟨rfl, trivial⟩, hS.mask [false]⟩⟩
    · have hb1 := cond_t hc2 hb1
      refine q_cond_t hF rfl hc2 ?_
      refine q_skipc (n_sq ?_)
      refine q_block ?_
      refine q_seq ?_
      refine q_region ?_
      refine q_x (v := (.pointer (some ⟨b2, 0, none⟩))) hF hS (ex_fieldAddr Try.underlying89 rfl sz42 rfl rfl) rfl rfl fun a hF => ?_
      refine q_x (v := s1.v) hF hS (ex_load1 0 0 Try.underlying42 rfl rfl rfl rfl) rfl rfl fun a hF => ?_
      refine q_x (v := (.int .i64 i_3)) hF hS (ex_move rfl) rfl rfl fun a hF => ?_
      obtain ⟨e_5, he_5, hb1⟩ := bindS hb1
      obtain ⟨vs6, at6, d6⟩ := h1.at he_5 1 rfl
      obtain rfl : vs6 = [(.int .i64 e_5)] := d6
      refine q_x (v := (elP s1 (i_3.toNat * 1))) hF hS (ex_indexAddr Try.underlying42 sz3 rfl rfl (h1.idx he_5)) rfl rfl fun a hF => ?_
      refine q_x (v := (.int .i64 e_5)) hF hS (ex_loadE1 0 Try.underlying3 rfl rfl ((at6).at) rfl rfl) rfl rfl fun a hF => ?_
      refine q_x (v := (.int .i64 e_5)) hF hS (ex_assign rfl) rfl rfl fun a hF => ?_
      refine q_end (n_sq ?_)
      refine q_region ?_
      refine q_x (v := (.int .i64 d_4)) hF hS (ex_move rfl) rfl rfl fun a hF => ?_
      refine q_x (v := (.int .i64 (w64 (d_4 + 1)))) hF hS (ex_ibin rfl rfl rfl) rfl rfl fun a hF => ?_
      refine q_x (v := (.int .i64 (w64 (d_4 + 1)))) hF hS (ex_assign rfl) rfl rfl fun a hF => ?_
      refine q_end (n_ib ?_)
      obtain rfl := someI hb1
      exact ⟨rfl, _, _, rfl, hF.sub ⟨rfl, rfl, rfl, trivial⟩, hS⟩
  · rintro e a w ⟨rfl, hF, hS⟩
    refine x_ib (n_sq ?_)
    refine q_seq ?_
    refine q_region ?_
    refine q_x (v := (.int .i64 d_7)) hF hS (ex_move rfl) rfl rfl fun a hF => ?_
    refine q_x (v := (.int .i64 d_7)) hF hS (ex_assign rfl) rfl rfl fun a hF => ?_
    refine q_end (n_sq (q_ret ?_))
    obtain rfl := someI hr
    exact ret_of hF hS rfl (.tmp rfl .nil) rfl

theorem c_impl_ancestorAt (p_g : impl_Geo) (p_i : Int) (p_level : Int) (r : Int) (hr : impl_ancestorAt p_g p_i p_level = some r) (w0 : World) (m : Mem) (hv : Vis m w0) (s1 : Sl) (h1 : Rd m s1 p_g.Parents) :
    Ret Try.prog 149 [(.agg #[s1.v]), (.int .i64 p_i), (.int .i64 p_level)] w0 (fun v _ => v = (.int .i64 r)) := by
  unfold impl_ancestorAt at hr
  refine ret_start Try.func149 rfl 29 rfl rfl m hv fun a hF hS => ?_
  refine q_seq ?_
  refine q_region ?_
  refine q_box (cs := [s1.v]) hF hS rfl rfl rfl fun a w b2 hF hS => ?_
  refine q_x (v := (.int .i64 0)) hF hS (ex_assign rfl) rfl rfl fun a hF => ?_
  refine q_end (n_sq ?_)
  refine q_seq ?_
  refine q_region ?_
  refine q_x (v := (.agg #[s1.v])) hF hS (ex_loadA (vs := [s1.v]) 0 0 Try.underlying89 rfl sz89 rfl rfl rfl rfl) rfl rfl fun a hF => ?_
  refine q_x (v := (.int .i64 p_i)) hF hS (ex_move rfl) rfl rfl fun a hF => ?_
  obtain ⟨t_3, ht_3, hr⟩ := bindS hr
  refine q_call (vs := [(.agg #[s1.v]), (.int .i64 p_i)]) hF hS Try.func150 (by kernel_rfl) rfl rfl rfl (c_impl_depthOf p_g p_i t_3 ht_3 _ m hS.vis s1 h1) ?_
  rintro a w _ rfl hF hS
  refine q_x (v := (.int .i64 t_3)) hF hS (ex_assign rfl) rfl rfl fun a hF => ?_
  refine q_end (n_sq ?_)
  refine q_seq ?_
  refine q_seq ?_
  obtain ⟨t_4, hj1, hr⟩ := bindS hr
  refine q_join (fun a w => Fr a 29 [(1, (.int .i64 p_i)), (2, (.int .i64 p_level)), (3, (.pointer (some ⟨b2, 0, none⟩))), (7, (.int .i64 t_3)), (17, (.bool t_4))] ∧ St [] w0 w m [[⟨b2, [s1.v], 89⟩]]) ?_ ?_
  · refine q_region ?_
    refine q_x (v := (.int .i64 p_level)) hF hS (ex_move rfl) rfl rfl fun a hF => ?_
    refine q_x (v := (.bool (decide (p_level < 0)))) hF hS (ex_ibin rfl rfl rfl) rfl rfl fun a hF => ?_
    refine q_x (v := (.bool (decide (p_level < 0)))) hF hS (ex_move rfl) rfl rfl fun a hF => ?_
    rcases bcase (decide (p_level < 0)) with hc2 | hc2
    · have hj1 := cond_f hc2 hj1
      refine q_xg (v := (.int .i64 t_3)) hF hS (ex_move rfl) (wanted_t hF rfl rfl rfl hc2) rfl fun a hF => ?_
      refine q_xg (v := (.int .i64 p_level)) hF hS (ex_move rfl) (wanted_t hF rfl rfl rfl hc2) rfl fun a hF => ?_
      refine q_xg (v := (.bool (decide (t_3 < p_level)))) hF hS (ex_ibin rfl rfl rfl) (wanted_t hF rfl rfl rfl hc2) rfl fun a hF => ?_
      refine q_x (v := (.bool (decide (t_3 < p_level)))) hF hS (ex_pick_f rfl rfl hc2) rfl rfl fun a hF => ?_
      refine q_end (n_jn ?_)
      obtain rfl := someI hj1
      exact ⟨hF.sub ⟨rfl, rfl, rfl, rfl, rfl, trivial⟩, hS⟩
    · have hj1 := cond_t hc2 hj1
      refine q_skip hF (wanted_f hF rfl rfl rfl hc2 rfl) rfl fun a hF => ?_
      refine q_skip hF (wanted_f hF rfl rfl rfl hc2 rfl) rfl fun a hF => ?_
      refine q_skip hF (wanted_f hF rfl rfl rfl hc2 rfl) rfl fun a hF => ?_
      refine q_x (v := (.bool true)) hF hS (ex_pick_t rfl rfl hc2) rfl rfl fun a hF => ?_
      refine q_end (n_jn ?_)
      obtain rfl := someI hj1
      exact ⟨hF.sub ⟨rfl, rfl, rfl, rfl, rfl, trivial⟩, hS⟩
  · rintro a w ⟨hF, hS⟩
    refine n_sq ?_
    rcases bcase (t_4) with hc3 | hc3
    · have hr := cond_f hc3 hr
      refine q_cond_f hF rfl hc3 ?_
      refine q_skipc (n_sq ?_)
      refine q_seq ?_
      refine q_block ?_
      obtain ⟨i_9, hl4, hr⟩ := bindS hr
      refine q_loop (fun (s : Int × Int) a w => ∃ i_5, ∃ d_6, s = (i_5, d_6) ∧ Fr a 29 [(1, (.int .i64 i_5)), (2, (.int .i64 p_level)), (3, (.pointer (some ⟨b2, 0, none⟩))), (7, (.int .i64 d_6))] ∧ St [] w0 w m [[⟨b2, [s1.v], 89⟩]]) (fun (i_9 : Int) e a w => e = .exit 0 ∧ Fr a 29 [(1, (.int .i64 i_9))] ∧ St [] w0 w m []) hl4 ⟨_, _, rfl, hF.sub ⟨rfl, rfl, rfl, rfl, trivial⟩, hS⟩ ?_ ?_
      · clear hF hS
        rintro s a w st ⟨i_5, d_6, rfl, hF, hS⟩ hb4
        unfold impl_ancestorAt_l1 at hb4
        refine q_seq ?_
        refine q_seq ?_
        refine q_region ?_
        refine q_x (v := (.int .i64 d_6)) hF hS (ex_move rfl) rfl rfl fun a hF => ?_
        refine q_x (v := (.int .i64 p_level)) hF hS (ex_move rfl) rfl rfl fun a hF => ?_
        refine q_x (v := (.bool (decide (p_level < d_6)))) hF hS (ex_ibin rfl rfl rfl) rfl rfl fun a hF => ?_
        refine q_end (n_sq ?_)
        rcases bcase (decide (p_level < d_6)) with hc5 | hc5
        · have hb4 := cond_f hc5 hb4
          refine q_cond_f hF rfl hc5 ?_
          refine q_exit (x_sq ?_)
          obtain rfl := someI hb4
          exact ⟨nofun, .inl ⟨rfl, hF.sub ⟨rfl, trivial⟩, hS.mask [false]⟩⟩
        · have hb4 := cond_t hc5 hb4
          refine q_cond_t hF rfl hc5 ?_
          refine q_skipc (n_sq ?_)
          refine q_seq ?_
          refine q_block ?_
          refine q_region ?_
          refine q_x (v := (.pointer (some ⟨b2, 0, none⟩))) hF hS (ex_fieldAddr Try.underlying89 rfl sz42 rfl rfl) rfl rfl fun a hF => ?_
          refine q_x (v := s1.v) hF hS (ex_load1 0 0 Try.underlying42 rfl rfl rfl rfl) rfl rfl fun a hF => ?_
          refine q_x (v := (.int .i64 i_5)) hF hS (ex_move rfl) rfl rfl fun a hF => ?_
          obtain ⟨e_7, he_7, hb4⟩ := bindS hb4
          obtain ⟨vs8, at8, d8⟩ := h1.at he_7 1 rfl
          obtain rfl : vs8 = [(.int .i64 e_7)] := d8
          refine q_x (v := (elP s1 (i_5.toNat * 1))) hF hS (ex_indexAddr Try.underlying42 sz3 rfl rfl (h1.idx he_7)) rfl rfl fun a hF => ?_
          refine q_x (v := (.int .i64 e_7)) hF hS (ex_loadE1 0 Try.underlying3 rfl rfl ((at8).at) rfl rfl) rfl rfl fun a hF => ?_
          refine q_x (v := (.int .i64 e_7)) hF hS (ex_assign rfl) rfl rfl fun a hF => ?_
          refine q_end (n_ib (n_sq ?_))
          refine q_region ?_
          refine q_x (v := (.int .i64 d_6)) hF hS (ex_move rfl) rfl rfl fun a hF => ?_
          refine q_x (v := (.int .i64 (w64 (d_6 - 1)))) hF hS (ex_ibin rfl rfl rfl) rfl rfl fun a hF => ?_
          refine q_x (v := (.int .i64 (w64 (d_6 - 1)))) hF hS (ex_assign rfl) rfl rfl fun a hF => ?_
          refine q_end ?_
          obtain rfl := someI hb4
          exact ⟨rfl, _, _, rfl, hF.sub ⟨rfl, rfl, rfl, rfl, trivial⟩, hS⟩
      · rintro e a w ⟨rfl, hF, hS⟩
        refine x_ib (n_sq ?_)
        refine q_seq ?_
        refine q_region ?_
        refine q_x (v := (.int .i64 i_9)) hF hS (ex_move rfl) rfl rfl fun a hF => ?_
        refine q_x (v := (.int .i64 i_9)) hF hS (ex_assign rfl) rfl rfl fun a hF => ?_
        refine q_end (n_sq (q_ret ?_))
        obtain rfl := someI hr
        exact ret_of hF hS rfl (.tmp rfl .nil) rfl
    · have hr := cond_t hc3 hr
      refine q_cond_t hF rfl hc3 ?_
      refine q_seq ?_
      refine q_region ?_
      refine q_x (v := (.int .i64 (-1))) hF hS (ex_assign rfl) rfl rfl fun a hF => ?_
      refine q_end (n_sq (q_ret (r_sq ?_)))
      obtain rfl := someI hr
      exact ret_of hF hS rfl (.tmp rfl .nil) rfl

theorem c_impl_AncestorAt (p_g : impl_Geo) (p_i : Int) (p_level : Int) (r : Int × Bool) (hr : impl_AncestorAt p_g p_i p_level = some r) (w0 : World) (m : Mem) (hv : Vis m w0) (s1 : Sl) (h1 : Rd m s1 p_g.Parents) :
    Ret Try.prog 71 [(.agg #[s1.v]), (.int .i64 p_i), (.int .i64 p_level)] w0 (fun v _ => v = (.tuple #[(.int .i64 r.1), (.bool r.2)])) := by
  unfold impl_AncestorAt at hr
  refine ret_start Try.func71 rfl 25 rfl rfl m hv fun a hF hS => ?_
  refine q_seq ?_
  refine q_region ?_
  refine q_box (cs := [s1.v]) hF hS rfl rfl rfl fun a w b2 hF hS => ?_
  refine q_x (v := (.int .i64 0)) hF hS (ex_assign rfl) rfl rfl fun a hF => ?_
  refine q_x (v := (.bool false)) hF hS (ex_assign rfl) rfl rfl fun a hF => ?_
  refine q_end (n_sq ?_)
  refine q_seq ?_
  refine q_seq ?_
  obtain ⟨t_5, hj1, hr⟩ := bindS hr
  refine q_join (fun a w => Fr a 25 [(1, (.int .i64 p_i)), (2, (.int .i64 p_level)), (3, (.pointer (some ⟨b2, 0, none⟩))), (17, (.bool t_5))] ∧ St [] w0 w m [[⟨b2, [s1.v], 89⟩]]) ?_ ?_
  · refine q_region ?_
    refine q_x (v := (.agg #[s1.v])) hF hS (ex_loadA (vs := [s1.v]) 0 0 Try.underlying89 rfl sz89 rfl rfl rfl rfl) rfl rfl fun a hF => ?_
    obtain ⟨t_3, ht_3, hj1⟩ := bindS hj1
    refine q_call (vs := [(.agg #[s1.v])]) hF hS Try.func144 (by kernel_rfl) rfl rfl rfl (c_impl_IsGeo p_g t_3 ht_3 _ m hS.vis s1 h1) ?_
    rintro a w _ rfl hF hS
    refine q_x (v := (.bool (!t_3))) hF hS (ex_not rfl) rfl rfl fun a hF => ?_
    refine q_x (v := (.bool (!t_3))) hF hS (ex_move rfl) rfl rfl fun a hF => ?_
    rcases bcase (!t_3) with hc2 | hc2
    · have hj1 := cond_f hc2 hj1
      refine q_xg (v := (.agg #[s1.v])) hF hS (ex_loadA (vs := [s1.v]) 0 0 Try.underlying89 rfl sz89 rfl rfl rfl rfl) (wanted_t hF rfl rfl rfl hc2) rfl fun a hF => ?_
      refine q_xg (v := (.int .i64 p_i)) hF hS (ex_move rfl) (wanted_t hF rfl rfl rfl hc2) rfl fun a hF => ?_
      obtain ⟨t_4, ht_4, hj1⟩ := bindS hj1
      refine q_callg (vs := [(.agg #[s1.v]), (.int .i64 p_i)]) hF hS (wanted_t hF rfl rfl rfl hc2) Try.func145 (by kernel_rfl) rfl rfl rfl (c_impl_isArea p_g p_i t_4 ht_4 _ m hS.vis s1 h1) ?_
      rintro a w _ rfl hF hS
      refine q_xg (v := (.bool (!t_4))) hF hS (ex_not rfl) (wanted_t hF rfl rfl rfl hc2) rfl fun a hF => ?_
      refine q_x (v := (.bool (!t_4))) hF hS (ex_pick_f rfl rfl hc2) rfl rfl fun a hF => ?_
      refine q_end (n_jn ?_)
      obtain rfl := someI hj1
      exact ⟨hF.sub ⟨rfl, rfl, rfl, rfl, trivial⟩, hS⟩
    · have hj1 := cond_t hc2 hj1
      refine q_skip hF (wanted_f hF rfl rfl rfl hc2 rfl) rfl fun a hF => ?_
      refine q_skip hF (wanted_f hF rfl rfl rfl hc2 rfl) rfl fun a hF => ?_
      refine q_skip hF (wanted_f hF rfl rfl rfl hc2 rfl) rfl fun a hF => ?_
      refine q_skip hF (wanted_f hF rfl rfl rfl hc2 rfl) rfl fun a hF => ?_
      refine q_x (v := (.bool true)) hF hS (ex_pick_t rfl rfl hc2) rfl rfl fun a hF => ?_
      refine q_end (n_jn ?_)
      obtain rfl := someI hj1
      exact ⟨hF.sub ⟨rfl, rfl, rfl, rfl, trivial⟩, hS⟩
  · rintro a w ⟨hF, hS⟩
    refine n_sq ?_
    rcases bcase (t_5) with hc3 | hc3
    · have hr := cond_f hc3 hr
      refine q_cond_f hF rfl hc3 ?_
      refine q_skipc (n_sq ?_)
      refine q_seq ?_
      refine q_region ?_
      refine q_x (v := (.agg #[s1.v])) hF hS (ex_loadA (vs := [s1.v]) 0 0 Try.underlying89 rfl sz89 rfl rfl rfl rfl) rfl rfl fun a hF => ?_
      refine q_x (v := (.int .i64 p_i)) hF hS (ex_move rfl) rfl rfl fun a hF => ?_
      refine q_x (v := (.int .i64 p_level)) hF hS (ex_move rfl) rfl rfl fun a hF => ?_
      obtain ⟨t_6, ht_6, hr⟩ := bindS hr
      refine q_call (vs := [(.agg #[s1.v]), (.int .i64 p_i), (.int .i64 p_level)]) hF hS Try.func149 (by kernel_rfl) rfl rfl rfl (c_impl_ancestorAt p_g p_i p_level t_6 ht_6 _ m hS.vis s1 h1) ?_
      rintro a w _ rfl hF hS
      refine q_x (v := (.int .i64 t_6)) hF hS (ex_assign rfl) rfl rfl fun a hF => ?_
      refine q_end (n_sq ?_)
      refine q_seq ?_
      refine q_seq ?_
      refine q_region ?_
      refine q_x (v := (.int .i64 t_6)) hF hS (ex_move rfl) rfl rfl fun a hF => ?_
      refine q_x (v := (.bool (decide (t_6 < 0)))) hF hS (ex_ibin rfl rfl rfl) rfl rfl fun a hF => ?_
      refine q_end (n_sq ?_)
      rcases bcase (decide (t_6 < 0)) with hc4 | hc4
      · have hr := cond_f hc4 hr
        refine q_cond_f hF rfl hc4 ?_
        refine q_skipc (n_sq ?_)
        refine q_seq ?_
        refine q_region ?_
        refine q_x (v := (.int .i64 t_6)) hF hS (ex_move rfl) rfl rfl fun a hF => ?_
        refine q_x (v := (.int .i64 t_6)) hF hS (ex_assign rfl) rfl rfl fun a hF => ?_
        refine q_x (v := (.bool true)) hF hS (ex_assign rfl) rfl rfl fun a hF => ?_
        refine q_end (n_sq (q_ret ?_))
        obtain rfl := someI hr
        exact ret_of hF hS rfl (.tmp rfl (.tmp rfl .nil)) rfl
      · have hr := cond_t hc4 hr
        refine q_cond_t hF rfl hc4 ?_
        refine q_seq ?_
        refine q_region ?_
        refine q_x (v := (.int .i64 0)) hF hS (ex_assign rfl) rfl rfl fun a hF => ?_
        refine q_x (v := (.bool false)) hF hS (ex_assign rfl) rfl rfl fun a hF => ?_
        refine q_end (n_sq (q_ret (r_sq ?_)))
        obtain rfl := someI hr
        exact ret_of hF hS rfl (.tmp rfl (.tmp rfl .nil)) rfl
    · have hr := cond_t hc3 hr
      refine q_cond_t hF rfl hc3 ?_
      refine q_seq ?_
      refine q_region ?_
      refine q_x (v := (.int .i64 0)) hF hS (ex_assign rfl) rfl rfl fun a hF => ?_
      refine q_x (v := (.bool false)) hF hS (ex_assign rfl) rfl rfl fun a hF => ?_
      refine q_end (n_sq (q_ret (r_sq ?_)))
      obtain rfl := someI hr
      exact ret_of hF hS rfl (.tmp rfl (.tmp rfl .nil)) rfl

theorem c_impl_DepthOf (p_g : impl_Geo) (p_i : Int) (r : Int × Bool) (hr : impl_DepthOf p_g p_i = some r) (w0 : World) (m : Mem) (hv : Vis m w0) (s1 : Sl) (h1 : Rd m s1 p_g.Parents) :
    Ret Try.prog 72 [(.agg #[s1.v]), (.int .i64 p_i)] w0 (fun v _ => v = (.tuple #[(.int .i64 r.1), (.bool r.2)])) := by
  unfold impl_DepthOf at hr
  refine ret_start Try.func72 rfl 18 rfl rfl m hv fun a hF hS => ?_
  refine q_seq ?_
  refine q_region ?_
  refine q_box (cs := [s1.v]) hF hS rfl rfl rfl fun a w b2 hF hS => ?_
  refine q_x (v := (.int .i64 0)) hF hS (ex_assign rfl) rfl rfl fun a hF => ?_
  refine q_x (v := (.bool false)) hF hS (ex_assign rfl) rfl rfl fun a hF => ?_
  refine q_end (n_sq ?_)
  refine q_seq ?_
  refine q_seq ?_
  obtain ⟨t_5, hj1, hr⟩ := bindS hr
  refine q_join (fun a w => Fr a 18 [(1, (.int .i64 p_i)), (2, (.pointer (some ⟨b2, 0, none⟩))), (14, (.bool t_5))] ∧ St [] w0 w m [[⟨b2, [s1.v], 89⟩]]) ?_ ?_
  · refine q_region ?_
    refine q_x (v := (.agg #[s1.v])) hF hS (ex_loadA (vs := [s1.v]) 0 0 Try.underlying89 rfl sz89 rfl rfl rfl rfl) rfl rfl fun a hF => ?_
    obtain ⟨t_3, ht_3, hj1⟩ := bindS hj1
    refine q_call (vs := [(.agg #[s1.v])]) hF hS Try.func144 (by kernel_rfl) rfl rfl rfl (c_impl_IsGeo p_g t_3 ht_3 _ m hS.vis s1 h1) ?_
    rintro a w _ rfl hF hS
    refine q_x (v := (.bool (!t_3))) hF hS (ex_not rfl) rfl rfl fun a hF => ?_
    refine q_x (v := (.bool (!t_3))) hF hS (ex_move rfl) rfl rfl fun a hF => ?_
    rcases bcase (!t_3) with hc2 | hc2
    · have hj1 := cond_f hc2 hj1
      refine q_xg (v := (.agg #[s1.v])) hF hS (ex_loadA (vs := [s1.v]) 0 0 Try.underlying89 rfl sz89 rfl rfl rfl rfl) (wanted_t hF rfl rfl rfl hc2) rfl fun a hF => ?_
      refine q_xg (v := (.int .i64 p_i)) hF hS (ex_move rfl) (wanted_t hF rfl rfl rfl hc2) rfl fun a hF => ?_
      obtain ⟨t_4, ht_4, hj1⟩ := bindS hj1
      refine q_callg (vs := [(.agg #[s1.v]), (.int .i64 p_i)]) hF hS (wanted_t hF rfl rfl rfl hc2) Try.func145 (by kernel_rfl) rfl rfl rfl (c_impl_isArea p_g p_i t_4 ht_4 _ m hS.vis s1 h1) ?_
      rintro a w _ rfl hF hS
      refine q_xg (v := (.bool (!t_4))) hF hS (ex_not rfl) (wanted_t hF rfl rfl rfl hc2) rfl fun a hF => ?_
      refine q_x (v := (.bool (!t_4))) hF hS (ex_pick_f rfl rfl hc2) rfl rfl fun a hF => ?_
      refine q_end (n_jn ?_)
      obtain rfl := someI hj1
      exact ⟨hF.sub ⟨rfl, rfl, rfl, trivial⟩, hS⟩
    · have hj1 := cond_t hc2 hj1
      refine q_skip hF (wanted_f hF rfl rfl rfl hc2 rfl) rfl fun a hF => ?_
      refine q_skip hF (wanted_f hF rfl rfl rfl hc2 rfl) rfl fun a hF => ?_
      refine q_skip hF (wanted_f hF rfl rfl rfl hc2 rfl) rfl fun a hF => ?_
      refine q_skip hF (wanted_f hF rfl rfl rfl hc2 rfl) rfl fun a hF => ?_
      refine q_x (v := (.bool true)) hF hS (ex_pick_t rfl rfl hc2) rfl rfl fun a hF => ?_
      refine q_end (n_jn ?_)
      obtain rfl := someI hj1
      exact ⟨hF.sub ⟨rfl, rfl, rfl, trivial⟩, hS⟩
  · rintro a w ⟨hF, hS⟩
    refine n_sq ?_
    rcases bcase (t_5) with hc3 | hc3
    · have hr := cond_f hc3 hr
      refine q_cond_f hF rfl hc3 ?_
      refine q_skipc (n_sq ?_)
      refine q_seq ?_
      refine q_region ?_
      refine q_x (v := (.agg #[s1.v])) hF hS (ex_loadA (vs := [s1.v]) 0 0 Try.underlying89 rfl sz89 rfl rfl rfl rfl) rfl rfl fun a hF => ?_
      refine q_x (v := (.int .i64 p_i)) hF hS (ex_move rfl) rfl rfl fun a hF => ?_
      obtain ⟨t_6, ht_6, hr⟩ := bindS hr
      refine q_call (vs := [(.agg #[s1.v]), (.int .i64 p_i)]) hF hS Try.func150 (by kernel_rfl) rfl rfl rfl (c_impl_depthOf p_g p_i t_6 ht_6 _ m hS.vis s1 h1) ?_
      rintro a w _ rfl hF hS
      refine q_x (v := (.int .i64 t_6)) hF hS (ex_assign rfl) rfl rfl fun a hF => ?_
      refine q_x (v := (.bool true)) hF hS (ex_assign rfl) rfl rfl fun a hF => ?_
      refine q_end (n_sq (q_ret ?_))
      obtain rfl := someI hr
      exact ret_of hF hS rfl (.tmp rfl (.tmp rfl .nil)) rfl
    · have hr := cond_t hc3 hr
      refine q_cond_t hF rfl hc3 ?_
      refine q_seq ?_
      refine q_region ?_
      refine q_x (v := (.int .i64 0)) hF hS (ex_assign rfl) rfl rfl fun a hF => ?_
      refine q_x (v := (.bool false)) hF hS (ex_assign rfl) rfl rfl fun a hF => ?_
      refine q_end (n_sq (q_ret (r_sq ?_)))
      obtain rfl := someI hr
      exact ret_of hF hS rfl (.tmp rfl (.tmp rfl .nil)) rfl

theorem c_spec_DrawMeetOf (p_code : List (K .u8)) (r : impl_Geo × Int × Int) (hr : spec_DrawMeetOf p_code = some r) (w0 : World) (m : Mem) (hv : Vis m w0) (s1 : Sl) (h1 : Rd m s1 p_code) :
    Ret Try.prog 73 [s1.v] w0 (fun v w => ∃ (m' : Mem) (q0' : Piece) (s0' : Sl), v = (.tuple #[(.agg #[s0'.v]), (.int .i64 r.2.1), (.int .i64 r.2.2)]) ∧ MLe [] w0.heap.size m m' ∧ St [] w0 w m' [q0'] ∧ OwnL m' 3 q0' s0' r.1.Parents) := by
  unfold spec_DrawMeetOf at hr
  refine ret_start Try.func73 rfl 19 rfl rfl m hv fun a hF hS => ?_
  refine q_seq ?_
  refine q_region ?_
  refine q_alloc (cs := [nilS.v]) hF hS rfl rfl rfl fun a w b2 hF hS => ?_
  refine q_x (v := (.int .i64 0)) hF hS (ex_assign rfl) rfl rfl fun a hF => ?_
  refine q_x (v := (.int .i64 0)) hF hS (ex_assign rfl) rfl rfl fun a hF => ?_
  refine q_end (n_sq ?_)
  refine q_seq ?_
  refine q_region ?_
  refine q_x (v := s1.v) hF hS (ex_move rfl) rfl rfl fun a hF => ?_
  refine q_x (v := (.agg #[s1.v, (.int .i64 0), (.int .u64 0)])) hF hS (ex_build (cells := [s1.v, (.int .i64 0), (.int .u64 0)]) rfl (by kernel_rfl)) rfl rfl fun a hF => ?_
  refine q_box (cs := [s1.v, (.int .i64 0), (.int .u64 0)]) hF hS rfl rfl rfl fun a w b3 hF hS => ?_
  refine q_x (v := (.pointer (some ⟨b3, 0, none⟩))) hF hS (ex_assign rfl) rfl rfl fun a hF => ?_
  refine q_end (n_sq ?_)
  refine q_seq ?_
  refine q_region ?_
  refine q_x (v := (.pointer (some ⟨b3, 0, none⟩))) hF hS (ex_move rfl) rfl rfl fun a hF => ?_
  have hS4 : St _ _ _ _ ([[⟨b3, [s1.v, (.int .i64 0), (.int .u64 0)], 103⟩]] ++ [[⟨b2, [nilS.v], 89⟩]]) := hS
  have hE4 := hS4.enter
  obtain ⟨t_5, ht_5, hr⟩ := bindS hr
  refine q_do rfl fun _ hK => wp_callX (vs := [(.pointer (some ⟨b3, 0, none⟩))]) hF Try.func151 (by kernel_rfl) rfl rfl rfl (c_spec_l1Cur_anyGeo (spec_l1Cur.mk p_code 0 (⟨0⟩ : K .u64)) t_5 ht_5 _ m b3 s1 h1 _ hE4) fun a w _ hR hF => hK _ _ ?_
  obtain ⟨m4', q6, s6, rfl, hm4, hR4, h6, hk7⟩ := hR
  have hS : St _ _ _ _ [[⟨b3, [s1.v, (.int .i64 t_5.2.at_), (.int .u64 t_5.2.seed.v)], 103⟩], q6, [⟨b2, [nilS.v], 89⟩]] := hS4.leave hR4 hm4
  have hm4 := MLe.weakX hS4 hm4
  have h7 : Rd m4' s1 t_5.2.code := by rw [hk7]; exact (h1.mono hm4.le)
  refine q_alloc (cs := [nilS.v]) hF hS rfl rfl rfl fun a w b8 hF hS => ?_
  refine q_store (vs := [s6.v]) (cs' := [s6.v]) 0 0 hF hS sz89 rfl rfl rfl rfl rfl rfl rfl rfl fun a w hF hS => ?_
  refine q_end (n_sq ?_)
  refine q_seq ?_
  refine e_region [3, 6, 7] mixed fun w' hw' => ?_
  have hS := hS.below hw'
  refine e_p (v := (.pointer (some ⟨b3, 0, none⟩))) 1 hF rfl (ex_move rfl) rfl rfl (by kernel_rfl) (by kernel_rfl) (by kernel_rfl) fun a hF => ?_
  refine e_p (v := (.pointer (some ⟨b3, 0, none⟩))) 4 hF rfl (ex_move rfl) rfl rfl (by kernel_rfl) (by kernel_rfl) (by kernel_rfl) fun a hF => ?_
  obtain ⟨t_10, ht_10, hr⟩ := bindS hr
  obtain ⟨t_13, ht_13, hr⟩ := bindS hr
  refine e_all [0, 2, 5] (by kernel_rfl) rfl ⟨?_, ?_, ?_, trivial⟩
  · refine e_lx (v := (.agg #[s6.v])) hF hS rfl (ex_loadA (vs := [s6.v]) 0 0 Try.underlying89 rfl sz89 rfl rfl rfl rfl) rfl rfl fun a hF => ?_
    refine e_all [2, 5] (by kernel_rfl) rfl ⟨?_, ?_, trivial⟩
    · refine e_lx (v := (.agg #[s6.v])) hF hS rfl (ex_loadA (vs := [s6.v]) 0 0 Try.underlying89 rfl sz89 rfl rfl rfl rfl) rfl rfl fun a hF => ?_
      refine e_all [3, 5] (by kernel_rfl) rfl ⟨?_, ?_, trivial⟩
      · have hS : St _ _ _ _ [[⟨b3, [s1.v, (.int .i64 t_5.2.at_), (.int .u64 t_5.2.seed.v)], 103⟩], [⟨b8, [s6.v], 89⟩], q6, [⟨b2, [nilS.v], 89⟩]] := hS.sel [1, 0, 2, 3] (by decide)
        have hS9 : St _ _ _ _ ([[⟨b3, [s1.v, (.int .i64 t_5.2.at_), (.int .u64 t_5.2.seed.v)], 103⟩]] ++ [[⟨b8, [s6.v], 89⟩], q6, [⟨b2, [nilS.v], 89⟩]]) := hS
        obtain ⟨m9, hl9, hE9, hz9⟩ := hS9.lendX
        refine e_opl rfl rfl rfl fun _ hK => wp_callX (vs := [(.pointer (some ⟨b3, 0, none⟩)), (.agg #[s6.v])]) hF Try.func152 (by kernel_rfl) rfl rfl rfl (c_spec_l1Cur_anArea t_5.2 t_5.1 t_10 ht_10 _ m9 b3 s1 (h7.mono hl9) s6 (h6.froz hl9 (hz9 1 _ rfl)) _ hE9) fun a w _ hR hF => hK _ _ ?_
        obtain ⟨rfl, hR9, hk11⟩ := hR
        have hS : St _ _ _ _ [[⟨b3, [s1.v, (.int .i64 t_10.2.at_), (.int .u64 t_10.2.seed.v)], 103⟩], [⟨b8, [s6.v], 89⟩], q6, [⟨b2, [nilS.v], 89⟩]] := hS9.leaveF hR9
        have h11 : Rd m4' s1 t_10.2.code := by rw [hk11]; exact h7
        refine e_one 5 (by kernel_rfl) ?_
        refine e_lx (v := (.agg #[s6.v])) hF hS rfl (ex_loadA (vs := [s6.v]) 1 0 Try.underlying89 rfl sz89 rfl rfl rfl rfl) rfl rfl fun a hF => ?_
        refine e_one 6 (by kernel_rfl) ?_
        have hS12 : St _ _ _ _ ([[⟨b3, [s1.v, (.int .i64 t_10.2.at_), (.int .u64 t_10.2.seed.v)], 103⟩]] ++ [[⟨b8, [s6.v], 89⟩], q6, [⟨b2, [nilS.v], 89⟩]]) := hS
        obtain ⟨m12, hl12, hE12, hz12⟩ := hS12.lendX
        refine e_opl rfl rfl rfl fun _ hK => wp_callX (vs := [(.pointer (some ⟨b3, 0, none⟩)), (.agg #[s6.v])]) hF Try.func152 (by kernel_rfl) rfl rfl rfl (c_spec_l1Cur_anArea t_10.2 t_5.1 t_13 ht_13 _ m12 b3 s1 (h11.mono hl12) s6 (h6.froz hl12 (hz12 1 _ rfl)) _ hE12) fun a w _ hR hF => hK _ _ ?_
        obtain ⟨rfl, hR12, hk14⟩ := hR
        have hS : St _ _ _ _ [[⟨b3, [s1.v, (.int .i64 t_13.2.at_), (.int .u64 t_13.2.seed.v)], 103⟩], [⟨b8, [s6.v], 89⟩], q6, [⟨b2, [nilS.v], 89⟩]] := hS12.leaveF hR12
        have h14 : Rd m4' s1 t_13.2.code := by rw [hk14]; exact h11
        refine e_one 7 (by kernel_rfl) ?_
        refine e_store (vs := [s6.v]) (cs' := [s6.v]) 3 0 hF hS rfl rfl sz89 rfl rfl rfl rfl rfl rfl rfl rfl fun a w hF hS => ?_
        refine e_p (v := (.int .i64 t_10.1)) 8 hF rfl (ex_assign rfl) rfl rfl (by kernel_rfl) (by kernel_rfl) (by kernel_rfl) fun a hF => ?_
        refine e_p (v := (.int .i64 t_13.1)) 9 hF rfl (ex_assign rfl) rfl rfl (by kernel_rfl) (by kernel_rfl) (by kernel_rfl) fun a hF => ?_
        refine e_end (by kernel_rfl) (n_sq (q_ret ?_)) _
        obtain rfl := someI hr
        exact ret_of hF hS rfl (.cellA (us := [s6.v]) 3 0 Try.underlying89 rfl sz89 rfl rfl rfl rfl (.tmp rfl (.tmp rfl .nil))) ⟨m4', q6, s6, rfl, hm4, hS.sel [2] (by decide), h6⟩
      · refine e_lx (v := (.agg #[s6.v])) hF hS rfl (ex_loadA (vs := [s6.v]) 0 0 Try.underlying89 rfl sz89 rfl rfl rfl rfl) rfl rfl fun a hF => ?_
        refine e_one 3 (by kernel_rfl) ?_
        have hS : St _ _ _ _ [[⟨b3, [s1.v, (.int .i64 t_5.2.at_), (.int .u64 t_5.2.seed.v)], 103⟩], [⟨b8, [s6.v], 89⟩], q6, [⟨b2, [nilS.v], 89⟩]] := hS.sel [1, 0, 2, 3] (by decide)
        have hS9 : St _ _ _ _ ([[⟨b3, [s1.v, (.int .i64 t_5.2.at_), (.int .u64 t_5.2.seed.v)], 103⟩]] ++ [[⟨b8, [s6.v], 89⟩], q6, [⟨b2, [nilS.v], 89⟩]]) := hS
        obtain ⟨m9, hl9, hE9, hz9⟩ := hS9.lendX
        refine e_opl rfl rfl rfl fun _ hK => wp_callX (vs := [(.pointer (some ⟨b3, 0, none⟩)), (.agg #[s6.v])]) hF Try.func152 (by kernel_rfl) rfl rfl rfl (c_spec_l1Cur_anArea t_5.2 t_5.1 t_10 ht_10 _ m9 b3 s1 (h7.mono hl9) s6 (h6.froz hl9 (hz9 1 _ rfl)) _ hE9) fun a w _ hR hF => hK _ _ ?_
        obtain ⟨rfl, hR9, hk11⟩ := hR
        have hS : St _ _ _ _ [[⟨b3, [s1.v, (.int .i64 t_10.2.at_), (.int .u64 t_10.2.seed.v)], 103⟩], [⟨b8, [s6.v], 89⟩], q6, [⟨b2, [nilS.v], 89⟩]] := hS9.leaveF hR9
        have h11 : Rd m4' s1 t_10.2.code := by rw [hk11]; exact h7
        refine e_one 6 (by kernel_rfl) ?_
        have hS12 : St _ _ _ _ ([[⟨b3, [s1.v, (.int .i64 t_10.2.at_), (.int .u64 t_10.2.seed.v)], 103⟩]] ++ [[⟨b8, [s6.v], 89⟩], q6, [⟨b2, [nilS.v], 89⟩]]) := hS
        obtain ⟨m12, hl12, hE12, hz12⟩ := hS12.lendX
        refine e_opl rfl rfl rfl fun _ hK => wp_callX (vs := [(.pointer (some ⟨b3, 0, none⟩)), (.agg #[s6.v])]) hF Try.func152 (by kernel_rfl) rfl rfl rfl (c_spec_l1Cur_anArea t_10.2 t_5.1 t_13 ht_13 _ m12 b3 s1 (h11.mono hl12) s6 (h6.froz hl12 (hz12 1 _ rfl)) _ hE12) fun a w _ hR hF => hK _ _ ?_
        obtain ⟨rfl, hR12, hk14⟩ := hR
        have hS : St _ _ _ _ [[⟨b3, [s1.v, (.int .i64 t_13.2.at_), (.int .u64 t_13.2.seed.v)], 103⟩], [⟨b8, [s6.v], 89⟩], q6, [⟨b2, [nilS.v], 89⟩]] := hS12.leaveF hR12
        have h14 : Rd m4' s1 t_13.2.code := by rw [hk14]; exact h11
        refine e_one 7 (by kernel_rfl) ?_
        refine e_store (vs := [s6.v]) (cs' := [s6.v]) 3 0 hF hS rfl rfl sz89 rfl rfl rfl rfl rfl rfl rfl rfl fun a w hF hS => ?_
        refine e_p (v := (.int .i64 t_10.1)) 8 hF rfl (ex_assign rfl) rfl rfl (by kernel_rfl) (by kernel_rfl) (by kernel_rfl) fun a hF => ?_
        refine e_p (v := (.int .i64 t_13.1)) 9 hF rfl (ex_assign rfl) rfl rfl (by kernel_rfl) (by kernel_rfl) (by kernel_rfl) fun a hF => ?_
        refine e_end (by kernel_rfl) (n_sq (q_ret ?_)) _
        obtain rfl := someI hr
        exact ret_of hF hS rfl (.cellA (us := [s6.v]) 3 0 Try.underlying89 rfl sz89 rfl rfl rfl rfl (.tmp rfl (.tmp rfl .nil))) ⟨m4', q6, s6, rfl, hm4, hS.sel [2] (by decide), h6⟩
    · refine e_lx (v := (.agg #[s6.v])) hF hS rfl (ex_loadA (vs := [s6.v]) 0 0 Try.underlying89 rfl sz89 rfl rfl rfl rfl) rfl rfl fun a hF => ?_
      refine e_one 2 (by kernel_rfl) ?_
      refine e_lx (v := (.agg #[s6.v])) hF hS rfl (ex_loadA (vs := [s6.v]) 0 0 Try.underlying89 rfl sz89 rfl rfl rfl rfl) rfl rfl fun a hF => ?_
      refine e_one 3 (by kernel_rfl) ?_
      have hS : St _ _ _ _ [[⟨b3, [s1.v, (.int .i64 t_5.2.at_), (.int .u64 t_5.2.seed.v)], 103⟩], [⟨b8, [s6.v], 89⟩], q6, [⟨b2, [nilS.v], 89⟩]] := hS.sel [1, 0, 2, 3] (by decide)
      have hS9 : St _ _ _ _ ([[⟨b3, [s1.v, (.int .i64 t_5.2.at_), (.int .u64 t_5.2.seed.v)], 103⟩]] ++ [[⟨b8, [s6.v], 89⟩], q6, [⟨b2, [nilS.v], 89⟩]]) := hS
      obtain ⟨m9, hl9, hE9, hz9⟩ := hS9.lendX
      refine e_opl rfl rfl rfl fun _ hK => wp_callX (vs := [(.pointer (some ⟨b3, 0, none⟩)), (.agg #[s6.v])]) hF Try.func152 (by kernel_rfl) rfl rfl rfl (c_spec_l1Cur_anArea t_5.2 t_5.1 t_10 ht_10 _ m9 b3 s1 (h7.mono hl9) s6 (h6.froz hl9 (hz9 1 _ rfl)) _ hE9) fun a w _ hR hF => hK _ _ ?_
      obtain ⟨rfl, hR9, hk11⟩ := hR
      have hS : St _ _ _ _ [[⟨b3, [s1.v, (.int .i64 t_10.2.at_), (.int .u64 t_10.2.seed.v)], 103⟩], [⟨b8, [s6.v], 89⟩], q6, [⟨b2, [nilS.v], 89⟩]] := hS9.leaveF hR9
      have h11 : Rd m4' s1 t_10.2.code := by rw [hk11]; exact h7
      refine e_one 6 (by kernel_rfl) ?_
      have hS12 : St _ _ _ _ ([[⟨b3, [s1.v, (.int .i64 t_10.2.at_), (.int .u64 t_10.2.seed.v)], 103⟩]] ++ [[⟨b8, [s6.v], 89⟩], q6, [⟨b2, [nilS.v], 89⟩]]) := hS
      obtain ⟨m12, hl12, hE12, hz12⟩ := hS12.lendX
      refine e_opl rfl rfl rfl fun _ hK => wp_callX (vs := [(.pointer (some ⟨b3, 0, none⟩)), (.agg #[s6.v])]) hF Try.func152 (by kernel_rfl) rfl rfl rfl (c_spec_l1Cur_anArea t_10.2 t_5.1 t_13 ht_13 _ m12 b3 s1 (h11.mono hl12) s6 (h6.froz hl12 (hz12 1 _ rfl)) _ hE12) fun a w _ hR hF => hK _ _ ?_
      obtain ⟨rfl, hR12, hk14⟩ := hR
      have hS : St _ _ _ _ [[⟨b3, [s1.v, (.int .i64 t_13.2.at_), (.int .u64 t_13.2.seed.v)], 103⟩], [⟨b8, [s6.v], 89⟩], q6, [⟨b2, [nilS.v], 89⟩]] := hS12.leaveF hR12
      have h14 : Rd m4' s1 t_13.2.code := by rw [hk14]; exact h11
      refine e_one 7 (by kernel_rfl) ?_
      refine e_store (vs := [s6.v]) (cs' := [s6.v]) 3 0 hF hS rfl rfl sz89 rfl rfl rfl rfl rfl rfl rfl rfl fun a w hF hS => ?_
      refine e_p (v := (.int .i64 t_10.1)) 8 hF rfl (ex_assign rfl) rfl rfl (by kernel_rfl) (by kernel_rfl) (by kernel_rfl) fun a hF => ?_
      refine e_p (v := (.int .i64 t_13.1)) 9 hF rfl (ex_assign rfl) rfl rfl (by kernel_rfl) (by kernel_rfl) (by kernel_rfl) fun a hF => ?_
      refine e_end (by kernel_rfl) (n_sq (q_ret ?_)) _
      obtain rfl := someI hr
      exact ret_of hF hS rfl (.cellA (us := [s6.v]) 3 0 Try.underlying89 rfl sz89 rfl rfl rfl rfl (.tmp rfl (.tmp rfl .nil))) ⟨m4', q6, s6, rfl, hm4, hS.sel [2] (by decide), h6⟩
  · refine e_lx (v := (.agg #[s6.v])) hF hS rfl (ex_loadA (vs := [s6.v]) 0 0 Try.underlying89 rfl sz89 rfl rfl rfl rfl) rfl rfl fun a hF => ?_
    refine e_all [0, 3, 5] (by kernel_rfl) rfl ⟨?_, ?_, ?_, trivial⟩
    · refine e_lx (v := (.agg #[s6.v])) hF hS rfl (ex_loadA (vs := [s6.v]) 0 0 Try.underlying89 rfl sz89 rfl rfl rfl rfl) rfl rfl fun a hF => ?_
      refine e_all [3, 5] (by kernel_rfl) rfl ⟨?_, ?_, trivial⟩
      · have hS : St _ _ _ _ [[⟨b3, [s1.v, (.int .i64 t_5.2.at_), (.int .u64 t_5.2.seed.v)], 103⟩], [⟨b8, [s6.v], 89⟩], q6, [⟨b2, [nilS.v], 89⟩]] := hS.sel [1, 0, 2, 3] (by decide)
        have hS9 : St _ _ _ _ ([[⟨b3, [s1.v, (.int .i64 t_5.2.at_), (.int .u64 t_5.2.seed.v)], 103⟩]] ++ [[⟨b8, [s6.v], 89⟩], q6, [⟨b2, [nilS.v], 89⟩]]) := hS
        obtain ⟨m9, hl9, hE9, hz9⟩ := hS9.lendX
        refine e_opl rfl rfl rfl fun _ hK => wp_callX (vs := [(.pointer (some ⟨b3, 0, none⟩)), (.agg #[s6.v])]) hF Try.func152 (by kernel_rfl) rfl rfl rfl (c_spec_l1Cur_anArea t_5.2 t_5.1 t_10 ht_10 _ m9 b3 s1 (h7.mono hl9) s6 (h6.froz hl9 (hz9 1 _ rfl)) _ hE9) fun a w _ hR hF => hK _ _ ?_
        obtain ⟨rfl, hR9, hk11⟩ := hR
        have hS : St _ _ _ _ [[⟨b3, [s1.v, (.int .i64 t_10.2.at_), (.int .u64 t_10.2.seed.v)], 103⟩], [⟨b8, [s6.v], 89⟩], q6, [⟨b2, [nilS.v], 89⟩]] := hS9.leaveF hR9
        have h11 : Rd m4' s1 t_10.2.code := by rw [hk11]; exact h7
        refine e_one 5 (by kernel_rfl) ?_
        refine e_lx (v := (.agg #[s6.v])) hF hS rfl (ex_loadA (vs := [s6.v]) 1 0 Try.underlying89 rfl sz89 rfl rfl rfl rfl) rfl rfl fun a hF => ?_
        refine e_one 6 (by kernel_rfl) ?_
        have hS12 : St _ _ _ _ ([[⟨b3, [s1.v, (.int .i64 t_10.2.at_), (.int .u64 t_10.2.seed.v)], 103⟩]] ++ [[⟨b8, [s6.v], 89⟩], q6, [⟨b2, [nilS.v], 89⟩]]) := hS
        obtain ⟨m12, hl12, hE12, hz12⟩ := hS12.lendX
        refine e_opl rfl rfl rfl fun _ hK => wp_callX (vs := [(.pointer (some ⟨b3, 0, none⟩)), (.agg #[s6.v])]) hF Try.func152 (by kernel_rfl) rfl rfl rfl (c_spec_l1Cur_anArea t_10.2 t_5.1 t_13 ht_13 _ m12 b3 s1 (h11.mono hl12) s6 (h6.froz hl12 (hz12 1 _ rfl)) _ hE12) fun a w _ hR hF => hK _ _ ?_
        obtain ⟨rfl, hR12, hk14⟩ := hR
        have hS : St _ _ _ _ [[⟨b3, [s1.v, (.int .i64 t_13.2.at_), (.int .u64 t_13.2.seed.v)], 103⟩], [⟨b8, [s6.v], 89⟩], q6, [⟨b2, [nilS.v], 89⟩]] := hS12.leaveF hR12
        have h14 : Rd m4' s1 t_13.2.code := by rw [hk14]; exact h11
        refine e_one 7 (by kernel_rfl) ?_
        refine e_store (vs := [s6.v]) (cs' := [s6.v]) 3 0 hF hS rfl rfl sz89 rfl rfl rfl rfl rfl rfl rfl rfl fun a w hF hS => ?_
        refine e_p (v := (.int .i64 t_10.1)) 8 hF rfl (ex_assign rfl) rfl rfl (by kernel_rfl) (by kernel_rfl) (by kernel_rfl) fun a hF => ?_
        refine e_p (v := (.int .i64 t_13.1)) 9 hF rfl (ex_assign rfl) rfl rfl (by kernel_rfl) (by kernel_rfl) (by kernel_rfl) fun a hF => ?_
        refine e_end (by kernel_rfl) (n_sq (q_ret ?_)) _
        obtain rfl := someI hr
        exact ret_of hF hS rfl (.cellA (us := [s6.v]) 3 0 Try.underlying89 rfl sz89 rfl rfl rfl rfl (.tmp rfl (.tmp rfl .nil))) ⟨m4', q6, s6, rfl, hm4, hS.sel [2] (by decide), h6⟩
      · refine e_lx (v := (.agg #[s6.v])) hF hS rfl (ex_loadA (vs := [s6.v]) 0 0 Try.underlying89 rfl sz89 rfl rfl rfl rfl) rfl rfl fun a hF => ?_
        refine e_one 3 (by kernel_rfl) ?_
        have hS : St _ _ _ _ [[⟨b3, [s1.v, (.int .i64 t_5.2.at_), (.int .u64 t_5.2.seed.v)], 103⟩], [⟨b8, [s6.v], 89⟩], q6, [⟨b2, [nilS.v], 89⟩]] := hS.sel [1, 0, 2, 3] (by decide)
        have hS9 : St _ _ _ _ ([[⟨b3, [s1.v, (.int .i64 t_5.2.at_), (.int .u64 t_5.2.seed.v)], 103⟩]] ++ [[⟨b8, [s6.v], 89⟩], q6, [⟨b2, [nilS.v], 89⟩]]) := hS
        obtain ⟨m9, hl9, hE9, hz9⟩ := hS9.lendX
        refine e_opl rfl rfl rfl fun _ hK => wp_callX (vs := [(.pointer (some ⟨b3, 0, none⟩)), (.agg #[s6.v])]) hF Try.func152 (by kernel_rfl) rfl rfl rfl (c_spec_l1Cur_anArea t_5.2 t_5.1 t_10 ht_10 _ m9 b3 s1 (h7.mono hl9) s6 (h6.froz hl9 (hz9 1 _ rfl)) _ hE9) fun a w _ hR hF => hK _ _ ?_
        obtain ⟨rfl, hR9, hk11⟩ := hR
        have hS : St _ _ _ _ [[⟨b3, [s1.v, (.int .i64 t_10.2.at_), (.int .u64 t_10.2.seed.v)], 103⟩], [⟨b8, [s6.v], 89⟩], q6, [⟨b2, [nilS.v], 89⟩]] := hS9.leaveF hR9
        have h11 : Rd m4' s1 t_10.2.code := by rw [hk11]; exact h7
        refine e_one 6 (by kernel_rfl) ?_
        have hS12 : St _ _ _ _ ([[⟨b3, [s1.v, (.int .i64 t_10.2.at_), (.int .u64 t_10.2.seed.v)], 103⟩]] ++ [[⟨b8, [s6.v], 89⟩], q6, [⟨b2, [nilS.v], 89⟩]]) := hS
        obtain ⟨m12, hl12, hE12, hz12⟩ := hS12.lendX
        refine e_opl rfl rfl rfl fun _ hK => wp_callX (vs := [(.pointer (some ⟨b3, 0, none⟩)), (.agg #[s6.v])]) hF Try.func152 (by kernel_rfl) rfl rfl rfl (c_spec_l1Cur_anArea t_10.2 t_5.1 t_13 ht_13 _ m12 b3 s1 (h11.mono hl12) s6 (h6.froz hl12 (hz12 1 _ rfl)) _ hE12) fun a w _ hR hF => hK _ _ ?_
        obtain ⟨rfl, hR12, hk14⟩ := hR
        have hS : St _ _ _ _ [[⟨b3, [s1.v, (.int .i64 t_13.2.at_), (.int .u64 t_13.2.seed.v)], 103⟩], [⟨b8, [s6.v], 89⟩], q6, [⟨b2, [nilS.v], 89⟩]] := hS12.leaveF hR12
        have h14 : Rd m4' s1 t_13.2.code := by rw [hk14]; exact h11
        refine e_one 7 (by kernel_rfl) ?_
        refine e_store (vs := [s6.v]) (cs' := [s6.v]) 3 0 hF hS rfl rfl sz89 rfl rfl rfl rfl rfl rfl rfl rfl fun a w hF hS => ?_
        refine e_p (v := (.int .i64 t_10.1)) 8 hF rfl (ex_assign rfl) rfl rfl (by kernel_rfl) (by kernel_rfl) (by kernel_rfl) fun a hF => ?_
        refine e_p (v := (.int .i64 t_13.1)) 9 hF rfl (ex_assign rfl) rfl rfl (by kernel_rfl) (by kernel_rfl) (by kernel_rfl) fun a hF => ?_
        refine e_end (by kernel_rfl) (n_sq (q_ret ?_)) _
        obtain rfl := someI hr
        exact ret_of hF hS rfl (.cellA (us := [s6.v]) 3 0 Try.underlying89 rfl sz89 rfl rfl rfl rfl (.tmp rfl (.tmp rfl .nil))) ⟨m4', q6, s6, rfl, hm4, hS.sel [2] (by decide), h6⟩
    · have hS : St _ _ _ _ [[⟨b3, [s1.v, (.int .i64 t_5.2.at_), (.int .u64 t_5.2.seed.v)], 103⟩], [⟨b8, [s6.v], 89⟩], q6, [⟨b2, [nilS.v], 89⟩]] := hS.sel [1, 0, 2, 3] (by decide)
      have hS9 : St _ _ _ _ ([[⟨b3, [s1.v, (.int .i64 t_5.2.at_), (.int .u64 t_5.2.seed.v)], 103⟩]] ++ [[⟨b8, [s6.v], 89⟩], q6, [⟨b2, [nilS.v], 89⟩]]) := hS
      obtain ⟨m9, hl9, hE9, hz9⟩ := hS9.lendX
      refine e_opl rfl rfl rfl fun _ hK => wp_callX (vs := [(.pointer (some ⟨b3, 0, none⟩)), (.agg #[s6.v])]) hF Try.func152 (by kernel_rfl) rfl rfl rfl (c_spec_l1Cur_anArea t_5.2 t_5.1 t_10 ht_10 _ m9 b3 s1 (h7.mono hl9) s6 (h6.froz hl9 (hz9 1 _ rfl)) _ hE9) fun a w _ hR hF => hK _ _ ?_
      obtain ⟨rfl, hR9, hk11⟩ := hR
      have hS : St _ _ _ _ [[⟨b3, [s1.v, (.int .i64 t_10.2.at_), (.int .u64 t_10.2.seed.v)], 103⟩], [⟨b8, [s6.v], 89⟩], q6, [⟨b2, [nilS.v], 89⟩]] := hS9.leaveF hR9
      have h11 : Rd m4' s1 t_10.2.code := by rw [hk11]; exact h7
      refine e_all [0, 5] (by kernel_rfl) rfl ⟨?_, ?_, trivial⟩
      · refine e_lx (v := (.agg #[s6.v])) hF hS rfl (ex_loadA (vs := [s6.v]) 1 0 Try.underlying89 rfl sz89 rfl rfl rfl rfl) rfl rfl fun a hF => ?_
        refine e_one 5 (by kernel_rfl) ?_
        refine e_lx (v := (.agg #[s6.v])) hF hS rfl (ex_loadA (vs := [s6.v]) 1 0 Try.underlying89 rfl sz89 rfl rfl rfl rfl) rfl rfl fun a hF => ?_
        refine e_one 6 (by kernel_rfl) ?_
        have hS12 : St _ _ _ _ ([[⟨b3, [s1.v, (.int .i64 t_10.2.at_), (.int .u64 t_10.2.seed.v)], 103⟩]] ++ [[⟨b8, [s6.v], 89⟩], q6, [⟨b2, [nilS.v], 89⟩]]) := hS
        obtain ⟨m12, hl12, hE12, hz12⟩ := hS12.lendX
        refine e_opl rfl rfl rfl fun _ hK => wp_callX (vs := [(.pointer (some ⟨b3, 0, none⟩)), (.agg #[s6.v])]) hF Try.func152 (by kernel_rfl) rfl rfl rfl (c_spec_l1Cur_anArea t_10.2 t_5.1 t_13 ht_13 _ m12 b3 s1 (h11.mono hl12) s6 (h6.froz hl12 (hz12 1 _ rfl)) _ hE12) fun a w _ hR hF => hK _ _ ?_
        obtain ⟨rfl, hR12, hk14⟩ := hR
        have hS : St _ _ _ _ [[⟨b3, [s1.v, (.int .i64 t_13.2.at_), (.int .u64 t_13.2.seed.v)], 103⟩], [⟨b8, [s6.v], 89⟩], q6, [⟨b2, [nilS.v], 89⟩]] := hS12.leaveF hR12
        have h14 : Rd m4' s1 t_13.2.code := by rw [hk14]; exact h11
        refine e_one 7 (by kernel_rfl) ?_
        refine e_store (vs := [s6.v]) (cs' := [s6.v]) 3 0 hF hS rfl rfl sz89 rfl rfl rfl rfl rfl rfl rfl rfl fun a w hF hS => ?_
        refine e_p (v := (.int .i64 t_10.1)) 8 hF rfl (ex_assign rfl) rfl rfl (by kernel_rfl) (by kernel_rfl) (by kernel_rfl) fun a hF => ?_
        refine e_p (v := (.int .i64 t_13.1)) 9 hF rfl (ex_assign rfl) rfl rfl (by kernel_rfl) (by kernel_rfl) (by kernel_rfl) fun a hF => ?_
        refine e_end (by kernel_rfl) (n_sq (q_ret ?_)) _
        obtain rfl := someI hr
        exact ret_of hF hS rfl (.cellA (us := [s6.v]) 3 0 Try.underlying89 rfl sz89 rfl rfl rfl rfl (.tmp rfl (.tmp rfl .nil))) ⟨m4', q6, s6, rfl, hm4, hS.sel [2] (by decide), h6⟩
      · refine e_lx (v := (.agg #[s6.v])) hF hS rfl (ex_loadA (vs := [s6.v]) 1 0 Try.underlying89 rfl sz89 rfl rfl rfl rfl) rfl rfl fun a hF => ?_
        refine e_all [0, 6] (by kernel_rfl) rfl ⟨?_, ?_, trivial⟩
        · refine e_lx (v := (.agg #[s6.v])) hF hS rfl (ex_loadA (vs := [s6.v]) 1 0 Try.underlying89 rfl sz89 rfl rfl rfl rfl) rfl rfl fun a hF => ?_
          refine e_one 6 (by kernel_rfl) ?_
          have hS12 : St _ _ _ _ ([[⟨b3, [s1.v, (.int .i64 t_10.2.at_), (.int .u64 t_10.2.seed.v)], 103⟩]] ++ [[⟨b8, [s6.v], 89⟩], q6, [⟨b2, [nilS.v], 89⟩]]) := hS
          obtain ⟨m12, hl12, hE12, hz12⟩ := hS12.lendX
          refine e_opl rfl rfl rfl fun _ hK => wp_callX (vs := [(.pointer (some ⟨b3, 0, none⟩)), (.agg #[s6.v])]) hF Try.func152 (by kernel_rfl) rfl rfl rfl (c_spec_l1Cur_anArea t_10.2 t_5.1 t_13 ht_13 _ m12 b3 s1 (h11.mono hl12) s6 (h6.froz hl12 (hz12 1 _ rfl)) _ hE12) fun a w _ hR hF => hK _ _ ?_
          obtain ⟨rfl, hR12, hk14⟩ := hR
          have hS : St _ _ _ _ [[⟨b3, [s1.v, (.int .i64 t_13.2.at_), (.int .u64 t_13.2.seed.v)], 103⟩], [⟨b8, [s6.v], 89⟩], q6, [⟨b2, [nilS.v], 89⟩]] := hS12.leaveF hR12
          have h14 : Rd m4' s1 t_13.2.code := by rw [hk14]; exact h11
          refine e_one 7 (by kernel_rfl) ?_
          refine e_store (vs := [s6.v]) (cs' := [s6.v]) 3 0 hF hS rfl rfl sz89 rfl rfl rfl rfl rfl rfl rfl rfl fun a w hF hS => ?_
          refine e_p (v := (.int .i64 t_10.1)) 8 hF rfl (ex_assign rfl) rfl rfl (by kernel_rfl) (by kernel_rfl) (by kernel_rfl) fun a hF => ?_
          refine e_p (v := (.int .i64 t_13.1)) 9 hF rfl (ex_assign rfl) rfl rfl (by kernel_rfl) (by kernel_rfl) (by kernel_rfl) fun a hF => ?_
          refine e_end (by kernel_rfl) (n_sq (q_ret ?_)) _
          obtain rfl := someI hr
          exact ret_of hF hS rfl (.cellA (us := [s6.v]) 3 0 Try.underlying89 rfl sz89 rfl rfl rfl rfl (.tmp rfl (.tmp rfl .nil))) ⟨m4', q6, s6, rfl, hm4, hS.sel [2] (by decide), h6⟩
        · have hS12 : St _ _ _ _ ([[⟨b3, [s1.v, (.int .i64 t_10.2.at_), (.int .u64 t_10.2.seed.v)], 103⟩]] ++ [[⟨b8, [s6.v], 89⟩], q6, [⟨b2, [nilS.v], 89⟩]]) := hS
          obtain ⟨m12, hl12, hE12, hz12⟩ := hS12.lendX
          refine e_opl rfl rfl rfl fun _ hK => wp_callX (vs := [(.pointer (some ⟨b3, 0, none⟩)), (.agg #[s6.v])]) hF Try.func152 (by kernel_rfl) rfl rfl rfl (c_spec_l1Cur_anArea t_10.2 t_5.1 t_13 ht_13 _ m12 b3 s1 (h11.mono hl12) s6 (h6.froz hl12 (hz12 1 _ rfl)) _ hE12) fun a w _ hR hF => hK _ _ ?_
          obtain ⟨rfl, hR12, hk14⟩ := hR
          have hS : St _ _ _ _ [[⟨b3, [s1.v, (.int .i64 t_13.2.at_), (.int .u64 t_13.2.seed.v)], 103⟩], [⟨b8, [s6.v], 89⟩], q6, [⟨b2, [nilS.v], 89⟩]] := hS12.leaveF hR12
          have h14 : Rd m4' s1 t_13.2.code := by rw [hk14]; exact h11
          refine e_x (v := (.agg #[s6.v])) 0 hF hS rfl (ex_loadA (vs := [s6.v]) 1 0 Try.underlying89 rfl sz89 rfl rfl rfl rfl) rfl rfl (by kernel_rfl) (by kernel_rfl) (by kernel_rfl) (by kernel_rfl) fun a hF => ?_
          refine e_one 7 (by kernel_rfl) ?_
          refine e_store (vs := [s6.v]) (cs' := [s6.v]) 3 0 hF hS rfl rfl sz89 rfl rfl rfl rfl rfl rfl rfl rfl fun a w hF hS => ?_
          refine e_p (v := (.int .i64 t_10.1)) 8 hF rfl (ex_assign rfl) rfl rfl (by kernel_rfl) (by kernel_rfl) (by kernel_rfl) fun a hF => ?_
          refine e_p (v := (.int .i64 t_13.1)) 9 hF rfl (ex_assign rfl) rfl rfl (by kernel_rfl) (by kernel_rfl) (by kernel_rfl) fun a hF => ?_
          refine e_end (by kernel_rfl) (n_sq (q_ret ?_)) _
          obtain rfl := someI hr
          exact ret_of hF hS rfl (.cellA (us := [s6.v]) 3 0 Try.underlying89 rfl sz89 rfl rfl rfl rfl (.tmp rfl (.tmp rfl .nil))) ⟨m4', q6, s6, rfl, hm4, hS.sel [2] (by decide), h6⟩
    · refine e_lx (v := (.agg #[s6.v])) hF hS rfl (ex_loadA (vs := [s6.v]) 0 0 Try.underlying89 rfl sz89 rfl rfl rfl rfl) rfl rfl fun a hF => ?_
      refine e_all [0, 3] (by kernel_rfl) rfl ⟨?_, ?_, trivial⟩
      · refine e_lx (v := (.agg #[s6.v])) hF hS rfl (ex_loadA (vs := [s6.v]) 0 0 Try.underlying89 rfl sz89 rfl rfl rfl rfl) rfl rfl fun a hF => ?_
        refine e_one 3 (by kernel_rfl) ?_
        have hS : St _ _ _ _ [[⟨b3, [s1.v, (.int .i64 t_5.2.at_), (.int .u64 t_5.2.seed.v)], 103⟩], [⟨b8, [s6.v], 89⟩], q6, [⟨b2, [nilS.v], 89⟩]] := hS.sel [1, 0, 2, 3] (by decide)
        have hS9 : St _ _ _ _ ([[⟨b3, [s1.v, (.int .i64 t_5.2.at_), (.int .u64 t_5.2.seed.v)], 103⟩]] ++ [[⟨b8, [s6.v], 89⟩], q6, [⟨b2, [nilS.v], 89⟩]]) := hS
        obtain ⟨m9, hl9, hE9, hz9⟩ := hS9.lendX
        refine e_opl rfl rfl rfl fun _ hK => wp_callX (vs := [(.pointer (some ⟨b3, 0, none⟩)), (.agg #[s6.v])]) hF Try.func152 (by kernel_rfl) rfl rfl rfl (c_spec_l1Cur_anArea t_5.2 t_5.1 t_10 ht_10 _ m9 b3 s1 (h7.mono hl9) s6 (h6.froz hl9 (hz9 1 _ rfl)) _ hE9) fun a w _ hR hF => hK _ _ ?_
        obtain ⟨rfl, hR9, hk11⟩ := hR
        have hS : St _ _ _ _ [[⟨b3, [s1.v, (.int .i64 t_10.2.at_), (.int .u64 t_10.2.seed.v)], 103⟩], [⟨b8, [s6.v], 89⟩], q6, [⟨b2, [nilS.v], 89⟩]] := hS9.leaveF hR9
        have h11 : Rd m4' s1 t_10.2.code := by rw [hk11]; exact h7
        refine e_one 6 (by kernel_rfl) ?_
        have hS12 : St _ _ _ _ ([[⟨b3, [s1.v, (.int .i64 t_10.2.at_), (.int .u64 t_10.2.seed.v)], 103⟩]] ++ [[⟨b8, [s6.v], 89⟩], q6, [⟨b2, [nilS.v], 89⟩]]) := hS
        obtain ⟨m12, hl12, hE12, hz12⟩ := hS12.lendX
        refine e_opl rfl rfl rfl fun _ hK => wp_callX (vs := [(.pointer (some ⟨b3, 0, none⟩)), (.agg #[s6.v])]) hF Try.func152 (by kernel_rfl) rfl rfl rfl (c_spec_l1Cur_anArea t_10.2 t_5.1 t_13 ht_13 _ m12 b3 s1 (h11.mono hl12) s6 (h6.froz hl12 (hz12 1 _ rfl)) _ hE12) fun a w _ hR hF => hK _ _ ?_
        obtain ⟨rfl, hR12, hk14⟩ := hR
        have hS : St _ _ _ _ [[⟨b3, [s1.v, (.int .i64 t_13.2.at_), (.int .u64 t_13.2.seed.v)], 103⟩], [⟨b8, [s6.v], 89⟩], q6, [⟨b2, [nilS.v], 89⟩]] := hS12.leaveF hR12
        have h14 : Rd m4' s1 t_13.2.code := by rw [hk14]; exact h11
        refine e_one 7 (by kernel_rfl) ?_
        refine e_store (vs := [s6.v]) (cs' := [s6.v]) 3 0 hF hS rfl rfl sz89 rfl rfl rfl rfl rfl rfl rfl rfl fun a w hF hS => ?_
        refine e_p (v := (.int .i64 t_10.1)) 8 hF rfl (ex_assign rfl) rfl rfl (by kernel_rfl) (by kernel_rfl) (by kernel_rfl) fun a hF => ?_
        refine e_p (v := (.int .i64 t_13.1)) 9 hF rfl (ex_assign rfl) rfl rfl (by kernel_rfl) (by kernel_rfl) (by kernel_rfl) fun a hF => ?_
        refine e_end (by kernel_rfl) (n_sq (q_ret ?_)) _
        obtain rfl := someI hr
        exact ret_of hF hS rfl (.cellA (us := [s6.v]) 3 0 Try.underlying89 rfl sz89 rfl rfl rfl rfl (.tmp rfl (.tmp rfl .nil))) ⟨m4', q6, s6, rfl, hm4, hS.sel [2] (by decide), h6⟩
      · have hS : St _ _ _ _ [[⟨b3, [s1.v, (.int .i64 t_5.2.at_), (.int .u64 t_5.2.seed.v)], 103⟩], [⟨b8, [s6.v], 89⟩], q6, [⟨b2, [nilS.v], 89⟩]] := hS.sel [1, 0, 2, 3] (by decide)
        have hS9 : St _ _ _ _ ([[⟨b3, [s1.v, (.int .i64 t_5.2.at_), (.int .u64 t_5.2.seed.v)], 103⟩]] ++ [[⟨b8, [s6.v], 89⟩], q6, [⟨b2, [nilS.v], 89⟩]]) := hS
        obtain ⟨m9, hl9, hE9, hz9⟩ := hS9.lendX
        refine e_opl rfl rfl rfl fun _ hK => wp_callX (vs := [(.pointer (some ⟨b3, 0, none⟩)), (.agg #[s6.v])]) hF Try.func152 (by kernel_rfl) rfl rfl rfl (c_spec_l1Cur_anArea t_5.2 t_5.1 t_10 ht_10 _ m9 b3 s1 (h7.mono hl9) s6 (h6.froz hl9 (hz9 1 _ rfl)) _ hE9) fun a w _ hR hF => hK _ _ ?_
        obtain ⟨rfl, hR9, hk11⟩ := hR
        have hS : St _ _ _ _ [[⟨b3, [s1.v, (.int .i64 t_10.2.at_), (.int .u64 t_10.2.seed.v)], 103⟩], [⟨b8, [s6.v], 89⟩], q6, [⟨b2, [nilS.v], 89⟩]] := hS9.leaveF hR9
        have h11 : Rd m4' s1 t_10.2.code := by rw [hk11]; exact h7
        refine e_all [0, 6] (by kernel_rfl) rfl ⟨?_, ?_, trivial⟩
        · refine e_lx (v := (.agg #[s6.v])) hF hS rfl (ex_loadA (vs := [s6.v]) 1 0 Try.underlying89 rfl sz89 rfl rfl rfl rfl) rfl rfl fun a hF => ?_
          refine e_one 6 (by kernel_rfl) ?_
          have hS12 : St _ _ _ _ ([[⟨b3, [s1.v, (.int .i64 t_10.2.at_), (.int .u64 t_10.2.seed.v)], 103⟩]] ++ [[⟨b8, [s6.v], 89⟩], q6, [⟨b2, [nilS.v], 89⟩]]) := hS
          obtain ⟨m12, hl12, hE12, hz12⟩ := hS12.lendX
          refine e_opl rfl rfl rfl fun _ hK => wp_callX (vs := [(.pointer (some ⟨b3, 0, none⟩)), (.agg #[s6.v])]) hF Try.func152 (by kernel_rfl) rfl rfl rfl (c_spec_l1Cur_anArea t_10.2 t_5.1 t_13 ht_13 _ m12 b3 s1 (h11.mono hl12) s6 (h6.froz hl12 (hz12 1 _ rfl)) _ hE12) fun a w _ hR hF => hK _ _ ?_
          obtain ⟨rfl, hR12, hk14⟩ := hR
          have hS : St _ _ _ _ [[⟨b3, [s1.v, (.int .i64 t_13.2.at_), (.int .u64 t_13.2.seed.v)], 103⟩], [⟨b8, [s6.v], 89⟩], q6, [⟨b2, [nilS.v], 89⟩]] := hS12.leaveF hR12
          have h14 : Rd m4' s1 t_13.2.code := by rw [hk14]; exact h11
          refine e_one 7 (by kernel_rfl) ?_
          refine e_store (vs := [s6.v]) (cs' := [s6.v]) 3 0 hF hS rfl rfl sz89 rfl rfl rfl rfl rfl rfl rfl rfl fun a w hF hS => ?_
          refine e_p (v := (.int .i64 t_10.1)) 8 hF rfl (ex_assign rfl) rfl rfl (by kernel_rfl) (by kernel_rfl) (by kernel_rfl) fun a hF => ?_
          refine e_p (v := (.int .i64 t_13.1)) 9 hF rfl (ex_assign rfl) rfl rfl (by kernel_rfl) (by kernel_rfl) (by kernel_rfl) fun a hF => ?_
          refine e_end (by kernel_rfl) (n_sq (q_ret ?_)) _
          obtain rfl := someI hr
          exact ret_of hF hS rfl (.cellA (us := [s6.v]) 3 0 Try.underlying89 rfl sz89 rfl rfl rfl rfl (.tmp rfl (.tmp rfl .nil))) ⟨m4', q6, s6, rfl, hm4, hS.sel [2] (by decide), h6⟩
        · have hS12 : St _ _ _ _ ([[⟨b3, [s1.v, (.int .i64 t_10.2.at_), (.int .u64 t_10.2.seed.v)], 103⟩]] ++ [[⟨b8, [s6.v], 89⟩], q6, [⟨b2, [nilS.v], 89⟩]]) := hS
          obtain ⟨m12, hl12, hE12, hz12⟩ := hS12.lendX
          refine e_opl rfl rfl rfl fun _ hK => wp_callX (vs := [(.pointer (some ⟨b3, 0, none⟩)), (.agg #[s6.v])]) hF Try.func152 (by kernel_rfl) rfl rfl rfl (c_spec_l1Cur_anArea t_10.2 t_5.1 t_13 ht_13 _ m12 b3 s1 (h11.mono hl12) s6 (h6.froz hl12 (hz12 1 _ rfl)) _ hE12) fun a w _ hR hF => hK _ _ ?_
          obtain ⟨rfl, hR12, hk14⟩ := hR
          have hS : St _ _ _ _ [[⟨b3, [s1.v, (.int .i64 t_13.2.at_), (.int .u64 t_13.2.seed.v)], 103⟩], [⟨b8, [s6.v], 89⟩], q6, [⟨b2, [nilS.v], 89⟩]] := hS12.leaveF hR12
          have h14 : Rd m4' s1 t_13.2.code := by rw [hk14]; exact h11
          refine e_x (v := (.agg #[s6.v])) 0 hF hS rfl (ex_loadA (vs := [s6.v]) 1 0 Try.underlying89 rfl sz89 rfl rfl rfl rfl) rfl rfl (by kernel_rfl) (by kernel_rfl) (by kernel_rfl) (by kernel_rfl) fun a hF => ?_
          refine e_one 7 (by kernel_rfl) ?_
          refine e_store (vs := [s6.v]) (cs' := [s6.v]) 3 0 hF hS rfl rfl sz89 rfl rfl rfl rfl rfl rfl rfl rfl fun a w hF hS => ?_
          refine e_p (v := (.int .i64 t_10.1)) 8 hF rfl (ex_assign rfl) rfl rfl (by kernel_rfl) (by kernel_rfl) (by kernel_rfl) fun a hF => ?_
          refine e_p (v := (.int .i64 t_13.1)) 9 hF rfl (ex_assign rfl) rfl rfl (by kernel_rfl) (by kernel_rfl) (by kernel_rfl) fun a hF => ?_
          refine e_end (by kernel_rfl) (n_sq (q_ret ?_)) _
          obtain rfl := someI hr
          exact ret_of hF hS rfl (.cellA (us := [s6.v]) 3 0 Try.underlying89 rfl sz89 rfl rfl rfl rfl (.tmp rfl (.tmp rfl .nil))) ⟨m4', q6, s6, rfl, hm4, hS.sel [2] (by decide), h6⟩
  · refine e_lx (v := (.agg #[s6.v])) hF hS rfl (ex_loadA (vs := [s6.v]) 0 0 Try.underlying89 rfl sz89 rfl rfl rfl rfl) rfl rfl fun a hF => ?_
    refine e_all [0, 2] (by kernel_rfl) rfl ⟨?_, ?_, trivial⟩
    · refine e_lx (v := (.agg #[s6.v])) hF hS rfl (ex_loadA (vs := [s6.v]) 0 0 Try.underlying89 rfl sz89 rfl rfl rfl rfl) rfl rfl fun a hF => ?_
      refine e_one 2 (by kernel_rfl) ?_
      refine e_lx (v := (.agg #[s6.v])) hF hS rfl (ex_loadA (vs := [s6.v]) 0 0 Try.underlying89 rfl sz89 rfl rfl rfl rfl) rfl rfl fun a hF => ?_
      refine e_one 3 (by kernel_rfl) ?_
      have hS : St _ _ _ _ [[⟨b3, [s1.v, (.int .i64 t_5.2.at_), (.int .u64 t_5.2.seed.v)], 103⟩], [⟨b8, [s6.v], 89⟩], q6, [⟨b2, [nilS.v], 89⟩]] := hS.sel [1, 0, 2, 3] (by decide)
      have hS9 : St _ _ _ _ ([[⟨b3, [s1.v, (.int .i64 t_5.2.at_), (.int .u64 t_5.2.seed.v)], 103⟩]] ++ [[⟨b8, [s6.v], 89⟩], q6, [⟨b2, [nilS.v], 89⟩]]) := hS
      obtain ⟨m9, hl9, hE9, hz9⟩ := hS9.lendX
      refine e_opl rfl rfl rfl fun _ hK => wp_callX (vs := [(.pointer (some ⟨b3, 0, none⟩)), (.agg #[s6.v])]) hF Try.func152 (by kernel_rfl) rfl rfl rfl (c_spec_l1Cur_anArea t_5.2 t_5.1 t_10 ht_10 _ m9 b3 s1 (h7.mono hl9) s6 (h6.froz hl9 (hz9 1 _ rfl)) _ hE9) fun a w _ hR hF => hK _ _ ?_
      obtain ⟨rfl, hR9, hk11⟩ := hR
      have hS : St _ _ _ _ [[⟨b3, [s1.v, (.int .i64 t_10.2.at_), (.int .u64 t_10.2.seed.v)], 103⟩], [⟨b8, [s6.v], 89⟩], q6, [⟨b2, [nilS.v], 89⟩]] := hS9.leaveF hR9
      have h11 : Rd m4' s1 t_10.2.code := by rw [hk11]; exact h7
      refine e_one 6 (by kernel_rfl) ?_
      have hS12 : St _ _ _ _ ([[⟨b3, [s1.v, (.int .i64 t_10.2.at_), (.int .u64 t_10.2.seed.v)], 103⟩]] ++ [[⟨b8, [s6.v], 89⟩], q6, [⟨b2, [nilS.v], 89⟩]]) := hS
      obtain ⟨m12, hl12, hE12, hz12⟩ := hS12.lendX
      refine e_opl rfl rfl rfl fun _ hK => wp_callX (vs := [(.pointer (some ⟨b3, 0, none⟩)), (.agg #[s6.v])]) hF Try.func152 (by kernel_rfl) rfl rfl rfl (c_spec_l1Cur_anArea t_10.2 t_5.1 t_13 ht_13 _ m12 b3 s1 (h11.mono hl12) s6 (h6.froz hl12 (hz12 1 _ rfl)) _ hE12) fun a w _ hR hF => hK _ _ ?_
      obtain ⟨rfl, hR12, hk14⟩ := hR
      have hS : St _ _ _ _ [[⟨b3, [s1.v, (.int .i64 t_13.2.at_), (.int .u64 t_13.2.seed.v)], 103⟩], [⟨b8, [s6.v], 89⟩], q6, [⟨b2, [nilS.v], 89⟩]] := hS12.leaveF hR12
      have h14 : Rd m4' s1 t_13.2.code := by rw [hk14]; exact h11
      refine e_one 7 (by kernel_rfl) ?_
      refine e_store (vs := [s6.v]) (cs' := [s6.v]) 3 0 hF hS rfl rfl sz89 rfl rfl rfl rfl rfl rfl rfl rfl fun a w hF hS => ?_
      refine e_p (v := (.int .i64 t_10.1)) 8 hF rfl (ex_assign rfl) rfl rfl (by kernel_rfl) (by kernel_rfl) (by kernel_rfl) fun a hF => ?_
      refine e_p (v := (.int .i64 t_13.1)) 9 hF rfl (ex_assign rfl) rfl rfl (by kernel_rfl) (by kernel_rfl) (by kernel_rfl) fun a hF => ?_
      refine e_end (by kernel_rfl) (n_sq (q_ret ?_)) _
      obtain rfl := someI hr
      exact ret_of hF hS rfl (.cellA (us := [s6.v]) 3 0 Try.underlying89 rfl sz89 rfl rfl rfl rfl (.tmp rfl (.tmp rfl .nil))) ⟨m4', q6, s6, rfl, hm4, hS.sel [2] (by decide), h6⟩
    · refine e_lx (v := (.agg #[s6.v])) hF hS rfl (ex_loadA (vs := [s6.v]) 0 0 Try.underlying89 rfl sz89 rfl rfl rfl rfl) rfl rfl fun a hF => ?_
      refine e_all [0, 3] (by kernel_rfl) rfl ⟨?_, ?_, trivial⟩
      · refine e_lx (v := (.agg #[s6.v])) hF hS rfl (ex_loadA (vs := [s6.v]) 0 0 Try.underlying89 rfl sz89 rfl rfl rfl rfl) rfl rfl fun a hF => ?_
        refine e_one 3 (by kernel_rfl) ?_
        have hS : St _ _ _ _ [[⟨b3, [s1.v, (.int .i64 t_5.2.at_), (.int .u64 t_5.2.seed.v)], 103⟩], [⟨b8, [s6.v], 89⟩], q6, [⟨b2, [nilS.v], 89⟩]] := hS.sel [1, 0, 2, 3] (by decide)
        have hS9 : St _ _ _ _ ([[⟨b3, [s1.v, (.int .i64 t_5.2.at_), (.int .u64 t_5.2.seed.v)], 103⟩]] ++ [[⟨b8, [s6.v], 89⟩], q6, [⟨b2, [nilS.v], 89⟩]]) := hS
        obtain ⟨m9, hl9, hE9, hz9⟩ := hS9.lendX
        refine e_opl rfl rfl rfl fun _ hK => wp_callX (vs := [(.pointer (some ⟨b3, 0, none⟩)), (.agg #[s6.v])]) hF Try.func152 (by kernel_rfl) rfl rfl rfl (c_spec_l1Cur_anArea t_5.2 t_5.1 t_10 ht_10 _ m9 b3 s1 (h7.mono hl9) s6 (h6.froz hl9 (hz9 1 _ rfl)) _ hE9) fun a w _ hR hF => hK _ _ ?_
        obtain ⟨rfl, hR9, hk11⟩ := hR
        have hS : St _ _ _ _ [[⟨b3, [s1.v, (.int .i64 t_10.2.at_), (.int .u64 t_10.2.seed.v)], 103⟩], [⟨b8, [s6.v], 89⟩], q6, [⟨b2, [nilS.v], 89⟩]] := hS9.leaveF hR9
        have h11 : Rd m4' s1 t_10.2.code := by rw [hk11]; exact h7
        refine e_one 6 (by kernel_rfl) ?_
        have hS12 : St _ _ _ _ ([[⟨b3, [s1.v, (.int .i64 t_10.2.at_), (.int .u64 t_10.2.seed.v)], 103⟩]] ++ [[⟨b8, [s6.v], 89⟩], q6, [⟨b2, [nilS.v], 89⟩]]) := hS
        obtain ⟨m12, hl12, hE12, hz12⟩ := hS12.lendX
        refine e_opl rfl rfl rfl fun _ hK => wp_callX (vs := [(.pointer (some ⟨b3, 0, none⟩)), (.agg #[s6.v])]) hF Try.func152 (by kernel_rfl) rfl rfl rfl (c_spec_l1Cur_anArea t_10.2 t_5.1 t_13 ht_13 _ m12 b3 s1 (h11.mono hl12) s6 (h6.froz hl12 (hz12 1 _ rfl)) _ hE12) fun a w _ hR hF => hK _ _ ?_
        obtain ⟨rfl, hR12, hk14⟩ := hR
        have hS : St _ _ _ _ [[⟨b3, [s1.v, (.int .i64 t_13.2.at_), (.int .u64 t_13.2.seed.v)], 103⟩], [⟨b8, [s6.v], 89⟩], q6, [⟨b2, [nilS.v], 89⟩]] := hS12.leaveF hR12
        have h14 : Rd m4' s1 t_13.2.code := by rw [hk14]; exact h11
        refine e_one 7 (by kernel_rfl) ?_
        refine e_store (vs := [s6.v]) (cs' := [s6.v]) 3 0 hF hS rfl rfl sz89 rfl rfl rfl rfl rfl rfl rfl rfl fun a w hF hS => ?_
        refine e_p (v := (.int .i64 t_10.1)) 8 hF rfl (ex_assign rfl) rfl rfl (by kernel_rfl) (by kernel_rfl) (by kernel_rfl) fun a hF => ?_
        refine e_p (v := (.int .i64 t_13.1)) 9 hF rfl (ex_assign rfl) rfl rfl (by kernel_rfl) (by kernel_rfl) (by kernel_rfl) fun a hF => ?_
        refine e_end (by kernel_rfl) (n_sq (q_ret ?_)) _
        obtain rfl := someI hr
        exact ret_of hF hS rfl (.cellA (us := [s6.v]) 3 0 Try.underlying89 rfl sz89 rfl rfl rfl rfl (.tmp rfl (.tmp rfl .nil))) ⟨m4', q6, s6, rfl, hm4, hS.sel [2] (by decide), h6⟩
      · have hS : St _ _ _ _ [[⟨b3, [s1.v, (.int .i64 t_5.2.at_), (.int .u64 t_5.2.seed.v)], 103⟩], [⟨b8, [s6.v], 89⟩], q6, [⟨b2, [nilS.v], 89⟩]] := hS.sel [1, 0, 2, 3] (by decide)
        have hS9 : St _ _ _ _ ([[⟨b3, [s1.v, (.int .i64 t_5.2.at_), (.int .u64 t_5.2.seed.v)], 103⟩]] ++ [[⟨b8, [s6.v], 89⟩], q6, [⟨b2, [nilS.v], 89⟩]]) := hS
        obtain ⟨m9, hl9, hE9, hz9⟩ := hS9.lendX
        refine e_opl rfl rfl rfl fun _ hK => wp_callX (vs := [(.pointer (some ⟨b3, 0, none⟩)), (.agg #[s6.v])]) hF Try.func152 (by kernel_rfl) rfl rfl rfl (c_spec_l1Cur_anArea t_5.2 t_5.1 t_10 ht_10 _ m9 b3 s1 (h7.mono hl9) s6 (h6.froz hl9 (hz9 1 _ rfl)) _ hE9) fun a w _ hR hF => hK _ _ ?_
        obtain ⟨rfl, hR9, hk11⟩ := hR
        have hS : St _ _ _ _ [[⟨b3, [s1.v, (.int .i64 t_10.2.at_), (.int .u64 t_10.2.seed.v)], 103⟩], [⟨b8, [s6.v], 89⟩], q6, [⟨b2, [nilS.v], 89⟩]] := hS9.leaveF hR9
        have h11 : Rd m4' s1 t_10.2.code := by rw [hk11]; exact h7
        refine e_all [0, 6] (by kernel_rfl) rfl ⟨?_, ?_, trivial⟩
        · refine e_lx (v := (.agg #[s6.v])) hF hS rfl (ex_loadA (vs := [s6.v]) 1 0 Try.underlying89 rfl sz89 rfl rfl rfl rfl) rfl rfl fun a hF => ?_
          refine e_one 6 (by kernel_rfl) ?_
          have hS12 : St _ _ _ _ ([[⟨b3, [s1.v, (.int .i64 t_10.2.at_), (.int .u64 t_10.2.seed.v)], 103⟩]] ++ [[⟨b8, [s6.v], 89⟩], q6, [⟨b2, [nilS.v], 89⟩]]) := hS
          obtain ⟨m12, hl12, hE12, hz12⟩ := hS12.lendX
          refine e_opl rfl rfl rfl fun _ hK => wp_callX (vs := [(.pointer (some ⟨b3, 0, none⟩)), (.agg #[s6.v])]) hF Try.func152 (by kernel_rfl) rfl rfl rfl (c_spec_l1Cur_anArea t_10.2 t_5.1 t_13 ht_13 _ m12 b3 s1 (h11.mono hl12) s6 (h6.froz hl12 (hz12 1 _ rfl)) _ hE12) fun a w _ hR hF => hK _ _ ?_
          obtain ⟨rfl, hR12, hk14⟩ := hR
          have hS : St _ _ _ _ [[⟨b3, [s1.v, (.int .i64 t_13.2.at_), (.int .u64 t_13.2.seed.v)], 103⟩], [⟨b8, [s6.v], 89⟩], q6, [⟨b2, [nilS.v], 89⟩]] := hS12.leaveF hR12
          have h14 : Rd m4' s1 t_13.2.code := by rw [hk14]; exact h11
          refine e_one 7 (by kernel_rfl) ?_
          refine e_store (vs := [s6.v]) (cs' := [s6.v]) 3 0 hF hS rfl rfl sz89 rfl rfl rfl rfl rfl rfl rfl rfl fun a w hF hS => ?_
          refine e_p (v := (.int .i64 t_10.1)) 8 hF rfl (ex_assign rfl) rfl rfl (by kernel_rfl) (by kernel_rfl) (by kernel_rfl) fun a hF => ?_
          refine e_p (v := (.int .i64 t_13.1)) 9 hF rfl (ex_assign rfl) rfl rfl (by kernel_rfl) (by kernel_rfl) (by kernel_rfl) fun a hF => ?_
          refine e_end (by kernel_rfl) (n_sq (q_ret ?_)) _
          obtain rfl := someI hr
          exact ret_of hF hS rfl (.cellA (us := [s6.v]) 3 0 Try.underlying89 rfl sz89 rfl rfl rfl rfl (.tmp rfl (.tmp rfl .nil))) ⟨m4', q6, s6, rfl, hm4, hS.sel [2] (by decide), h6⟩
        · have hS12 : St _ _ _ _ ([[⟨b3, [s1.v, (.int .i64 t_10.2.at_), (.int .u64 t_10.2.seed.v)], 103⟩]] ++ [[⟨b8, [s6.v], 89⟩], q6, [⟨b2, [nilS.v], 89⟩]]) := hS
          obtain ⟨m12, hl12, hE12, hz12⟩ := hS12.lendX
          refine e_opl rfl rfl rfl fun _ hK => wp_callX (vs := [(.pointer (some ⟨b3, 0, none⟩)), (.agg #[s6.v])]) hF Try.func152 (by kernel_rfl) rfl rfl rfl (c_spec_l1Cur_anArea t_10.2 t_5.1 t_13 ht_13 _ m12 b3 s1 (h11.mono hl12) s6 (h6.froz hl12 (hz12 1 _ rfl)) _ hE12) fun a w _ hR hF => hK _ _ ?_
          obtain ⟨rfl, hR12, hk14⟩ := hR
          have hS : St _ _ _ _ [[⟨b3, [s1.v, (.int .i64 t_13.2.at_), (.int .u64 t_13.2.seed.v)], 103⟩], [⟨b8, [s6.v], 89⟩], q6, [⟨b2, [nilS.v], 89⟩]] := hS12.leaveF hR12
          have h14 : Rd m4' s1 t_13.2.code := by rw [hk14]; exact h11
          refine e_x (v := (.agg #[s6.v])) 0 hF hS rfl (ex_loadA (vs := [s6.v]) 1 0 Try.underlying89 rfl sz89 rfl rfl rfl rfl) rfl rfl (by kernel_rfl) (by kernel_rfl) (by kernel_rfl) (by kernel_rfl) fun a hF => ?_
          refine e_one 7 (by kernel_rfl) ?_
          refine e_store (vs := [s6.v]) (cs' := [s6.v]) 3 0 hF hS rfl rfl sz89 rfl rfl rfl rfl rfl rfl rfl rfl fun a w hF hS => ?_
          refine e_p (v := (.int .i64 t_10.1)) 8 hF rfl (ex_assign rfl) rfl rfl (by kernel_rfl) (by kernel_rfl) (by kernel_rfl) fun a hF => ?_
          refine e_p (v := (.int .i64 t_13.1)) 9 hF rfl (ex_assign rfl) rfl rfl (by kernel_rfl) (by kernel_rfl) (by kernel_rfl) fun a hF => ?_
          refine e_end (by kernel_rfl) (n_sq (q_ret ?_)) _
          obtain rfl := someI hr
          exact ret_of hF hS rfl (.cellA (us := [s6.v]) 3 0 Try.underlying89 rfl sz89 rfl rfl rfl rfl (.tmp rfl (.tmp rfl .nil))) ⟨m4', q6, s6, rfl, hm4, hS.sel [2] (by decide), h6⟩

end Go.Proofs.Ytdbgmkfniichdaa
