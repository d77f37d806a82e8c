/- The walks of the functions: each returns what its plain function says. -/
import Derived.Test.YtnmimeojimfogaaBDefs
import Derived.Test.YtnmimeojimfogaaRows
namespace Go.Proofs.Ytnmimeojimfogaa
open Go.Gx Go.Gx.F Go.RowKit
set_option linter.all false
set_option maxRecDepth 10000

theorem mixed : Try.prog.follows .mixedOrders = true := by kernel_rfl
theorem inf3 : inf Try.prog 3 = some (1, 8, [(.int .i64 0)]) := by kernel_rfl
theorem inf5 : inf Try.prog 5 = some (1, 1, [(.int .u8 0)]) := by kernel_rfl
theorem inf9 : inf Try.prog 9 = some (1, 16, [(strV ([] : List UInt8))]) := by kernel_rfl
theorem inf24 : inf Try.prog 24 = some (1, 24, [nilS.v]) := by kernel_rfl
theorem inf29 : inf Try.prog 29 = some (4, 64, [(.int .i64 0), nilS.v, nilS.v, (.int .i64 0)]) := by kernel_rfl
theorem inf58 : inf Try.prog 58 = some (2, 24, [(strV ([] : List UInt8)), (.int .i64 0)]) := by kernel_rfl
theorem inf106 : inf Try.prog 106 = some (3, 40, [(.int .i64 0), (.int .i64 0), nilS.v]) := by kernel_rfl
theorem sz3 : szOf Try.prog 3 = some 1 := by kernel_rfl
theorem sz5 : szOf Try.prog 5 = some 1 := by kernel_rfl
theorem sz9 : szOf Try.prog 9 = some 1 := by kernel_rfl
theorem sz22 : szOf Try.prog 22 = some 1 := by kernel_rfl
theorem sz24 : szOf Try.prog 24 = some 1 := by kernel_rfl
theorem sz26 : szOf Try.prog 26 = some 1 := by kernel_rfl
theorem sz29 : szOf Try.prog 29 = some 4 := by kernel_rfl
theorem sz46 : szOf Try.prog 46 = some 1 := by kernel_rfl
theorem sz58 : szOf Try.prog 58 = some 2 := by kernel_rfl
theorem sz63 : szOf Try.prog 63 = some 1 := by kernel_rfl
theorem sz106 : szOf Try.prog 106 = some 3 := by kernel_rfl

theorem c_laws_big (p_code : List (K .u8)) (p_more : List (K .u8)) (r : Bool) (hr : laws_big p_code p_more = some r) (w0 : World) (m : Mem) (hv : Vis m w0) (s1 : Sl) (h1 : Rd m s1 p_code) (s2 : Sl) (h2 : Rd m s2 p_more) :
  Ret Try.prog 5 [s1.v, s2.v] w0 (fun v _ => v = (.bool r)) := by
 unfold laws_big at hr
 refine ret_start Try.func5 rfl 16 rfl rfl m hv fun a hF hS => q_seq (q_region (q_x (v := (.bool false)) hF hS (ex_assign rfl) rfl rfl fun a hF => q_end (n_sq (q_seq ?_))))
 obtain ⟨t_3, hj1, hr⟩ := bindS hr
 refine q_join (fun a w => Fr a 16 [(4, (.bool t_3))] ∧ St [] w0 w m []) ?_ ?_
 ·refine q_region (q_x (v := s1.v) hF hS (ex_move rfl) rfl rfl fun a hF => q_x (v := (.int .i64 (goLen p_code))) hF hS (ex_len Try.underlying22 rfl h1.len) rfl rfl fun a hF => q_x (v := (.bool (decide (1048576 < (goLen p_code))))) hF hS (ex_ibin rfl rfl rfl) rfl rfl fun a hF => q_x (v := (.bool (decide (1048576 < (goLen p_code))))) hF hS (ex_move rfl) rfl rfl fun a hF => ?_)
  rcases bcase (decide (1048576 < (goLen p_code))) with hc2 | hc2
  ·have hj1 := cond_f hc2 hj1
   refine q_xg (v := s2.v) hF hS (ex_move rfl) (wanted_t hF rfl rfl rfl hc2) rfl fun a hF => q_xg (v := (.int .i64 (goLen p_more))) hF hS (ex_len Try.underlying22 rfl h2.len) (wanted_t hF rfl rfl rfl hc2) rfl fun a hF => q_xg (v := s1.v) hF hS (ex_move rfl) (wanted_t hF rfl rfl rfl hc2) rfl fun a hF => q_xg (v := (.int .i64 (goLen p_code))) hF hS (ex_len Try.underlying22 rfl h1.len) (wanted_t hF rfl rfl rfl hc2) rfl fun a hF => q_xg (v := (.int .i64 (w64 (1048576 - (goLen p_code))))) hF hS (ex_ibin rfl rfl rfl) (wanted_t hF rfl rfl rfl hc2) rfl fun a hF => q_xg (v := (.bool (decide ((w64 (1048576 - (goLen p_code))) < (goLen p_more))))) hF hS (ex_ibin rfl rfl rfl) (wanted_t hF rfl rfl rfl hc2) rfl fun a hF => q_x (v := (.bool (decide ((w64 (1048576 - (goLen p_code))) < (goLen p_more))))) hF hS (ex_pick_f rfl rfl hc2) rfl rfl fun a hF => q_x (v := (.bool (decide ((w64 (1048576 - (goLen p_code))) < (goLen p_more))))) hF hS (ex_assign rfl) rfl rfl fun a hF => q_end (n_jn ?_)
   obtain rfl := someI hj1
   exact ⟨hF.sub ⟨rfl, trivial⟩, hS⟩
  ·have hj1 := cond_t hc2 hj1
   refine q_skip hF (wanted_f hF rfl rfl rfl hc2 rfl) rfl fun a hF => q_skip hF (wanted_f hF rfl rfl rfl hc2 rfl) rfl fun a hF => q_skip hF (wanted_f hF rfl rfl rfl hc2 rfl) rfl fun a hF => q_skip hF (wanted_f hF rfl rfl rfl hc2 rfl) rfl fun a hF => q_skip hF (wanted_f hF rfl rfl rfl hc2 rfl) rfl fun a hF => q_skip hF (wanted_f hF rfl rfl rfl hc2 rfl) rfl fun a hF => q_x (v := (.bool true)) hF hS (ex_pick_t rfl rfl hc2) rfl rfl fun a hF => q_x (v := (.bool true)) hF hS (ex_assign rfl) rfl rfl fun a hF => q_end (n_jn ?_)
   obtain rfl := someI hj1
   exact ⟨hF.sub ⟨rfl, trivial⟩, hS⟩
 ·rintro a w ⟨hF, hS⟩
  refine n_sq (q_ret ?_)
  obtain rfl := someI hr
  exact ret_of hF hS rfl (.tmp rfl .nil) rfl

theorem c_spec_l1Cur_next (p_c : spec_l1Cur) (r : Int × spec_l1Cur) (hr : spec_l1Cur_next p_c = some r) (w0 : World) (m : Mem) (b_p_c : Nat) (s1 : Sl) (h1 : Rd m s1 p_c.code) (X : List Nat) (hS : St X w0 w0 m [[⟨b_p_c, [s1.v, (.int .i64 p_c.at_), (.int .u64 p_c.seed.v)], 65⟩]]) :
  RetX Try.prog 85 [(.pointer (some ⟨b_p_c, 0, none⟩))] w0 (fun v w => v = (.int .i64 r.1) ∧ St X w0 w m [[⟨b_p_c, [s1.v, (.int .i64 r.2.at_), (.int .u64 r.2.seed.v)], 65⟩]] ∧ r.2.code = p_c.code) := by
 unfold spec_l1Cur_next at hr
 refine ret_startX Try.func85 rfl 62 rfl rfl fun a hF => q_seq (q_region (q_x (v := (.int .i64 0)) hF hS (ex_assign rfl) rfl rfl fun a hF => q_end (n_sq (q_seq (q_region (q_x (v := (.int .i64 0)) hF hS (ex_assign rfl) rfl rfl fun a hF => q_end (n_sq (q_seq (q_seq (e_region ⟨[], []⟩ mixed fun w' hw' => ?_))))))))))
 have hS := hS.below hw'
 refine e_p (v := (.pointer (some ⟨b_p_c, 0, none⟩))) 0 hF rfl (ex_move rfl) rfl rfl (by kernel_rfl) (by kernel_rfl) (by kernel_rfl) fun a hF => e_p (v := (.pointer (some ⟨b_p_c, 0, none⟩))) 1 hF rfl (ex_nilCheck rfl) rfl rfl (by kernel_rfl) (by kernel_rfl) (by kernel_rfl) fun a hF => e_p (v := (.pointer (some ⟨b_p_c, 1, none⟩))) 2 hF rfl (ex_fieldAddr Try.underlying65 rfl sz3 rfl rfl) rfl rfl (by kernel_rfl) (by kernel_rfl) (by kernel_rfl) fun a hF => e_x (v := (.int .i64 p_c.at_)) 3 hF hS rfl (ex_load1 0 0 Try.underlying3 rfl rfl rfl rfl) rfl rfl (by kernel_rfl) (by kernel_rfl) (by kernel_rfl) (by kernel_rfl) fun a hF => e_p (v := (.pointer (some ⟨b_p_c, 0, none⟩))) 4 hF rfl (ex_move rfl) rfl rfl (by kernel_rfl) (by kernel_rfl) (by kernel_rfl) fun a hF => e_p (v := (.pointer (some ⟨b_p_c, 0, none⟩))) 5 hF rfl (ex_nilCheck rfl) rfl rfl (by kernel_rfl) (by kernel_rfl) (by kernel_rfl) fun a hF => e_p (v := (.pointer (some ⟨b_p_c, 0, none⟩))) 6 hF rfl (ex_fieldAddr Try.underlying65 rfl sz22 rfl rfl) rfl rfl (by kernel_rfl) (by kernel_rfl) (by kernel_rfl) fun a hF => e_x (v := s1.v) 7 hF hS rfl (ex_load1 0 0 Try.underlying22 rfl rfl rfl rfl) rfl rfl (by kernel_rfl) (by kernel_rfl) (by kernel_rfl) (by kernel_rfl) fun a hF => e_p (v := (.int .i64 (goLen p_c.code))) 8 hF rfl (ex_len Try.underlying22 rfl h1.len) rfl rfl (by kernel_rfl) (by kernel_rfl) (by kernel_rfl) fun a hF => e_p (v := (.bool (decide (p_c.at_ < (goLen p_c.code))))) 9 hF rfl (ex_ibin rfl rfl rfl) rfl rfl (by kernel_rfl) (by kernel_rfl) (by kernel_rfl) fun a hF => e_end (by kernel_rfl) (n_sq ?_) _
 obtain ⟨b_4, hj1, hr⟩ := bindS hr
 refine q_join (fun a w => Fr a 62 [(0, (.pointer (some ⟨b_p_c, 0, none⟩))), (3, (.int .i64 b_4))] ∧ St X w0 w m [[⟨b_p_c, [s1.v, (.int .i64 p_c.at_), (.int .u64 p_c.seed.v)], 65⟩]]) ?_ ?_
 ·rcases bcase (decide (p_c.at_ < (goLen p_c.code))) with hc2 | hc2
  ·have hj1 := cond_f hc2 hj1
   refine q_cond_f hF rfl hc2 (q_skipc (n_jn ?_))
   obtain rfl := someI hj1
   exact ⟨hF.sub ⟨rfl, rfl, trivial⟩, hS⟩
  ·have hj1 := cond_t hc2 hj1
   refine q_cond_t hF rfl hc2 (e_region ⟨[], []⟩ mixed fun w' hw' => ?_)
   have hS := hS.below hw'
   refine e_p (v := (.pointer (some ⟨b_p_c, 0, none⟩))) 0 hF rfl (ex_move rfl) rfl rfl (by kernel_rfl) (by kernel_rfl) (by kernel_rfl) fun a hF => e_p (v := (.pointer (some ⟨b_p_c, 0, none⟩))) 1 hF rfl (ex_nilCheck rfl) rfl rfl (by kernel_rfl) (by kernel_rfl) (by kernel_rfl) fun a hF => e_p (v := (.pointer (some ⟨b_p_c, 0, none⟩))) 2 hF rfl (ex_fieldAddr Try.underlying65 rfl sz22 rfl rfl) rfl rfl (by kernel_rfl) (by kernel_rfl) (by kernel_rfl) fun a hF => e_x (v := s1.v) 3 hF hS rfl (ex_load1 0 0 Try.underlying22 rfl rfl rfl rfl) rfl rfl (by kernel_rfl) (by kernel_rfl) (by kernel_rfl) (by kernel_rfl) fun a hF => e_p (v := (.pointer (some ⟨b_p_c, 0, none⟩))) 4 hF rfl (ex_move rfl) rfl rfl (by kernel_rfl) (by kernel_rfl) (by kernel_rfl) fun a hF => e_p (v := (.pointer (some ⟨b_p_c, 0, none⟩))) 5 hF rfl (ex_nilCheck rfl) rfl rfl (by kernel_rfl) (by kernel_rfl) (by kernel_rfl) fun a hF => e_p (v := (.pointer (some ⟨b_p_c, 1, none⟩))) 6 hF rfl (ex_fieldAddr Try.underlying65 rfl sz3 rfl rfl) rfl rfl (by kernel_rfl) (by kernel_rfl) (by kernel_rfl) fun a hF => e_x (v := (.int .i64 p_c.at_)) 7 hF hS rfl (ex_load1 0 0 Try.underlying3 rfl rfl rfl rfl) rfl rfl (by kernel_rfl) (by kernel_rfl) (by kernel_rfl) (by kernel_rfl) fun a hF => ?_
   obtain ⟨e_2, he_2, hj1⟩ := bindS hj1
   obtain ⟨vs3, at3, d3⟩ := h1.at he_2 1 rfl
   obtain rfl : vs3 = [(.int .u8 e_2.v)] := d3
   refine e_p (v := (elP s1 (p_c.at_.toNat * 1))) 8 hF rfl (ex_indexAddr Try.underlying22 sz5 rfl rfl (h1.idx he_2)) rfl rfl (by kernel_rfl) (by kernel_rfl) (by kernel_rfl) fun a hF => e_x (v := (.int .u8 e_2.v)) 9 hF hS rfl (ex_loadE1 0 Try.underlying5 rfl rfl ((at3).at) rfl rfl) rfl rfl (by kernel_rfl) (by kernel_rfl) (by kernel_rfl) (by kernel_rfl) fun a hF => e_p (v := (.int .i64 (w64 e_2.v))) 10 hF rfl (ex_conv Try.underlying5 Try.underlying3 rfl) rfl rfl (by kernel_rfl) (by kernel_rfl) (by kernel_rfl) fun a hF => e_p (v := (.int .i64 (w64 e_2.v))) 11 hF rfl (ex_assign rfl) rfl rfl (by kernel_rfl) (by kernel_rfl) (by kernel_rfl) fun a hF => e_end (by kernel_rfl) (n_jn ?_) _
   obtain rfl := someI hj1
   exact ⟨hF.sub ⟨rfl, rfl, trivial⟩, hS⟩
 ·rintro a w ⟨hF, hS⟩
  refine n_sq ?_
  refine q_seq (q_region (q_x (v := (.pointer (some ⟨b_p_c, 0, none⟩))) hF hS (ex_move rfl) rfl rfl fun a hF => q_x (v := (.pointer (some ⟨b_p_c, 0, none⟩))) hF hS (ex_nilCheck rfl) rfl rfl fun a hF => q_x (v := (.pointer (some ⟨b_p_c, 1, none⟩))) hF hS (ex_fieldAddr Try.underlying65 rfl sz3 rfl rfl) rfl rfl fun a hF => q_x (v := (.int .i64 p_c.at_)) hF hS (ex_load1 0 0 Try.underlying3 rfl rfl rfl rfl) rfl rfl fun a hF => q_x (v := (.int .i64 (w64 (p_c.at_ + 1)))) hF hS (ex_ibin rfl rfl rfl) rfl rfl fun a hF => q_x (v := (.pointer (some ⟨b_p_c, 0, none⟩))) hF hS (ex_nilCheck rfl) rfl rfl fun a hF => q_x (v := (.pointer (some ⟨b_p_c, 1, none⟩))) hF hS (ex_fieldAddr Try.underlying65 rfl sz3 rfl rfl) rfl rfl fun a hF => q_store (vs := [(.int .i64 (w64 (p_c.at_ + 1)))]) (cs' := [s1.v, (.int .i64 (w64 (p_c.at_ + 1))), (.int .u64 p_c.seed.v)]) 0 0 hF hS sz3 rfl rfl rfl rfl rfl rfl rfl rfl fun a w hF hS => q_end (n_sq (q_seq (q_region (q_x (v := (.pointer (some ⟨b_p_c, 0, none⟩))) hF hS (ex_move rfl) rfl rfl fun a hF => q_x (v := (.pointer (some ⟨b_p_c, 0, none⟩))) hF hS (ex_move rfl) rfl rfl fun a hF => q_x (v := (.pointer (some ⟨b_p_c, 0, none⟩))) hF hS (ex_nilCheck rfl) rfl rfl fun a hF => q_x (v := (.pointer (some ⟨b_p_c, 2, none⟩))) hF hS (ex_fieldAddr Try.underlying65 rfl sz63 rfl rfl) rfl rfl fun a hF => q_x (v := (.int .u64 p_c.seed.v)) hF hS (ex_load1 0 0 Try.underlying63 rfl rfl rfl rfl) rfl rfl fun a hF => q_x (v := (.int .u64 (IntKind.wrap .u64 (p_c.seed.v * 6364136223846793005)))) hF hS (ex_ibin rfl rfl rfl) rfl rfl fun a hF => q_x (v := (.int .i64 b_4)) hF hS (ex_move rfl) rfl rfl fun a hF => q_x (v := (.int .u64 (IntKind.wrap .u64 b_4))) hF hS (ex_conv Try.underlying3 Try.underlying63 rfl) rfl rfl fun a hF => q_x (v := (.int .u64 (IntKind.wrap .u64 ((IntKind.wrap .u64 (p_c.seed.v * 6364136223846793005)) + (IntKind.wrap .u64 b_4))))) hF hS (ex_ibin rfl rfl rfl) rfl rfl fun a hF => q_x (v := (.int .u64 (IntKind.wrap .u64 ((IntKind.wrap .u64 ((IntKind.wrap .u64 (p_c.seed.v * 6364136223846793005)) + (IntKind.wrap .u64 b_4))) + 1442695040888963407)))) hF hS (ex_ibin rfl rfl rfl) rfl rfl fun a hF => q_x (v := (.pointer (some ⟨b_p_c, 0, none⟩))) hF hS (ex_nilCheck rfl) rfl rfl fun a hF => q_x (v := (.pointer (some ⟨b_p_c, 2, none⟩))) hF hS (ex_fieldAddr Try.underlying65 rfl sz63 rfl rfl) rfl rfl fun a hF => ?_))))))
  refine q_store (vs := [(.int .u64 (IntKind.wrap .u64 ((IntKind.wrap .u64 ((IntKind.wrap .u64 (p_c.seed.v * 6364136223846793005)) + (IntKind.wrap .u64 b_4))) + 1442695040888963407)))]) (cs' := [s1.v, (.int .i64 (w64 (p_c.at_ + 1))), (.int .u64 (IntKind.wrap .u64 ((IntKind.wrap .u64 ((IntKind.wrap .u64 (p_c.seed.v * 6364136223846793005)) + (IntKind.wrap .u64 b_4))) + 1442695040888963407)))]) 0 0 hF hS sz63 rfl rfl rfl rfl rfl rfl rfl rfl fun a w hF hS => q_end (n_sq (q_seq (q_seq (e_region ⟨[], []⟩ mixed fun w' hw' => ?_))))
  have hS := hS.below hw'
  refine e_p (v := (.pointer (some ⟨b_p_c, 0, none⟩))) 0 hF rfl (ex_move rfl) rfl rfl (by kernel_rfl) (by kernel_rfl) (by kernel_rfl) fun a hF => e_p (v := (.pointer (some ⟨b_p_c, 0, none⟩))) 1 hF rfl (ex_nilCheck rfl) rfl rfl (by kernel_rfl) (by kernel_rfl) (by kernel_rfl) fun a hF => e_p (v := (.pointer (some ⟨b_p_c, 1, none⟩))) 2 hF rfl (ex_fieldAddr Try.underlying65 rfl sz3 rfl rfl) rfl rfl (by kernel_rfl) (by kernel_rfl) (by kernel_rfl) fun a hF => e_x (v := (.int .i64 (w64 (p_c.at_ + 1)))) 3 hF hS rfl (ex_load1 0 0 Try.underlying3 rfl rfl rfl rfl) rfl rfl (by kernel_rfl) (by kernel_rfl) (by kernel_rfl) (by kernel_rfl) fun a hF => e_p (v := (.pointer (some ⟨b_p_c, 0, none⟩))) 4 hF rfl (ex_move rfl) rfl rfl (by kernel_rfl) (by kernel_rfl) (by kernel_rfl) fun a hF => e_p (v := (.pointer (some ⟨b_p_c, 0, none⟩))) 5 hF rfl (ex_nilCheck rfl) rfl rfl (by kernel_rfl) (by kernel_rfl) (by kernel_rfl) fun a hF => e_p (v := (.pointer (some ⟨b_p_c, 0, none⟩))) 6 hF rfl (ex_fieldAddr Try.underlying65 rfl sz22 rfl rfl) rfl rfl (by kernel_rfl) (by kernel_rfl) (by kernel_rfl) fun a hF => e_x (v := s1.v) 7 hF hS rfl (ex_load1 0 0 Try.underlying22 rfl rfl rfl rfl) rfl rfl (by kernel_rfl) (by kernel_rfl) (by kernel_rfl) (by kernel_rfl) fun a hF => e_p (v := (.int .i64 (goLen p_c.code))) 8 hF rfl (ex_len Try.underlying22 rfl h1.len) rfl rfl (by kernel_rfl) (by kernel_rfl) (by kernel_rfl) fun a hF => e_p (v := (.bool (decide ((w64 (p_c.at_ + 1)) ≤ (goLen p_c.code))))) 9 hF rfl (ex_ibin rfl rfl rfl) rfl rfl (by kernel_rfl) (by kernel_rfl) (by kernel_rfl) fun a hF => e_end (by kernel_rfl) (n_sq ?_) _
  rcases bcase (decide ((w64 (p_c.at_ + 1)) ≤ (goLen p_c.code))) with hc3 | hc3
  ·have hr := cond_f hc3 hr
   refine q_cond_f hF rfl hc3 (q_skipc (n_sq (q_seq (q_region (q_x (v := (.pointer (some ⟨b_p_c, 0, none⟩))) hF hS (ex_move rfl) rfl rfl fun a hF => q_x (v := (.pointer (some ⟨b_p_c, 0, none⟩))) hF hS (ex_nilCheck rfl) rfl rfl fun a hF => q_x (v := (.pointer (some ⟨b_p_c, 2, none⟩))) hF hS (ex_fieldAddr Try.underlying65 rfl sz63 rfl rfl) rfl rfl fun a hF => q_x (v := (.int .u64 (IntKind.wrap .u64 ((IntKind.wrap .u64 ((IntKind.wrap .u64 (p_c.seed.v * 6364136223846793005)) + (IntKind.wrap .u64 b_4))) + 1442695040888963407)))) hF hS (ex_load1 0 0 Try.underlying63 rfl rfl rfl rfl) rfl rfl fun a hF => ?_)))))
   obtain ⟨t_5, ht_5, hr⟩ := bindS hr
   refine q_x (v := (.int .u64 t_5)) hF hS (ex_shr rfl rfl ht_5) rfl rfl fun a hF => q_x (v := (.int .u64 (goBits .and .u64 t_5 255))) hF hS (ex_bits rfl rfl rfl) rfl rfl fun a hF => q_x (v := (.int .i64 (w64 (goBits .and .u64 t_5 255)))) hF hS (ex_conv Try.underlying63 Try.underlying3 rfl) rfl rfl fun a hF => q_x (v := (.int .i64 (w64 (goBits .and .u64 t_5 255)))) hF hS (ex_assign rfl) rfl rfl fun a hF => q_end (n_sq (q_ret ?_))
   obtain rfl := someI hr
   exact ret_ofX hF hS rfl (.tmp rfl .nil) ⟨rfl, hS.sel [0] (by decide), rfl⟩
  ·have hr := cond_t hc3 hr
   refine q_cond_t hF rfl hc3 (q_seq (q_region (q_x (v := (.int .i64 b_4)) hF hS (ex_move rfl) rfl rfl fun a hF => q_x (v := (.int .i64 b_4)) hF hS (ex_assign rfl) rfl rfl fun a hF => q_end (n_sq (q_ret (r_sq ?_))))))
   obtain rfl := someI hr
   exact ret_ofX hF hS rfl (.tmp rfl .nil) ⟨rfl, hS.sel [0] (by decide), rfl⟩

theorem c_spec_l1Cur_pick (p_c : spec_l1Cur) (p_n : Int) (r : Int × spec_l1Cur) (hr : spec_l1Cur_pick p_c p_n = some r) (w0 : World) (m : Mem) (b_p_c : Nat) (s1 : Sl) (h1 : Rd m s1 p_c.code) (X : List Nat) (hS : St X w0 w0 m [[⟨b_p_c, [s1.v, (.int .i64 p_c.at_), (.int .u64 p_c.seed.v)], 65⟩]]) :
  RetX Try.prog 53 [(.pointer (some ⟨b_p_c, 0, none⟩)), (.int .i64 p_n)] w0 (fun v w => v = (.int .i64 r.1) ∧ St X w0 w m [[⟨b_p_c, [s1.v, (.int .i64 r.2.at_), (.int .u64 r.2.seed.v)], 65⟩]] ∧ r.2.code = p_c.code) := by
 unfold spec_l1Cur_pick at hr
 refine ret_startX Try.func53 rfl 20 rfl rfl fun a hF => q_seq (q_region (q_x (v := (.int .i64 0)) hF hS (ex_assign rfl) rfl rfl fun a hF => q_end (n_sq (q_seq (q_seq (q_region (q_x (v := (.int .i64 p_n)) hF hS (ex_move rfl) rfl rfl fun a hF => q_x (v := (.bool (decide (p_n ≤ 1)))) hF hS (ex_ibin rfl rfl rfl) rfl rfl fun a hF => q_end (n_sq ?_))))))))
 rcases bcase (decide (p_n ≤ 1)) with hc1 | hc1
 ·have hr := cond_f hc1 hr
  refine q_cond_f hF rfl hc1 (q_skipc (n_sq (q_seq (q_region (q_x (v := (.pointer (some ⟨b_p_c, 0, none⟩))) hF hS (ex_move rfl) rfl rfl fun a hF => ?_)))))
  have hS2 : St _ _ _ _ ([[⟨b_p_c, [s1.v, (.int .i64 p_c.at_), (.int .u64 p_c.seed.v)], 65⟩]] ++ []) := hS
  have hE2 := hS2.enter
  obtain ⟨t_3, ht_3, hr⟩ := bindS hr
  refine q_do rfl fun _ hK => wp_callX (vs := [(.pointer (some ⟨b_p_c, 0, none⟩))]) hF Try.func85 (by kernel_rfl) rfl rfl rfl (c_spec_l1Cur_next p_c t_3 ht_3 _ m b_p_c s1 h1 _ hE2) fun a w _ hR hF => hK _ _ ?_
  obtain ⟨rfl, hR2, hk4⟩ := hR
  have hS : St _ _ _ _ [[⟨b_p_c, [s1.v, (.int .i64 t_3.2.at_), (.int .u64 t_3.2.seed.v)], 65⟩]] := hS2.leaveF hR2
  have h4 : Rd m s1 t_3.2.code := by rw [hk4]; exact h1
  refine q_x (v := (.int .i64 t_3.1)) hF hS (ex_assign rfl) rfl rfl fun a hF => q_end (n_sq (q_seq (q_seq (q_region (q_x (v := (.int .i64 p_n)) hF hS (ex_move rfl) rfl rfl fun a hF => q_x (v := (.bool (decide (200 < p_n)))) hF hS (ex_ibin rfl rfl rfl) rfl rfl fun a hF => q_end (n_sq ?_))))))
  obtain ⟨j2, hj2, hr⟩ := bindS hr
  refine q_join (fun a w => ∃ x_8, ∃ p_c_9, j2 = (x_8, p_c_9) ∧ Fr a 20 [(1, (.int .i64 p_n)), (5, (.int .i64 x_8))] ∧ St X w0 w m [[⟨b_p_c, [s1.v, (.int .i64 p_c_9.at_), (.int .u64 p_c_9.seed.v)], 65⟩]] ∧ Rd m s1 p_c_9.code ∧ p_c_9.code = p_c.code) ?_ ?_
  ·rcases bcase (decide (200 < p_n)) with hc3 | hc3
   ·have hj2 := cond_f hc3 hj2
    refine q_cond_f hF rfl hc3 (q_skipc (n_jn ?_))
    obtain rfl := someI hj2
    exact ⟨_, _, rfl, hF.sub ⟨rfl, rfl, trivial⟩, hS, h4, hk4⟩
   ·have hj2 := cond_t hc3 hj2
    refine q_cond_t hF rfl hc3 (q_region (q_x (v := (.int .i64 t_3.1)) hF hS (ex_move rfl) rfl rfl fun a hF => q_x (v := (.int .i64 (w64 (t_3.1 * 256)))) hF hS (ex_ibin rfl rfl rfl) rfl rfl fun a hF => q_x (v := (.pointer (some ⟨b_p_c, 0, none⟩))) hF hS (ex_move rfl) rfl rfl fun a hF => ?_))
    have hS5 : St _ _ _ _ ([[⟨b_p_c, [s1.v, (.int .i64 t_3.2.at_), (.int .u64 t_3.2.seed.v)], 65⟩]] ++ []) := hS
    have hE5 := hS5.enter
    obtain ⟨t_6, ht_6, hj2⟩ := bindS hj2
    refine q_do rfl fun _ hK => wp_callX (vs := [(.pointer (some ⟨b_p_c, 0, none⟩))]) hF Try.func85 (by kernel_rfl) rfl rfl rfl (c_spec_l1Cur_next t_3.2 t_6 ht_6 _ m b_p_c s1 h4 _ hE5) fun a w _ hR hF => hK _ _ ?_
    obtain ⟨rfl, hR5, hk7⟩ := hR
    have hS : St _ _ _ _ [[⟨b_p_c, [s1.v, (.int .i64 t_6.2.at_), (.int .u64 t_6.2.seed.v)], 65⟩]] := hS5.leaveF hR5
    have h7 : Rd m s1 t_6.2.code := by rw [hk7]; exact h4
    refine q_x (v := (.int .i64 (w64 ((w64 (t_3.1 * 256)) + t_6.1)))) hF hS (ex_ibin rfl rfl rfl) rfl rfl fun a hF => q_x (v := (.int .i64 (w64 ((w64 (t_3.1 * 256)) + t_6.1)))) hF hS (ex_assign rfl) rfl rfl fun a hF => q_end (n_jn ?_)
    obtain rfl := someI hj2
    exact ⟨_, _, rfl, hF.sub ⟨rfl, rfl, trivial⟩, hS, h7, (hk7.trans hk4)⟩
  ·rintro a w ⟨x_8, p_c_9, rfl, hF, hS, h10, h10k⟩
   refine n_sq ?_
   refine q_seq (q_region (q_x (v := (.int .i64 x_8)) hF hS (ex_move rfl) rfl rfl fun a hF => q_x (v := (.int .i64 p_n)) hF hS (ex_move rfl) rfl rfl fun a hF => ?_))
   obtain ⟨t_11, ht_11, hr⟩ := bindS hr
   refine q_x (v := (.int .i64 t_11)) hF hS (ex_rem rfl rfl ht_11) rfl rfl fun a hF => q_x (v := (.int .i64 t_11)) hF hS (ex_assign rfl) rfl rfl fun a hF => q_end (n_sq (q_ret ?_))
   obtain rfl := someI hr
   exact ret_ofX hF hS rfl (.tmp rfl .nil) ⟨rfl, hS.sel [0] (by decide), h10k⟩
 ·have hr := cond_t hc1 hr
  refine q_cond_t hF rfl hc1 (q_seq (q_region (q_x (v := (.int .i64 0)) hF hS (ex_assign rfl) rfl rfl fun a hF => q_end (n_sq (q_ret (r_sq ?_))))))
  obtain rfl := someI hr
  exact ret_ofX hF hS rfl (.tmp rfl .nil) ⟨rfl, hS.sel [0] (by decide), rfl⟩

theorem c_spec_l1Own (p_l : List Int) (r : (List Int)) (hr : spec_l1Own p_l = some r) (w0 : World) (m : Mem) (hv : Vis m w0) (s1 : Sl) (h1 : Rd m s1 p_l) :
  Ret Try.prog 68 [s1.v] w0 (fun v w => ∃ (q0' : Piece) (s0' : Sl), v = s0'.v ∧ St [] w0 w m [q0'] ∧ OwnL m 3 q0' s0' r) := by
 unfold spec_l1Own at hr
 refine ret_start Try.func68 rfl 6 rfl rfl m hv fun a hF hS => q_seq (q_region (q_x (v := nilS.v) hF hS (ex_assign rfl) rfl rfl fun a hF => q_end (n_sq (q_seq (q_region (q_do rfl fun _ hK => wp_build0 (α := Int) hF hS Try.underlying24 inf3 rfl fun a w q2 s2 hF hS h2 _ => hK _ _ (q_x (v := s1.v) hF hS (ex_move rfl) rfl rfl fun a hF => ?_)))))))
 obtain ⟨l_3, hl_3, hr⟩ := bindS hr
 refine q_do rfl fun _ hK => wp_append hF hS h2 Try.underlying24 inf3 rfl rfl rfl rfl (h1.vw hS.vis) rfl (by decide) hl_3 rfl fun a w q4 s4 hF hS h4 => hK _ _ (q_x (v := s4.v) hF hS (ex_assign rfl) rfl rfl fun a hF => q_end (n_sq (q_ret ?_)))
 obtain rfl := someI hr
 exact ret_of hF hS rfl (.tmp rfl .nil) ⟨q4, s4, rfl, hS.sel [0] (by decide), h4⟩

theorem c_spec_l1Cur_geo (p_c : spec_l1Cur) (r : impl_Geo × spec_l1Cur) (hr : spec_l1Cur_geo p_c = some r) (w0 : World) (m : Mem) (b_p_c : Nat) (s1 : Sl) (h1 : Rd m s1 p_c.code) (X : List Nat) (hS : St X w0 w0 m [[⟨b_p_c, [s1.v, (.int .i64 p_c.at_), (.int .u64 p_c.seed.v)], 65⟩]]) :
  RetX Try.prog 100 [(.pointer (some ⟨b_p_c, 0, none⟩))] w0 (fun v w => ∃ (m' : Mem) (q0' : Piece) (s0' : Sl), v = (.agg #[s0'.v]) ∧ MLe X w0.heap.size m m' ∧ St X w0 w m' [[⟨b_p_c, [s1.v, (.int .i64 r.2.at_), (.int .u64 r.2.seed.v)], 65⟩], q0'] ∧ OwnL m' 3 q0' s0' r.1.Parents ∧ r.2.code = p_c.code) := by
 unfold spec_l1Cur_geo at hr
 refine ret_startX Try.func100 rfl 39 rfl rfl fun a hF => q_seq (q_region (q_alloc (cs := [nilS.v]) hF hS rfl rfl rfl fun a w b2 hF hS => q_end (n_sq (q_seq (q_region (q_do rfl fun _ hK => wp_buildSlice' (l := ([-1, 0, 0] : List Int)) (cells := [(.int .i64 (-1)), (.int .i64 0), (.int .i64 0)]) hF hS Try.underlying24 inf3 rfl rfl (by kernel_rfl) rfl rfl rfl ⟨rfl, rfl, rfl, rfl⟩ rfl rfl fun a w q3 s3 hF hS h3 _ => hK _ _ (q_do rfl fun _ hK => wp_buildSlice' (l := ([-1, 0, 0, 1, 1, 2, 2] : List Int)) (cells := [(.int .i64 (-1)), (.int .i64 0), (.int .i64 0), (.int .i64 1), (.int .i64 1), (.int .i64 2), (.int .i64 2)]) hF hS Try.underlying24 inf3 rfl rfl (by kernel_rfl) rfl rfl rfl ⟨rfl, rfl, rfl, rfl, rfl, rfl, rfl, rfl⟩ rfl rfl fun a w q4 s4 hF hS h4 _ => hK _ _ (q_do rfl fun _ hK => wp_buildSlice' (l := ([-1, 0, 0, 0, 1, 1, 2, 3] : List Int)) (cells := [(.int .i64 (-1)), (.int .i64 0), (.int .i64 0), (.int .i64 0), (.int .i64 1), (.int .i64 1), (.int .i64 2), (.int .i64 3)]) hF hS Try.underlying24 inf3 rfl rfl (by kernel_rfl) rfl rfl rfl ⟨rfl, rfl, rfl, rfl, rfl, rfl, rfl, rfl, rfl⟩ rfl rfl fun a w q5 s5 hF hS h5 _ => hK _ _ (q_do rfl fun _ hK => wp_buildSlice' (l := ([-1, 0, 0, 1, 1] : List Int)) (cells := [(.int .i64 (-1)), (.int .i64 0), (.int .i64 0), (.int .i64 1), (.int .i64 1)]) hF hS Try.underlying24 inf3 rfl rfl (by kernel_rfl) rfl rfl rfl ⟨rfl, rfl, rfl, rfl, rfl, rfl⟩ rfl rfl fun a w q6 s6 hF hS h6 _ => hK _ _ (q_do rfl fun _ hK => wp_buildSlice' (l := ([-1] : List Int)) (cells := [(.int .i64 (-1))]) hF hS Try.underlying24 inf3 rfl rfl (by kernel_rfl) rfl rfl rfl ⟨rfl, rfl⟩ rfl rfl fun a w q7 s7 hF hS h7 _ => hK _ _ (q_do rfl fun _ hK => wp_buildSlice' (l := ([-1, 0, 1, 2] : List Int)) (cells := [(.int .i64 (-1)), (.int .i64 0), (.int .i64 1), (.int .i64 2)]) hF hS Try.underlying24 inf3 rfl rfl (by kernel_rfl) rfl rfl rfl ⟨rfl, rfl, rfl, rfl, rfl⟩ rfl rfl fun a w q8 s8 hF hS h8 _ => hK _ _ ?_)))))))))))
 have hS : St _ _ _ _ [q3, q8, q7, q6, q5, q4, [⟨b2, [nilS.v], 26⟩], [⟨b_p_c, [s1.v, (.int .i64 p_c.at_), (.int .u64 p_c.seed.v)], 65⟩]] := hS.sel [5, 0, 1, 2, 3, 4, 6, 7] (by decide)
 obtain ⟨m10, hm10, hS, hz10⟩ := hS.freeze
 have h10 := h3.froz hm10.le hz10
 have hS : St _ _ _ _ [q4, q8, q7, q6, q5, [⟨b2, [nilS.v], 26⟩], [⟨b_p_c, [s1.v, (.int .i64 p_c.at_), (.int .u64 p_c.seed.v)], 65⟩]] := hS.sel [4, 0, 1, 2, 3, 5, 6] (by decide)
 obtain ⟨m11, hm11, hS, hz11⟩ := hS.freeze
 have h11 := (h4.mono hm10.le).froz hm11.le hz11
 have hS : St _ _ _ _ [q5, q8, q7, q6, [⟨b2, [nilS.v], 26⟩], [⟨b_p_c, [s1.v, (.int .i64 p_c.at_), (.int .u64 p_c.seed.v)], 65⟩]] := hS.sel [3, 0, 1, 2, 4, 5] (by decide)
 obtain ⟨m12, hm12, hS, hz12⟩ := hS.freeze
 have h12 := ((h5.mono hm10.le).mono hm11.le).froz hm12.le hz12
 have hS : St _ _ _ _ [q6, q8, q7, [⟨b2, [nilS.v], 26⟩], [⟨b_p_c, [s1.v, (.int .i64 p_c.at_), (.int .u64 p_c.seed.v)], 65⟩]] := hS.sel [2, 0, 1, 3, 4] (by decide)
 obtain ⟨m13, hm13, hS, hz13⟩ := hS.freeze
 have h13 := (((h6.mono hm10.le).mono hm11.le).mono hm12.le).froz hm13.le hz13
 have hS : St _ _ _ _ [q7, q8, [⟨b2, [nilS.v], 26⟩], [⟨b_p_c, [s1.v, (.int .i64 p_c.at_), (.int .u64 p_c.seed.v)], 65⟩]] := hS.sel [1, 0, 2, 3] (by decide)
 obtain ⟨m14, hm14, hS, hz14⟩ := hS.freeze
 have h14 := ((((h7.mono hm10.le).mono hm11.le).mono hm12.le).mono hm13.le).froz hm14.le hz14
 obtain ⟨m15, hm15, hS, hz15⟩ := hS.freeze
 have h15 := (((((h8.mono hm10.le).mono hm11.le).mono hm12.le).mono hm13.le).mono hm14.le).froz hm15.le hz15
 refine q_do rfl fun _ hK => wp_buildSlice' (l := ([([-1, 0, 0] : List Int), ([-1, 0, 0, 1, 1, 2, 2] : List Int), ([-1, 0, 0, 0, 1, 1, 2, 3] : List Int), ([-1, 0, 0, 1, 1] : List Int), ([-1] : List Int), ([-1, 0, 1, 2] : List Int)] : List (List Int))) (cells := [s3.v, s4.v, s5.v, s6.v, s7.v, s8.v]) hF hS Try.underlying46 inf24 rfl rfl (by kernel_rfl) rfl rfl rfl ⟨⟨s3, rfl, (((((h10.mono hm11.le).mono hm12.le).mono hm13.le).mono hm14.le).mono hm15.le)⟩, ⟨s4, rfl, ((((h11.mono hm12.le).mono hm13.le).mono hm14.le).mono hm15.le)⟩, ⟨s5, rfl, (((h12.mono hm13.le).mono hm14.le).mono hm15.le)⟩, ⟨s6, rfl, ((h13.mono hm14.le).mono hm15.le)⟩, ⟨s7, rfl, (h14.mono hm15.le)⟩, ⟨s8, rfl, h15⟩, rfl⟩ rfl rfl fun a w q9 s9 hF hS h9 _ => hK _ _ (q_x (v := s9.v) hF hS (ex_assign rfl) rfl rfl fun a hF => q_end (n_sq (q_seq (q_region (q_x (v := s9.v) hF hS (ex_move rfl) rfl rfl fun a hF => q_x (v := (.pointer (some ⟨b_p_c, 0, none⟩))) hF hS (ex_move rfl) rfl rfl fun a hF => q_x (v := s9.v) hF hS (ex_move rfl) rfl rfl fun a hF => q_x (v := (.int .i64 (goLen ([([-1, 0, 0] : List Int), ([-1, 0, 0, 1, 1, 2, 2] : List Int), ([-1, 0, 0, 0, 1, 1, 2, 3] : List Int), ([-1, 0, 0, 1, 1] : List Int), ([-1] : List Int), ([-1, 0, 1, 2] : List Int)] : List (List Int))))) hF hS (ex_len Try.underlying46 rfl h9.len) rfl rfl fun a hF => ?_)))))
 have hS : St _ _ _ _ [[⟨b_p_c, [s1.v, (.int .i64 p_c.at_), (.int .u64 p_c.seed.v)], 65⟩], q9, [⟨b2, [nilS.v], 26⟩]] := hS.sel [2, 0, 1] (by decide)
 have hS16 : St _ _ _ _ ([[⟨b_p_c, [s1.v, (.int .i64 p_c.at_), (.int .u64 p_c.seed.v)], 65⟩]] ++ [q9, [⟨b2, [nilS.v], 26⟩]]) := hS
 have hE16 := hS16.enter
 obtain ⟨t_17, ht_17, hr⟩ := bindS hr
 refine q_do rfl fun _ hK => wp_callX (vs := [(.pointer (some ⟨b_p_c, 0, none⟩)), (.int .i64 (goLen ([([-1, 0, 0] : List Int), ([-1, 0, 0, 1, 1, 2, 2] : List Int), ([-1, 0, 0, 0, 1, 1, 2, 3] : List Int), ([-1, 0, 0, 1, 1] : List Int), ([-1] : List Int), ([-1, 0, 1, 2] : List Int)] : List (List Int))))]) hF Try.func53 (by kernel_rfl) rfl rfl rfl (c_spec_l1Cur_pick p_c (goLen ([([-1, 0, 0] : List Int), ([-1, 0, 0, 1, 1, 2, 2] : List Int), ([-1, 0, 0, 0, 1, 1, 2, 3] : List Int), ([-1, 0, 0, 1, 1] : List Int), ([-1] : List Int), ([-1, 0, 1, 2] : List Int)] : List (List Int))) t_17 ht_17 _ m15 b_p_c s1 ((((((h1.mono hm10.le).mono hm11.le).mono hm12.le).mono hm13.le).mono hm14.le).mono hm15.le) _ hE16) fun a w _ hR hF => hK _ _ ?_
 obtain ⟨rfl, hR16, hk18⟩ := hR
 have hS : St _ _ _ _ [[⟨b_p_c, [s1.v, (.int .i64 t_17.2.at_), (.int .u64 t_17.2.seed.v)], 65⟩], q9, [⟨b2, [nilS.v], 26⟩]] := hS16.leaveF hR16
 have h18 : Rd m15 s1 t_17.2.code := by rw [hk18]; exact ((((((h1.mono hm10.le).mono hm11.le).mono hm12.le).mono hm13.le).mono hm14.le).mono hm15.le)
 obtain ⟨e_19, he_19, hr⟩ := bindS hr
 obtain ⟨vs20, at20, d20⟩ := h9.at he_19 1 rfl
 obtain ⟨s21, rfl, h21⟩ : ∃ s21 : Sl, vs20 = [s21.v] ∧ Rd m15 s21 e_19 := d20
 refine q_x (v := (elP s9 (t_17.1.toNat * 1))) hF hS (ex_indexAddr Try.underlying46 sz24 rfl rfl (h9.idx he_19)) rfl rfl fun a hF => q_x (v := s21.v) hF hS (ex_loadE1 0 Try.underlying24 rfl rfl (at20.at 1 rfl) rfl rfl) rfl rfl fun a hF => ?_
 obtain ⟨t_22, ht_22, hr⟩ := bindS hr
 refine q_call (vs := [s21.v]) hF hS Try.func68 (by kernel_rfl) rfl rfl rfl (c_spec_l1Own e_19 t_22 ht_22 _ m15 hS.vis s21 h21) ?_
 rintro a w _ ⟨q24, s24, rfl, hR23, h24⟩ hF hS2
 have hS : St _ _ _ _ [q24, [⟨b_p_c, [s1.v, (.int .i64 t_17.2.at_), (.int .u64 t_17.2.seed.v)], 65⟩], q9, [⟨b2, [nilS.v], 26⟩]] := hS.joinF hR23
 refine q_x (v := (.agg #[s24.v])) hF hS (ex_build (cells := [s24.v]) rfl (by kernel_rfl)) rfl rfl fun a hF => q_alloc (cs := [nilS.v]) hF hS rfl rfl rfl fun a w b25 hF hS => q_store (vs := [s24.v]) (cs' := [s24.v]) 0 0 hF hS sz26 rfl rfl rfl rfl rfl rfl rfl rfl fun a w hF hS => q_end (n_sq (q_seq (q_seq (q_region (q_x (v := (.pointer (some ⟨b_p_c, 0, none⟩))) hF hS (ex_move rfl) rfl rfl fun a hF => ?_)))))
 have hS : St _ _ _ _ [[⟨b_p_c, [s1.v, (.int .i64 t_17.2.at_), (.int .u64 t_17.2.seed.v)], 65⟩], [⟨b25, [s24.v], 26⟩], q24, q9, [⟨b2, [nilS.v], 26⟩]] := hS.sel [2, 0, 1, 3, 4] (by decide)
 have hS26 : St _ _ _ _ ([[⟨b_p_c, [s1.v, (.int .i64 t_17.2.at_), (.int .u64 t_17.2.seed.v)], 65⟩]] ++ [[⟨b25, [s24.v], 26⟩], q24, q9, [⟨b2, [nilS.v], 26⟩]]) := hS
 have hE26 := hS26.enter
 obtain ⟨t_27, ht_27, hr⟩ := bindS hr
 refine q_do rfl fun _ hK => wp_callX (vs := [(.pointer (some ⟨b_p_c, 0, none⟩)), (.int .i64 4)]) hF Try.func53 (by kernel_rfl) rfl rfl rfl (c_spec_l1Cur_pick t_17.2 4 t_27 ht_27 _ m15 b_p_c s1 h18 _ hE26) fun a w _ hR hF => hK _ _ ?_
 obtain ⟨rfl, hR26, hk28⟩ := hR
 have hS : St _ _ _ _ [[⟨b_p_c, [s1.v, (.int .i64 t_27.2.at_), (.int .u64 t_27.2.seed.v)], 65⟩], [⟨b25, [s24.v], 26⟩], q24, q9, [⟨b2, [nilS.v], 26⟩]] := hS26.leaveF hR26
 have h28 : Rd m15 s1 t_27.2.code := by rw [hk28]; exact h18
 refine q_x (v := (.int .i64 t_27.1)) hF hS (ex_assign rfl) rfl rfl fun a hF => q_end (n_sq (q_block ?_))
 obtain ⟨o1, hl1, hr⟩ := bindS hr
 refine q_loop (fun (s : Int × spec_l1Cur × impl_Geo) a w => ∃ (q33 : Piece), ∃ (s33 : Sl), ∃ k_29, ∃ p_c_30, ∃ g_32, s = (k_29, p_c_30, g_32) ∧ Fr a 39 [(0, (.pointer (some ⟨b_p_c, 0, none⟩))), (2, (.pointer (some ⟨b2, 0, none⟩))), (4, (.pointer (some ⟨b25, 0, none⟩))), (5, (.int .i64 k_29))] ∧ St X w0 w m15 [q33, [⟨b_p_c, [s1.v, (.int .i64 p_c_30.at_), (.int .u64 p_c_30.seed.v)], 65⟩], [⟨b25, [s33.v], 26⟩], [⟨b2, [nilS.v], 26⟩]] ∧ Rd m15 s1 p_c_30.code ∧ p_c_30.code = p_c.code ∧ OwnL m15 3 q33 s33 g_32.Parents) (fun (o : spec_l1Cur × impl_Geo) e a w => ∃ (q47 : Piece), ∃ (s47 : Sl), ∃ p_c_44, ∃ g_46, o = (p_c_44, g_46) ∧ e = .exit 0 ∧ Fr a 39 [(2, (.pointer (some ⟨b2, 0, none⟩))), (4, (.pointer (some ⟨b25, 0, none⟩)))] ∧ St X w0 w m15 [q47, [⟨b_p_c, [s1.v, (.int .i64 p_c_44.at_), (.int .u64 p_c_44.seed.v)], 65⟩], [⟨b25, [s47.v], 26⟩], [⟨b2, [nilS.v], 26⟩]] ∧ Rd m15 s1 p_c_44.code ∧ p_c_44.code = p_c.code ∧ OwnL m15 3 q47 s47 g_46.Parents) hl1 ⟨q24, s24, _, _, _, rfl, hF.sub ⟨rfl, rfl, rfl, rfl, trivial⟩, hS.sel [2, 0, 1, 4] (by decide), h28, (hk28.trans hk18), h24⟩ ?_ ?_
 ·clear hF hS
  rintro s a w st ⟨q33, s33, k_29, p_c_30, g_32, rfl, hF, hS, h31, h31k, h33⟩ hb1
  unfold spec_l1Cur_geo_l1 at hb1
  refine q_seq (q_seq (q_region (q_x (v := (.int .i64 k_29)) hF hS (ex_move rfl) rfl rfl fun a hF => q_x (v := (.bool (decide (0 < k_29)))) hF hS (ex_ibin rfl rfl rfl) rfl rfl fun a hF => q_end (n_sq ?_))))
  rcases bcase (decide (0 < k_29)) with hc2 | hc2
  ·have hb1 := cond_f hc2 hb1
   refine q_cond_f hF rfl hc2 (q_exit (x_sq ?_))
   obtain rfl := someI hb1
   exact ⟨nofun, .inl ⟨q33, s33, _, _, rfl, rfl, hF.sub ⟨rfl, rfl, trivial⟩, hS, h31, h31k, h33⟩⟩
  ·have hb1 := cond_t hc2 hb1
   refine q_cond_t hF rfl hc2 (q_skipc (n_sq (q_seq (q_block ?_))))
   obtain ⟨j3, hj3, hb1⟩ := bindS hb1
   refine q_join (fun a w => ∃ (q43 : Piece), ∃ (s43 : Sl), ∃ p_c_40, ∃ g_42, j3 = (p_c_40, g_42) ∧ Fr a 39 [(0, (.pointer (some ⟨b_p_c, 0, none⟩))), (2, (.pointer (some ⟨b2, 0, none⟩))), (4, (.pointer (some ⟨b25, 0, none⟩))), (5, (.int .i64 k_29))] ∧ St X w0 w m15 [q43, [⟨b_p_c, [s1.v, (.int .i64 p_c_40.at_), (.int .u64 p_c_40.seed.v)], 65⟩], [⟨b25, [s43.v], 26⟩], [⟨b2, [nilS.v], 26⟩]] ∧ Rd m15 s1 p_c_40.code ∧ p_c_40.code = p_c.code ∧ OwnL m15 3 q43 s43 g_42.Parents) ?_ ?_
   ·refine e_region ⟨[6, 8, 10], []⟩ mixed fun w' hw' => ?_
    have hS := hS.below hw'
    refine e_p (v := (.pointer (some ⟨b25, 0, none⟩))) 0 hF rfl (ex_fieldAddr Try.underlying26 rfl sz24 rfl rfl) rfl rfl (by kernel_rfl) (by kernel_rfl) (by kernel_rfl) fun a hF => e_p (v := (.pointer (some ⟨b_p_c, 0, none⟩))) 2 hF rfl (ex_move rfl) rfl rfl (by kernel_rfl) (by kernel_rfl) (by kernel_rfl) fun a hF => e_p (v := (.pointer (some ⟨b25, 0, none⟩))) 3 hF rfl (ex_fieldAddr Try.underlying26 rfl sz24 rfl rfl) rfl rfl (by kernel_rfl) (by kernel_rfl) (by kernel_rfl) fun a hF => ?_
    obtain ⟨t_35, ht_35, hj3⟩ := bindS hj3
    obtain ⟨l_38, hl_38, hj3⟩ := bindS hj3
    refine e_all [1, 4] (by kernel_rfl) rfl ⟨?_, ?_, trivial⟩
    ·refine e_lx (v := s33.v) hF hS rfl (ex_load1 2 0 Try.underlying24 rfl rfl rfl rfl) rfl rfl fun a hF => e_one 4 (by kernel_rfl) (e_lx (v := s33.v) hF hS rfl (ex_load1 2 0 Try.underlying24 rfl rfl rfl rfl) rfl rfl fun a hF => e_p (v := (.int .i64 (goLen g_32.Parents))) 5 hF rfl (ex_len Try.underlying24 rfl h33.len) rfl rfl (by kernel_rfl) (by kernel_rfl) (by kernel_rfl) fun a hF => e_one 6 (by kernel_rfl) ?_)
     have hS : St _ _ _ _ [[⟨b_p_c, [s1.v, (.int .i64 p_c_30.at_), (.int .u64 p_c_30.seed.v)], 65⟩], q33, [⟨b25, [s33.v], 26⟩], [⟨b2, [nilS.v], 26⟩]] := hS.sel [1, 0, 2, 3] (by decide)
     have hS34 : St _ _ _ _ ([[⟨b_p_c, [s1.v, (.int .i64 p_c_30.at_), (.int .u64 p_c_30.seed.v)], 65⟩]] ++ [q33, [⟨b25, [s33.v], 26⟩], [⟨b2, [nilS.v], 26⟩]]) := hS
     have hE34 := hS34.enter
     refine e_opl rfl rfl rfl fun _ hK => wp_callX (vs := [(.pointer (some ⟨b_p_c, 0, none⟩)), (.int .i64 (goLen g_32.Parents))]) hF Try.func53 (by kernel_rfl) rfl rfl rfl (c_spec_l1Cur_pick p_c_30 (goLen g_32.Parents) t_35 ht_35 _ m15 b_p_c s1 h31 _ hE34) fun a w _ hR hF => hK _ _ ?_
     obtain ⟨rfl, hR34, hk36⟩ := hR
     have hS : St _ _ _ _ [[⟨b_p_c, [s1.v, (.int .i64 t_35.2.at_), (.int .u64 t_35.2.seed.v)], 65⟩], q33, [⟨b25, [s33.v], 26⟩], [⟨b2, [nilS.v], 26⟩]] := hS34.leaveF hR34
     have h36 : Rd m15 s1 t_35.2.code := by rw [hk36]; exact h31
     refine ⟨kpN, ?_⟩
     refine e_one 7 (by kernel_rfl) (e_op rfl rfl fun _ hK => wp_buildSlice' (l := ([t_35.1] : List Int)) (cells := [(.int .i64 t_35.1)]) hF hS Try.underlying24 inf3 rfl rfl (by kernel_rfl) rfl rfl rfl ⟨rfl, rfl⟩ rfl rfl fun a w q37 s37 hF hS h37 hb => hK _ _ hb (e_one 8 (by kernel_rfl) ?_))
     have hS : St _ _ _ _ [q33, q37, [⟨b_p_c, [s1.v, (.int .i64 t_35.2.at_), (.int .u64 t_35.2.seed.v)], 65⟩], [⟨b25, [s33.v], 26⟩], [⟨b2, [nilS.v], 26⟩]] := hS.sel [2, 0, 1, 3, 4] (by decide)
     refine e_opl rfl rfl rfl fun _ hK => wp_append hF hS h33 Try.underlying24 inf3 rfl rfl rfl rfl (h37.vw hS (j := 1) rfl) rfl (by decide) hl_38 rfl fun a w q39 s39 hF hS h39 => hK _ _ (⟨kpN, ?_⟩)
     refine e_p (v := (.pointer (some ⟨b25, 0, none⟩))) 9 hF rfl (ex_fieldAddr Try.underlying26 rfl sz24 rfl rfl) rfl rfl (by kernel_rfl) (by kernel_rfl) (by kernel_rfl) fun a hF => e_one 10 (by kernel_rfl) (e_store (vs := [s39.v]) (cs' := [s39.v]) 3 0 hF hS rfl rfl sz24 rfl rfl rfl rfl rfl rfl rfl rfl fun a w hF hS => ⟨kpN, ?_⟩)
     refine e_end (by kernel_rfl) (n_jn ?_) _
     obtain rfl := someI hj3
     exact ⟨q39, s39, _, _, rfl, hF.sub ⟨rfl, rfl, rfl, rfl, trivial⟩, hS.mask [true, false, true, true, true], h36, (hk36.trans h31k), h39⟩
    ·refine e_lx (v := s33.v) hF hS rfl (ex_load1 2 0 Try.underlying24 rfl rfl rfl rfl) rfl rfl fun a hF => e_p (v := (.int .i64 (goLen g_32.Parents))) 5 hF rfl (ex_len Try.underlying24 rfl h33.len) rfl rfl (by kernel_rfl) (by kernel_rfl) (by kernel_rfl) fun a hF => e_all [1, 6] (by kernel_rfl) rfl ⟨?_, ?_, trivial⟩
     ·refine e_lx (v := s33.v) hF hS rfl (ex_load1 2 0 Try.underlying24 rfl rfl rfl rfl) rfl rfl fun a hF => e_one 6 (by kernel_rfl) ?_
      have hS : St _ _ _ _ [[⟨b_p_c, [s1.v, (.int .i64 p_c_30.at_), (.int .u64 p_c_30.seed.v)], 65⟩], q33, [⟨b25, [s33.v], 26⟩], [⟨b2, [nilS.v], 26⟩]] := hS.sel [1, 0, 2, 3] (by decide)
      have hS34 : St _ _ _ _ ([[⟨b_p_c, [s1.v, (.int .i64 p_c_30.at_), (.int .u64 p_c_30.seed.v)], 65⟩]] ++ [q33, [⟨b25, [s33.v], 26⟩], [⟨b2, [nilS.v], 26⟩]]) := hS
      have hE34 := hS34.enter
      refine e_opl rfl rfl rfl fun _ hK => wp_callX (vs := [(.pointer (some ⟨b_p_c, 0, none⟩)), (.int .i64 (goLen g_32.Parents))]) hF Try.func53 (by kernel_rfl) rfl rfl rfl (c_spec_l1Cur_pick p_c_30 (goLen g_32.Parents) t_35 ht_35 _ m15 b_p_c s1 h31 _ hE34) fun a w _ hR hF => hK _ _ ?_
      obtain ⟨rfl, hR34, hk36⟩ := hR
      have hS : St _ _ _ _ [[⟨b_p_c, [s1.v, (.int .i64 t_35.2.at_), (.int .u64 t_35.2.seed.v)], 65⟩], q33, [⟨b25, [s33.v], 26⟩], [⟨b2, [nilS.v], 26⟩]] := hS34.leaveF hR34
      have h36 : Rd m15 s1 t_35.2.code := by rw [hk36]; exact h31
      refine ⟨kpN, ?_⟩
      refine e_one 7 (by kernel_rfl) (e_op rfl rfl fun _ hK => wp_buildSlice' (l := ([t_35.1] : List Int)) (cells := [(.int .i64 t_35.1)]) hF hS Try.underlying24 inf3 rfl rfl (by kernel_rfl) rfl rfl rfl ⟨rfl, rfl⟩ rfl rfl fun a w q37 s37 hF hS h37 hb => hK _ _ hb (e_one 8 (by kernel_rfl) ?_))
      have hS : St _ _ _ _ [q33, q37, [⟨b_p_c, [s1.v, (.int .i64 t_35.2.at_), (.int .u64 t_35.2.seed.v)], 65⟩], [⟨b25, [s33.v], 26⟩], [⟨b2, [nilS.v], 26⟩]] := hS.sel [2, 0, 1, 3, 4] (by decide)
      refine e_opl rfl rfl rfl fun _ hK => wp_append hF hS h33 Try.underlying24 inf3 rfl rfl rfl rfl (h37.vw hS (j := 1) rfl) rfl (by decide) hl_38 rfl fun a w q39 s39 hF hS h39 => hK _ _ (⟨kpN, ?_⟩)
      refine e_p (v := (.pointer (some ⟨b25, 0, none⟩))) 9 hF rfl (ex_fieldAddr Try.underlying26 rfl sz24 rfl rfl) rfl rfl (by kernel_rfl) (by kernel_rfl) (by kernel_rfl) fun a hF => e_one 10 (by kernel_rfl) (e_store (vs := [s39.v]) (cs' := [s39.v]) 3 0 hF hS rfl rfl sz24 rfl rfl rfl rfl rfl rfl rfl rfl fun a w hF hS => ⟨kpN, ?_⟩)
      refine e_end (by kernel_rfl) (n_jn ?_) _
      obtain rfl := someI hj3
      exact ⟨q39, s39, _, _, rfl, hF.sub ⟨rfl, rfl, rfl, rfl, trivial⟩, hS.mask [true, false, true, true, true], h36, (hk36.trans h31k), h39⟩
     ·have hS : St _ _ _ _ [[⟨b_p_c, [s1.v, (.int .i64 p_c_30.at_), (.int .u64 p_c_30.seed.v)], 65⟩], q33, [⟨b25, [s33.v], 26⟩], [⟨b2, [nilS.v], 26⟩]] := hS.sel [1, 0, 2, 3] (by decide)
      have hS34 : St _ _ _ _ ([[⟨b_p_c, [s1.v, (.int .i64 p_c_30.at_), (.int .u64 p_c_30.seed.v)], 65⟩]] ++ [q33, [⟨b25, [s33.v], 26⟩], [⟨b2, [nilS.v], 26⟩]]) := hS
      have hE34 := hS34.enter
      refine e_opl rfl rfl rfl fun _ hK => wp_callX (vs := [(.pointer (some ⟨b_p_c, 0, none⟩)), (.int .i64 (goLen g_32.Parents))]) hF Try.func53 (by kernel_rfl) rfl rfl rfl (c_spec_l1Cur_pick p_c_30 (goLen g_32.Parents) t_35 ht_35 _ m15 b_p_c s1 h31 _ hE34) fun a w _ hR hF => hK _ _ ?_
      obtain ⟨rfl, hR34, hk36⟩ := hR
      have hS : St _ _ _ _ [[⟨b_p_c, [s1.v, (.int .i64 t_35.2.at_), (.int .u64 t_35.2.seed.v)], 65⟩], q33, [⟨b25, [s33.v], 26⟩], [⟨b2, [nilS.v], 26⟩]] := hS34.leaveF hR34
      have h36 : Rd m15 s1 t_35.2.code := by rw [hk36]; exact h31
      refine ⟨kpN, ?_⟩
      refine e_x (v := s33.v) 1 hF hS rfl (ex_load1 2 0 Try.underlying24 rfl rfl rfl rfl) rfl rfl (by kernel_rfl) (by kernel_rfl) (by kernel_rfl) (by kernel_rfl) fun a hF => e_one 7 (by kernel_rfl) (e_op rfl rfl fun _ hK => wp_buildSlice' (l := ([t_35.1] : List Int)) (cells := [(.int .i64 t_35.1)]) hF hS Try.underlying24 inf3 rfl rfl (by kernel_rfl) rfl rfl rfl ⟨rfl, rfl⟩ rfl rfl fun a w q37 s37 hF hS h37 hb => hK _ _ hb (e_one 8 (by kernel_rfl) ?_))
      have hS : St _ _ _ _ [q33, q37, [⟨b_p_c, [s1.v, (.int .i64 t_35.2.at_), (.int .u64 t_35.2.seed.v)], 65⟩], [⟨b25, [s33.v], 26⟩], [⟨b2, [nilS.v], 26⟩]] := hS.sel [2, 0, 1, 3, 4] (by decide)
      refine e_opl rfl rfl rfl fun _ hK => wp_append hF hS h33 Try.underlying24 inf3 rfl rfl rfl rfl (h37.vw hS (j := 1) rfl) rfl (by decide) hl_38 rfl fun a w q39 s39 hF hS h39 => hK _ _ (⟨kpN, ?_⟩)
      refine e_p (v := (.pointer (some ⟨b25, 0, none⟩))) 9 hF rfl (ex_fieldAddr Try.underlying26 rfl sz24 rfl rfl) rfl rfl (by kernel_rfl) (by kernel_rfl) (by kernel_rfl) fun a hF => e_one 10 (by kernel_rfl) (e_store (vs := [s39.v]) (cs' := [s39.v]) 3 0 hF hS rfl rfl sz24 rfl rfl rfl rfl rfl rfl rfl rfl fun a w hF hS => ⟨kpN, ?_⟩)
      refine e_end (by kernel_rfl) (n_jn ?_) _
      obtain rfl := someI hj3
      exact ⟨q39, s39, _, _, rfl, hF.sub ⟨rfl, rfl, rfl, rfl, trivial⟩, hS.mask [true, false, true, true, true], h36, (hk36.trans h31k), h39⟩
   ·rintro a w ⟨q43, s43, p_c_40, g_42, rfl, hF, hS, h41, h41k, h43⟩
    refine n_ib (n_sq ?_)
    refine q_region (q_x (v := (.int .i64 k_29)) hF hS (ex_move rfl) rfl rfl fun a hF => q_x (v := (.int .i64 (w64 (k_29 - 1)))) hF hS (ex_ibin rfl rfl rfl) rfl rfl fun a hF => q_x (v := (.int .i64 (w64 (k_29 - 1)))) hF hS (ex_assign rfl) rfl rfl fun a hF => q_end ?_)
    obtain rfl := someI hb1
    exact ⟨rfl, q43, s43, _, _, _, rfl, hF.sub ⟨rfl, rfl, rfl, rfl, trivial⟩, hS, h41, h41k, h43⟩
 ·rintro e a w ⟨q47, s47, p_c_44, g_46, rfl, rfl, hF, hS, h45, h45k, h47⟩
  refine x_ib (n_sq ?_)
  refine q_seq (q_region (q_x (v := (.agg #[s47.v])) hF hS (ex_loadA (vs := [s47.v]) 2 0 Try.underlying26 rfl sz26 rfl rfl rfl rfl) rfl rfl fun a hF => q_store (vs := [s47.v]) (cs' := [s47.v]) 3 0 hF hS sz26 rfl rfl rfl rfl rfl rfl rfl rfl fun a w hF hS => q_end (n_sq (q_ret ?_))))
  obtain rfl := someI hr
  exact ret_ofX hF hS rfl (.cellA (us := [s47.v]) 3 0 Try.underlying26 rfl sz26 rfl rfl rfl rfl .nil) ⟨m15, q47, s47, rfl, (((((hm10.trans hm11).trans hm12).trans hm13).trans hm14).trans hm15), hS.sel [1, 0] (by decide), h47, h45k⟩

theorem c_spec_l1Cur_schema (p_c : spec_l1Cur) (r : (List impl_Variable) × spec_l1Cur) (hr : spec_l1Cur_schema p_c = some r) (w0 : World) (m : Mem) (b_p_c : Nat) (s1 : Sl) (h1 : Rd m s1 p_c.code) (X : List Nat) (hS : St X w0 w0 m [[⟨b_p_c, [s1.v, (.int .i64 p_c.at_), (.int .u64 p_c.seed.v)], 65⟩]]) :
  RetX Try.prog 101 [(.pointer (some ⟨b_p_c, 0, none⟩))] w0 (fun v w => ∃ (q0' : Piece) (s0' : Sl), v = s0'.v ∧ St X w0 w m [[⟨b_p_c, [s1.v, (.int .i64 r.2.at_), (.int .u64 r.2.seed.v)], 65⟩], q0'] ∧ OwnL m 58 q0' s0' r.1 ∧ r.2.code = p_c.code) := by
 unfold spec_l1Cur_schema at hr
 refine ret_startX Try.func101 rfl 26 rfl rfl fun a hF => q_seq (q_region (q_x (v := nilS.v) hF hS (ex_assign rfl) rfl rfl fun a hF => q_end (n_sq (q_seq (q_region (q_do rfl fun _ hK => wp_buildSlice' (l := ([([115, 101, 120] : List UInt8), ([97, 103, 101] : List UInt8), ([106, 111, 98] : List UInt8), ([104, 111, 109, 101] : List UInt8), ([115, 105, 122, 101] : List UInt8), ([108, 97, 110, 103] : List UInt8)] : List (List UInt8))) (cells := [(strV ([115, 101, 120] : List UInt8)), (strV ([97, 103, 101] : List UInt8)), (strV ([106, 111, 98] : List UInt8)), (strV ([104, 111, 109, 101] : List UInt8)), (strV ([115, 105, 122, 101] : List UInt8)), (strV ([108, 97, 110, 103] : List UInt8))]) hF hS Try.underlying115 inf9 rfl rfl (by kernel_rfl) rfl rfl rfl ⟨rfl, rfl, rfl, rfl, rfl, rfl, rfl⟩ rfl rfl fun a w q2 s2 hF hS h2 _ => hK _ _ (q_x (v := s2.v) hF hS (ex_assign rfl) rfl rfl fun a hF => q_end (n_sq (q_seq (q_region (q_x (v := nilS.v) hF hS (ex_assign rfl) rfl rfl fun a hF => q_end (n_sq (q_seq (q_seq (q_region (q_x (v := (.int .i64 0)) hF hS (ex_assign rfl) rfl rfl fun a hF => q_end (n_sq (q_block ?_))))))))))))))))))
 obtain ⟨o1, hl1, hr⟩ := bindS hr
 refine q_loop (fun (s : (List impl_Variable) × Int × spec_l1Cur) a w => ∃ (q4 : Piece), ∃ (s4 : Sl), ∃ out_3, ∃ k_5, ∃ p_c_6, s = (out_3, k_5, p_c_6) ∧ Fr a 26 [(0, (.pointer (some ⟨b_p_c, 0, none⟩))), (3, s2.v), (4, s4.v), (5, (.int .i64 k_5))] ∧ St X w0 w m [q4, q2, [⟨b_p_c, [s1.v, (.int .i64 p_c_6.at_), (.int .u64 p_c_6.seed.v)], 65⟩]] ∧ OwnL m 58 q4 s4 out_3 ∧ Rd m s1 p_c_6.code ∧ p_c_6.code = p_c.code) (fun (o : (List impl_Variable) × spec_l1Cur) e a w => ∃ (q27 : Piece), ∃ (s27 : Sl), ∃ out_26, ∃ p_c_28, o = (out_26, p_c_28) ∧ e = .exit 0 ∧ Fr a 26 [(4, s27.v)] ∧ St X w0 w m [q27, [⟨b_p_c, [s1.v, (.int .i64 p_c_28.at_), (.int .u64 p_c_28.seed.v)], 65⟩]] ∧ OwnL m 58 q27 s27 out_26 ∧ Rd m s1 p_c_28.code ∧ p_c_28.code = p_c.code) hl1 ⟨[], nilS, _, _, _, rfl, hF.sub ⟨rfl, rfl, rfl, rfl, trivial⟩, hS.sel [2, 0, 1] (by decide), (OwnL.nil (α := impl_Variable) m 58), h1, rfl⟩ ?_ ?_
 ·clear hF hS
  rintro s a w st ⟨q4, s4, out_3, k_5, p_c_6, rfl, hF, hS, h4, h7, h7k⟩ hb1
  unfold spec_l1Cur_schema_l1 at hb1
  refine q_seq (q_seq (q_region (q_x (v := (.int .i64 k_5)) hF hS (ex_move rfl) rfl rfl fun a hF => q_x (v := (.pointer (some ⟨b_p_c, 0, none⟩))) hF hS (ex_move rfl) rfl rfl fun a hF => ?_)))
  have hS : St _ _ _ _ [[⟨b_p_c, [s1.v, (.int .i64 p_c_6.at_), (.int .u64 p_c_6.seed.v)], 65⟩], q4, q2] := hS.sel [2, 0, 1] (by decide)
  have hS8 : St _ _ _ _ ([[⟨b_p_c, [s1.v, (.int .i64 p_c_6.at_), (.int .u64 p_c_6.seed.v)], 65⟩]] ++ [q4, q2]) := hS
  have hE8 := hS8.enter
  obtain ⟨t_9, ht_9, hb1⟩ := bindS hb1
  refine q_do rfl fun _ hK => wp_callX (vs := [(.pointer (some ⟨b_p_c, 0, none⟩)), (.int .i64 3)]) hF Try.func53 (by kernel_rfl) rfl rfl rfl (c_spec_l1Cur_pick p_c_6 3 t_9 ht_9 _ m b_p_c s1 h7 _ hE8) fun a w _ hR hF => hK _ _ ?_
  obtain ⟨rfl, hR8, hk10⟩ := hR
  have hS : St _ _ _ _ [[⟨b_p_c, [s1.v, (.int .i64 t_9.2.at_), (.int .u64 t_9.2.seed.v)], 65⟩], q4, q2] := hS8.leaveF hR8
  have h10 : Rd m s1 t_9.2.code := by rw [hk10]; exact h7
  refine q_x (v := (.int .i64 (w64 (1 + t_9.1)))) hF hS (ex_ibin rfl rfl rfl) rfl rfl fun a hF => q_x (v := (.bool (decide (k_5 < (w64 (1 + t_9.1)))))) hF hS (ex_ibin rfl rfl rfl) rfl rfl fun a hF => q_end (n_sq ?_)
  rcases bcase (decide (k_5 < (w64 (1 + t_9.1)))) with hc2 | hc2
  ·have hb1 := cond_f hc2 hb1
   refine q_cond_f hF rfl hc2 (q_exit (x_sq ?_))
   obtain rfl := someI hb1
   exact ⟨nofun, .inl ⟨q4, s4, _, _, rfl, rfl, hF.sub ⟨rfl, trivial⟩, hS.sel [1, 0] (by decide), h4, h10, (hk10.trans h7k)⟩⟩
  ·have hb1 := cond_t hc2 hb1
   refine q_cond_t hF rfl hc2 (q_skipc (n_sq (q_seq (q_block ?_))))
   obtain ⟨j3, hj3, hb1⟩ := bindS hb1
   refine q_join (fun a w => ∃ (q23 : Piece), ∃ (s23 : Sl), ∃ out_22, ∃ p_c_24, j3 = (out_22, p_c_24) ∧ Fr a 26 [(0, (.pointer (some ⟨b_p_c, 0, none⟩))), (3, s2.v), (4, s23.v), (5, (.int .i64 k_5))] ∧ St X w0 w m [q2, q23, [⟨b_p_c, [s1.v, (.int .i64 p_c_24.at_), (.int .u64 p_c_24.seed.v)], 65⟩]] ∧ OwnL m 58 q23 s23 out_22 ∧ Rd m s1 p_c_24.code ∧ p_c_24.code = p_c.code) ?_ ?_
   ·refine e_region ⟨[6, 10], []⟩ mixed fun w' hw' => ?_
    have hS := hS.below hw'
    refine e_p (v := s4.v) 0 hF rfl (ex_move rfl) rfl rfl (by kernel_rfl) (by kernel_rfl) (by kernel_rfl) fun a hF => e_p (v := s2.v) 1 hF rfl (ex_move rfl) rfl rfl (by kernel_rfl) (by kernel_rfl) (by kernel_rfl) fun a hF => e_p (v := (.int .i64 k_5)) 2 hF rfl (ex_move rfl) rfl rfl (by kernel_rfl) (by kernel_rfl) (by kernel_rfl) fun a hF => ?_
    obtain ⟨e_11, he_11, hj3⟩ := bindS hj3
    obtain ⟨vs12, at12, d12⟩ := h2.at he_11 1 rfl
    obtain rfl : vs12 = [(strV e_11)] := d12
    refine e_p (v := (elP s2 (k_5.toNat * 1))) 3 hF rfl (ex_indexAddr Try.underlying115 sz9 rfl rfl (h2.idx he_11)) rfl rfl (by kernel_rfl) (by kernel_rfl) (by kernel_rfl) fun a hF => e_p (v := (.pointer (some ⟨b_p_c, 0, none⟩))) 5 hF rfl (ex_move rfl) rfl rfl (by kernel_rfl) (by kernel_rfl) (by kernel_rfl) fun a hF => ?_
    obtain ⟨t_17, ht_17, hj3⟩ := bindS hj3
    obtain ⟨l_20, hl_20, hj3⟩ := bindS hj3
    refine e_all [4, 6] (by kernel_rfl) rfl ⟨?_, ?_, trivial⟩
    ·refine e_lx (v := (strV e_11)) hF hS rfl (ex_loadE1 0 Try.underlying9 rfl rfl (at12.at 2 rfl) rfl rfl) rfl rfl fun a hF => e_one 6 (by kernel_rfl) ?_
     have hS16 : St _ _ _ _ ([[⟨b_p_c, [s1.v, (.int .i64 t_9.2.at_), (.int .u64 t_9.2.seed.v)], 65⟩]] ++ [q4, q2]) := hS
     have hE16 := hS16.enter
     refine e_opl rfl rfl rfl fun _ hK => wp_callX (vs := [(.pointer (some ⟨b_p_c, 0, none⟩)), (.int .i64 3)]) hF Try.func53 (by kernel_rfl) rfl rfl rfl (c_spec_l1Cur_pick t_9.2 3 t_17 ht_17 _ m b_p_c s1 h10 _ hE16) fun a w _ hR hF => hK _ _ ?_
     obtain ⟨rfl, hR16, hk18⟩ := hR
     have hS : St _ _ _ _ [[⟨b_p_c, [s1.v, (.int .i64 t_17.2.at_), (.int .u64 t_17.2.seed.v)], 65⟩], q4, q2] := hS16.leaveF hR16
     have h18 : Rd m s1 t_17.2.code := by rw [hk18]; exact h10
     refine ⟨kpN, ?_⟩
     refine e_p (v := (.int .i64 (w64 (2 + t_17.1)))) 7 hF rfl (ex_ibin rfl rfl rfl) rfl rfl (by kernel_rfl) (by kernel_rfl) (by kernel_rfl) fun a hF => e_p (v := (.agg #[(strV e_11), (.int .i64 (w64 (2 + t_17.1)))])) 8 hF rfl (ex_build (cells := [(strV e_11), (.int .i64 (w64 (2 + t_17.1)))]) rfl (by kernel_rfl)) rfl rfl (by kernel_rfl) (by kernel_rfl) (by kernel_rfl) fun a hF => e_one 9 (by kernel_rfl) (e_op rfl rfl fun _ hK => wp_buildSlice' (l := ([(impl_Variable.mk e_11 (w64 (2 + t_17.1)))] : List impl_Variable)) (cells := [(strV e_11), (.int .i64 (w64 (2 + t_17.1)))]) hF hS Try.underlying27 inf58 rfl rfl (by kernel_rfl) rfl rfl rfl ⟨rfl, rfl⟩ rfl rfl fun a w q19 s19 hF hS h19 hb => hK _ _ hb (e_one 10 (by kernel_rfl) ?_))
     have hS : St _ _ _ _ [q4, q19, [⟨b_p_c, [s1.v, (.int .i64 t_17.2.at_), (.int .u64 t_17.2.seed.v)], 65⟩], q2] := hS.sel [2, 0, 1, 3] (by decide)
     refine e_opl rfl rfl rfl fun _ hK => wp_append hF hS h4 Try.underlying27 inf58 rfl rfl rfl rfl (h19.vw hS (j := 1) rfl) rfl (by decide) hl_20 rfl fun a w q21 s21 hF hS h21 => hK _ _ (⟨kpN, ?_⟩)
     refine e_p (v := s21.v) 11 hF rfl (ex_assign rfl) rfl rfl (by kernel_rfl) (by kernel_rfl) (by kernel_rfl) fun a hF => e_end (by kernel_rfl) (n_jn ?_) _
     obtain rfl := someI hj3
     exact ⟨q21, s21, _, _, rfl, hF.sub ⟨rfl, rfl, rfl, rfl, trivial⟩, hS.sel [3, 0, 2] (by decide), h21, h18, (hk18.trans (hk10.trans h7k))⟩
    ·have hS16 : St _ _ _ _ ([[⟨b_p_c, [s1.v, (.int .i64 t_9.2.at_), (.int .u64 t_9.2.seed.v)], 65⟩]] ++ [q4, q2]) := hS
     have hE16 := hS16.enter
     refine e_opl rfl rfl rfl fun _ hK => wp_callX (vs := [(.pointer (some ⟨b_p_c, 0, none⟩)), (.int .i64 3)]) hF Try.func53 (by kernel_rfl) rfl rfl rfl (c_spec_l1Cur_pick t_9.2 3 t_17 ht_17 _ m b_p_c s1 h10 _ hE16) fun a w _ hR hF => hK _ _ ?_
     obtain ⟨rfl, hR16, hk18⟩ := hR
     have hS : St _ _ _ _ [[⟨b_p_c, [s1.v, (.int .i64 t_17.2.at_), (.int .u64 t_17.2.seed.v)], 65⟩], q4, q2] := hS16.leaveF hR16
     have h18 : Rd m s1 t_17.2.code := by rw [hk18]; exact h10
     refine ⟨kpN, ?_⟩
     refine e_p (v := (.int .i64 (w64 (2 + t_17.1)))) 7 hF rfl (ex_ibin rfl rfl rfl) rfl rfl (by kernel_rfl) (by kernel_rfl) (by kernel_rfl) fun a hF => e_one 4 (by kernel_rfl) (e_lx (v := (strV e_11)) hF hS rfl (ex_loadE1 0 Try.underlying9 rfl rfl (at12.at 2 rfl) rfl rfl) rfl rfl fun a hF => e_p (v := (.agg #[(strV e_11), (.int .i64 (w64 (2 + t_17.1)))])) 8 hF rfl (ex_build (cells := [(strV e_11), (.int .i64 (w64 (2 + t_17.1)))]) rfl (by kernel_rfl)) rfl rfl (by kernel_rfl) (by kernel_rfl) (by kernel_rfl) fun a hF => e_one 9 (by kernel_rfl) (e_op rfl rfl fun _ hK => wp_buildSlice' (l := ([(impl_Variable.mk e_11 (w64 (2 + t_17.1)))] : List impl_Variable)) (cells := [(strV e_11), (.int .i64 (w64 (2 + t_17.1)))]) hF hS Try.underlying27 inf58 rfl rfl (by kernel_rfl) rfl rfl rfl ⟨rfl, rfl⟩ rfl rfl fun a w q19 s19 hF hS h19 hb => hK _ _ hb (e_one 10 (by kernel_rfl) ?_)))
     have hS : St _ _ _ _ [q4, q19, [⟨b_p_c, [s1.v, (.int .i64 t_17.2.at_), (.int .u64 t_17.2.seed.v)], 65⟩], q2] := hS.sel [2, 0, 1, 3] (by decide)
     refine e_opl rfl rfl rfl fun _ hK => wp_append hF hS h4 Try.underlying27 inf58 rfl rfl rfl rfl (h19.vw hS (j := 1) rfl) rfl (by decide) hl_20 rfl fun a w q21 s21 hF hS h21 => hK _ _ (⟨kpN, ?_⟩)
     refine e_p (v := s21.v) 11 hF rfl (ex_assign rfl) rfl rfl (by kernel_rfl) (by kernel_rfl) (by kernel_rfl) fun a hF => e_end (by kernel_rfl) (n_jn ?_) _
     obtain rfl := someI hj3
     exact ⟨q21, s21, _, _, rfl, hF.sub ⟨rfl, rfl, rfl, rfl, trivial⟩, hS.sel [3, 0, 2] (by decide), h21, h18, (hk18.trans (hk10.trans h7k))⟩
   ·rintro a w ⟨q23, s23, out_22, p_c_24, rfl, hF, hS, h23, h25, h25k⟩
    refine n_ib (n_sq ?_)
    refine q_region (q_x (v := (.int .i64 k_5)) hF hS (ex_move rfl) rfl rfl fun a hF => q_x (v := (.int .i64 (w64 (k_5 + 1)))) hF hS (ex_ibin rfl rfl rfl) rfl rfl fun a hF => q_x (v := (.int .i64 (w64 (k_5 + 1)))) hF hS (ex_assign rfl) rfl rfl fun a hF => q_end ?_)
    obtain rfl := someI hb1
    exact ⟨rfl, q23, s23, _, _, _, rfl, hF.sub ⟨rfl, rfl, rfl, rfl, trivial⟩, hS.sel [1, 0, 2] (by decide), h23, h25, h25k⟩
 ·rintro e a w ⟨q27, s27, out_26, p_c_28, rfl, rfl, hF, hS, h27, h29, h29k⟩
  refine x_ib (n_sq ?_)
  refine q_seq (q_region (q_x (v := s27.v) hF hS (ex_move rfl) rfl rfl fun a hF => q_x (v := s27.v) hF hS (ex_assign rfl) rfl rfl fun a hF => q_end (n_sq (q_ret ?_))))
  obtain rfl := someI hr
  exact ret_ofX hF hS rfl (.tmp rfl .nil) ⟨q27, s27, rfl, hS.sel [1, 0] (by decide), h27, h29k⟩

theorem c_spec_gChildren (p_g : impl_Geo) (p_i : Int) (r : (List Int)) (hr : spec_gChildren p_g p_i = some r) (w0 : World) (m : Mem) (hv : Vis m w0) (s1 : Sl) (h1 : Rd m s1 p_g.Parents) :
  Ret Try.prog 104 [(.agg #[s1.v]), (.int .i64 p_i)] w0 (fun v w => ∃ (q0' : Piece) (s0' : Sl), v = s0'.v ∧ St [] w0 w m [q0'] ∧ OwnL m 3 q0' s0' r) := by
 unfold spec_gChildren at hr
 refine ret_start Try.func104 rfl 25 rfl rfl m hv fun a hF hS => q_seq (q_region (q_box (cs := [s1.v]) hF hS rfl rfl rfl fun a w b2 hF hS => q_x (v := nilS.v) hF hS (ex_assign rfl) rfl rfl fun a hF => q_end (n_sq (q_seq (q_region (q_x (v := nilS.v) hF hS (ex_assign rfl) rfl rfl fun a hF => q_end (n_sq (q_seq (q_seq (q_region (q_x (v := (.pointer (some ⟨b2, 0, none⟩))) hF hS (ex_fieldAddr Try.underlying26 rfl sz24 rfl rfl) rfl rfl fun a hF => q_x (v := s1.v) hF hS (ex_load1 0 0 Try.underlying24 rfl rfl rfl rfl) rfl rfl fun a hF => q_x (v := (.int .i64 (goLen p_g.Parents))) hF hS (ex_len Try.underlying24 rfl h1.len) rfl rfl fun a hF => q_x (v := (.int .i64 0)) hF hS (ex_move rfl) rfl rfl fun a hF => q_end (n_sq (q_block ?_)))))))))))))
 obtain ⟨out_13, hl1, hr⟩ := bindS hr
 refine q_loop (fun (s : (List Int) × Int) a w => ∃ (q4 : Piece), ∃ (s4 : Sl), ∃ out_3, ∃ t_5, s = (out_3, t_5) ∧ Fr a 25 [(1, (.int .i64 p_i)), (5, s4.v), (9, s1.v), (10, (.int .i64 (goLen p_g.Parents))), (11, (.int .i64 t_5))] ∧ St [] w0 w m [q4] ∧ OwnL m 3 q4 s4 out_3) (fun (out_13 : (List Int)) e a w => ∃ (q14 : Piece), ∃ (s14 : Sl), e = .exit 0 ∧ Fr a 25 [(5, s14.v)] ∧ St [] w0 w m [q14] ∧ OwnL m 3 q14 s14 out_13) hl1 ⟨[], nilS, _, _, rfl, hF.sub ⟨rfl, rfl, rfl, rfl, rfl, trivial⟩, hS.sel [1] (by decide), (OwnL.nil (α := Int) m 3)⟩ ?_ ?_
 ·clear hF hS
  rintro s a w st ⟨q4, s4, out_3, t_5, rfl, hF, hS, h4⟩ hb1
  unfold spec_gChildren_l1 at hb1
  refine q_seq (q_region (q_x (v := (.bool (decide (t_5 < (goLen p_g.Parents))))) hF hS (ex_ibin rfl rfl rfl) rfl rfl fun a hF => q_end (n_sq (q_seq ?_))))
  rcases bcase (decide (t_5 < (goLen p_g.Parents))) with hc2 | hc2
  ·have hb1 := cond_f hc2 hb1
   refine q_cond_f hF rfl hc2 (q_exit (x_sq ?_))
   obtain rfl := someI hb1
   exact ⟨nofun, .inl ⟨q4, s4, rfl, hF.sub ⟨rfl, trivial⟩, hS, h4⟩⟩
  ·have hb1 := cond_t hc2 hb1
   refine q_cond_t hF rfl hc2 (q_skipc (n_sq (q_seq (q_block (q_seq (q_region (q_x (v := (.int .i64 t_5)) hF hS (ex_move rfl) rfl rfl fun a hF => ?_)))))))
   obtain ⟨e_6, he_6, hb1⟩ := bindS hb1
   obtain ⟨vs7, at7, d7⟩ := h1.at he_6 1 rfl
   obtain rfl : vs7 = [(.int .i64 e_6)] := d7
   refine q_x (v := (elP s1 (t_5.toNat * 1))) hF hS (ex_indexAddr Try.underlying24 sz3 rfl rfl (h1.idx he_6)) rfl rfl fun a hF => q_x (v := (.int .i64 e_6)) hF hS (ex_loadE1 0 Try.underlying3 rfl rfl ((at7).at) rfl rfl) rfl rfl fun a hF => q_x (v := (.int .i64 t_5)) hF hS (ex_assign rfl) rfl rfl fun a hF => q_x (v := (.int .i64 e_6)) hF hS (ex_assign rfl) rfl rfl fun a hF => q_end (n_sq (q_seq (q_region (q_x (v := (.int .i64 e_6)) hF hS (ex_move rfl) rfl rfl fun a hF => q_x (v := (.int .i64 p_i)) hF hS (ex_move rfl) rfl rfl fun a hF => q_x (v := (.bool (e_6 == p_i))) hF hS (ex_ibin rfl rfl rfl) rfl rfl fun a hF => q_end (n_sq ?_)))))
   obtain ⟨out_11, hj3, hb1⟩ := bindS hb1
   refine q_join (fun a w => ∃ (q12 : Piece), ∃ (s12 : Sl), Fr a 25 [(1, (.int .i64 p_i)), (5, s12.v), (9, s1.v), (10, (.int .i64 (goLen p_g.Parents))), (11, (.int .i64 t_5))] ∧ St [] w0 w m [q12] ∧ OwnL m 3 q12 s12 out_11) ?_ ?_
   ·rcases bcase (e_6 == p_i) with hc4 | hc4
    ·have hj3 := cond_f hc4 hj3
     refine q_cond_f hF rfl hc4 (q_skipc (n_jn ?_))
     obtain rfl := someI hj3
     exact ⟨q4, s4, hF.sub ⟨rfl, rfl, rfl, rfl, rfl, trivial⟩, hS, h4⟩
    ·have hj3 := cond_t hc4 hj3
     refine q_cond_t hF rfl hc4 (q_region (q_x (v := s4.v) hF hS (ex_move rfl) rfl rfl fun a hF => q_x (v := (.int .i64 t_5)) hF hS (ex_move rfl) rfl rfl fun a hF => q_do rfl fun _ hK => wp_buildSlice' (l := ([t_5] : List Int)) (cells := [(.int .i64 t_5)]) hF hS Try.underlying24 inf3 rfl rfl (by kernel_rfl) rfl rfl rfl ⟨rfl, rfl⟩ rfl rfl fun a w q8 s8 hF hS h8 _ => hK _ _ ?_))
     have hS : St _ _ _ _ [q4, q8] := hS.sel [1, 0] (by decide)
     obtain ⟨l_9, hl_9, hj3⟩ := bindS hj3
     refine q_do rfl fun _ hK => wp_append hF hS h4 Try.underlying24 inf3 rfl rfl rfl rfl (h8.vw hS (j := 1) rfl) rfl (by decide) hl_9 rfl fun a w q10 s10 hF hS h10 => hK _ _ (q_x (v := s10.v) hF hS (ex_assign rfl) rfl rfl fun a hF => q_end (n_jn ?_))
     obtain rfl := someI hj3
     exact ⟨q10, s10, hF.sub ⟨rfl, rfl, rfl, rfl, rfl, trivial⟩, hS.mask [true, false], h10⟩
   ·rintro a w ⟨q12, s12, hF, hS, h12⟩
    refine n_ib (n_sq ?_)
    refine q_region (q_x (v := (.int .i64 (w64 (t_5 + 1)))) hF hS (ex_ibin rfl rfl rfl) rfl rfl fun a hF => q_x (v := (.int .i64 (w64 (t_5 + 1)))) hF hS (ex_move rfl) rfl rfl fun a hF => q_end ?_)
    obtain rfl := someI hb1
    exact ⟨rfl, q12, s12, _, _, rfl, hF.sub ⟨rfl, rfl, rfl, rfl, rfl, trivial⟩, hS, h12⟩
 ·rintro e a w ⟨q14, s14, rfl, hF, hS, h14⟩
  refine x_ib (n_sq ?_)
  refine q_seq (q_region (q_x (v := s14.v) hF hS (ex_move rfl) rfl rfl fun a hF => q_x (v := s14.v) hF hS (ex_assign rfl) rfl rfl fun a hF => q_end (n_sq (q_ret ?_))))
  obtain rfl := someI hr
  exact ret_of hF hS rfl (.tmp rfl .nil) ⟨q14, s14, rfl, hS.sel [0] (by decide), h14⟩

theorem c_spec_gLeaves (p_g : impl_Geo) (r : (List Int)) (hr : spec_gLeaves p_g = some r) (w0 : World) (m : Mem) (hv : Vis m w0) (s1 : Sl) (h1 : Rd m s1 p_g.Parents) :
  Ret Try.prog 96 [(.agg #[s1.v])] w0 (fun v w => ∃ (q0' : Piece) (s0' : Sl), v = s0'.v ∧ St [] w0 w m [q0'] ∧ OwnL m 3 q0' s0' r) := by
 unfold spec_gLeaves at hr
 refine ret_start Try.func96 rfl 22 rfl rfl m hv fun a hF hS => q_seq (q_region (q_box (cs := [s1.v]) hF hS rfl rfl rfl fun a w b2 hF hS => q_x (v := nilS.v) hF hS (ex_assign rfl) rfl rfl fun a hF => q_end (n_sq (q_seq (q_region (q_x (v := nilS.v) hF hS (ex_assign rfl) rfl rfl fun a hF => q_end (n_sq (q_seq (q_seq (q_region (q_x (v := (.pointer (some ⟨b2, 0, none⟩))) hF hS (ex_fieldAddr Try.underlying26 rfl sz24 rfl rfl) rfl rfl fun a hF => q_x (v := s1.v) hF hS (ex_load1 0 0 Try.underlying24 rfl rfl rfl rfl) rfl rfl fun a hF => q_x (v := (.int .i64 (goLen p_g.Parents))) hF hS (ex_len Try.underlying24 rfl h1.len) rfl rfl fun a hF => q_x (v := (.int .i64 0)) hF hS (ex_move rfl) rfl rfl fun a hF => q_end (n_sq (q_block ?_)))))))))))))
 obtain ⟨out_14, hl1, hr⟩ := bindS hr
 refine q_loop (fun (s : (List Int) × Int) a w => ∃ (q4 : Piece), ∃ (s4 : Sl), ∃ out_3, ∃ t_5, s = (out_3, t_5) ∧ Fr a 22 [(1, (.pointer (some ⟨b2, 0, none⟩))), (3, s4.v), (7, (.int .i64 (goLen p_g.Parents))), (8, (.int .i64 t_5))] ∧ St [] w0 w m [q4, [⟨b2, [s1.v], 26⟩]] ∧ OwnL m 3 q4 s4 out_3) (fun (out_14 : (List Int)) e a w => ∃ (q15 : Piece), ∃ (s15 : Sl), e = .exit 0 ∧ Fr a 22 [(3, s15.v)] ∧ St [] w0 w m [q15] ∧ OwnL m 3 q15 s15 out_14) hl1 ⟨[], nilS, _, _, rfl, hF.sub ⟨rfl, rfl, rfl, rfl, trivial⟩, hS.sel [1, 0] (by decide), (OwnL.nil (α := Int) m 3)⟩ ?_ ?_
 ·clear hF hS
  rintro s a w st ⟨q4, s4, out_3, t_5, rfl, hF, hS, h4⟩ hb1
  unfold spec_gLeaves_l1 at hb1
  refine q_seq (q_region (q_x (v := (.bool (decide (t_5 < (goLen p_g.Parents))))) hF hS (ex_ibin rfl rfl rfl) rfl rfl fun a hF => q_end (n_sq (q_seq ?_))))
  rcases bcase (decide (t_5 < (goLen p_g.Parents))) with hc2 | hc2
  ·have hb1 := cond_f hc2 hb1
   refine q_cond_f hF rfl hc2 (q_exit (x_sq ?_))
   obtain rfl := someI hb1
   exact ⟨nofun, .inl ⟨q4, s4, rfl, hF.sub ⟨rfl, trivial⟩, hS.mask [true, false], h4⟩⟩
  ·have hb1 := cond_t hc2 hb1
   refine q_cond_t hF rfl hc2 (q_skipc (n_sq (q_seq (q_block (q_seq (q_region (q_x (v := (.int .i64 t_5)) hF hS (ex_move rfl) rfl rfl fun a hF => q_x (v := (.int .i64 t_5)) hF hS (ex_assign rfl) rfl rfl fun a hF => q_end (n_sq (q_seq (q_region (q_x (v := (.agg #[s1.v])) hF hS (ex_loadA (vs := [s1.v]) 1 0 Try.underlying26 rfl sz26 rfl rfl rfl rfl) rfl rfl fun a hF => q_x (v := (.int .i64 t_5)) hF hS (ex_move rfl) rfl rfl fun a hF => ?_)))))))))))
   obtain ⟨t_6, ht_6, hb1⟩ := bindS hb1
   refine q_call (vs := [(.agg #[s1.v]), (.int .i64 t_5)]) hF hS Try.func104 (by kernel_rfl) rfl rfl rfl (c_spec_gChildren p_g t_5 t_6 ht_6 _ m hS.vis s1 h1) ?_
   rintro a w _ ⟨q8, s8, rfl, hR7, h8⟩ hF hS2
   have hS : St _ _ _ _ [q8, q4, [⟨b2, [s1.v], 26⟩]] := hS.joinF hR7
   refine q_x (v := (.int .i64 (goLen t_6))) hF hS (ex_len Try.underlying24 rfl h8.len) rfl rfl fun a hF => q_x (v := (.bool ((goLen t_6) == 0))) hF hS (ex_ibin rfl rfl rfl) rfl rfl fun a hF => q_end (n_sq ?_)
   obtain ⟨out_12, hj3, hb1⟩ := bindS hb1
   refine q_join (fun a w => ∃ (q13 : Piece), ∃ (s13 : Sl), Fr a 22 [(1, (.pointer (some ⟨b2, 0, none⟩))), (3, s13.v), (7, (.int .i64 (goLen p_g.Parents))), (8, (.int .i64 t_5))] ∧ St [] w0 w m [q13, [⟨b2, [s1.v], 26⟩]] ∧ OwnL m 3 q13 s13 out_12) ?_ ?_
   ·rcases bcase ((goLen t_6) == 0) with hc4 | hc4
    ·have hj3 := cond_f hc4 hj3
     refine q_cond_f hF rfl hc4 (q_skipc (n_jn ?_))
     obtain rfl := someI hj3
     exact ⟨q4, s4, hF.sub ⟨rfl, rfl, rfl, rfl, trivial⟩, hS.mask [false, true, true], h4⟩
    ·have hj3 := cond_t hc4 hj3
     refine q_cond_t hF rfl hc4 (q_region (q_x (v := s4.v) hF hS (ex_move rfl) rfl rfl fun a hF => q_x (v := (.int .i64 t_5)) hF hS (ex_move rfl) rfl rfl fun a hF => q_do rfl fun _ hK => wp_buildSlice' (l := ([t_5] : List Int)) (cells := [(.int .i64 t_5)]) hF hS Try.underlying24 inf3 rfl rfl (by kernel_rfl) rfl rfl rfl ⟨rfl, rfl⟩ rfl rfl fun a w q9 s9 hF hS h9 _ => hK _ _ ?_))
     have hS : St _ _ _ _ [q4, q9, q8, [⟨b2, [s1.v], 26⟩]] := hS.sel [2, 0, 1, 3] (by decide)
     obtain ⟨l_10, hl_10, hj3⟩ := bindS hj3
     refine q_do rfl fun _ hK => wp_append hF hS h4 Try.underlying24 inf3 rfl rfl rfl rfl (h9.vw hS (j := 1) rfl) rfl (by decide) hl_10 rfl fun a w q11 s11 hF hS h11 => hK _ _ (q_x (v := s11.v) hF hS (ex_assign rfl) rfl rfl fun a hF => q_end (n_jn ?_))
     obtain rfl := someI hj3
     exact ⟨q11, s11, hF.sub ⟨rfl, rfl, rfl, rfl, trivial⟩, hS.mask [true, false, false, true], h11⟩
   ·rintro a w ⟨q13, s13, hF, hS, h13⟩
    refine n_ib (n_sq ?_)
    refine q_region (q_x (v := (.int .i64 (w64 (t_5 + 1)))) hF hS (ex_ibin rfl rfl rfl) rfl rfl fun a hF => q_x (v := (.int .i64 (w64 (t_5 + 1)))) hF hS (ex_move rfl) rfl rfl fun a hF => q_end ?_)
    obtain rfl := someI hb1
    exact ⟨rfl, q13, s13, _, _, rfl, hF.sub ⟨rfl, rfl, rfl, rfl, trivial⟩, hS, h13⟩
 ·rintro e a w ⟨q15, s15, rfl, hF, hS, h15⟩
  refine x_ib (n_sq ?_)
  refine q_seq (q_region (q_x (v := s15.v) hF hS (ex_move rfl) rfl rfl fun a hF => q_x (v := s15.v) hF hS (ex_assign rfl) rfl rfl fun a hF => q_end (n_sq (q_ret ?_))))
  obtain rfl := someI hr
  exact ret_of hF hS rfl (.tmp rfl .nil) ⟨q15, s15, rfl, hS.sel [0] (by decide), h15⟩

theorem c_spec_l1Cur_among (p_c : spec_l1Cur) (p_list : List Int) (r : Int × spec_l1Cur) (hr : spec_l1Cur_among p_c p_list = some r) (w0 : World) (m : Mem) (b_p_c : Nat) (s1 : Sl) (h1 : Rd m s1 p_c.code) (s2 : Sl) (h2 : Rd m s2 p_list) (X : List Nat) (hS : St X w0 w0 m [[⟨b_p_c, [s1.v, (.int .i64 p_c.at_), (.int .u64 p_c.seed.v)], 65⟩]]) :
  RetX Try.prog 77 [(.pointer (some ⟨b_p_c, 0, none⟩)), s2.v] w0 (fun v w => v = (.int .i64 r.1) ∧ St X w0 w m [[⟨b_p_c, [s1.v, (.int .i64 r.2.at_), (.int .u64 r.2.seed.v)], 65⟩]] ∧ r.2.code = p_c.code) := by
 unfold spec_l1Cur_among at hr
 refine ret_startX Try.func77 rfl 12 rfl rfl fun a hF => q_seq (q_region (q_x (v := (.int .i64 0)) hF hS (ex_assign rfl) rfl rfl fun a hF => q_end (n_sq (q_seq (q_region (q_x (v := s2.v) hF hS (ex_move rfl) rfl rfl fun a hF => q_x (v := (.pointer (some ⟨b_p_c, 0, none⟩))) hF hS (ex_move rfl) rfl rfl fun a hF => q_x (v := s2.v) hF hS (ex_move rfl) rfl rfl fun a hF => q_x (v := (.int .i64 (goLen p_list))) hF hS (ex_len Try.underlying24 rfl h2.len) rfl rfl fun a hF => ?_))))))
 have hS3 : St _ _ _ _ ([[⟨b_p_c, [s1.v, (.int .i64 p_c.at_), (.int .u64 p_c.seed.v)], 65⟩]] ++ []) := hS
 have hE3 := hS3.enter
 obtain ⟨t_4, ht_4, hr⟩ := bindS hr
 refine q_do rfl fun _ hK => wp_callX (vs := [(.pointer (some ⟨b_p_c, 0, none⟩)), (.int .i64 (goLen p_list))]) hF Try.func53 (by kernel_rfl) rfl rfl rfl (c_spec_l1Cur_pick p_c (goLen p_list) t_4 ht_4 _ m b_p_c s1 h1 _ hE3) fun a w _ hR hF => hK _ _ ?_
 obtain ⟨rfl, hR3, hk5⟩ := hR
 have hS : St _ _ _ _ [[⟨b_p_c, [s1.v, (.int .i64 t_4.2.at_), (.int .u64 t_4.2.seed.v)], 65⟩]] := hS3.leaveF hR3
 have h5 : Rd m s1 t_4.2.code := by rw [hk5]; exact h1
 obtain ⟨e_6, he_6, hr⟩ := bindS hr
 obtain ⟨vs7, at7, d7⟩ := h2.at he_6 1 rfl
 obtain rfl : vs7 = [(.int .i64 e_6)] := d7
 refine q_x (v := (elP s2 (t_4.1.toNat * 1))) hF hS (ex_indexAddr Try.underlying24 sz3 rfl rfl (h2.idx he_6)) rfl rfl fun a hF => q_x (v := (.int .i64 e_6)) hF hS (ex_loadE1 0 Try.underlying3 rfl rfl ((at7).at) rfl rfl) rfl rfl fun a hF => q_x (v := (.int .i64 e_6)) hF hS (ex_assign rfl) rfl rfl fun a hF => q_end (n_sq (q_ret ?_))
 obtain rfl := someI hr
 exact ret_ofX hF hS rfl (.tmp rfl .nil) ⟨rfl, hS.sel [0] (by decide), hk5⟩

theorem c_spec_l1Cur_values (p_c : spec_l1Cur) (p_s : List impl_Variable) (r : (List Int) × spec_l1Cur) (hr : spec_l1Cur_values p_c p_s = some r) (w0 : World) (m : Mem) (b_p_c : Nat) (s1 : Sl) (h1 : Rd m s1 p_c.code) (s2 : Sl) (h2 : Rd m s2 p_s) (X : List Nat) (hS : St X w0 w0 m [[⟨b_p_c, [s1.v, (.int .i64 p_c.at_), (.int .u64 p_c.seed.v)], 65⟩]]) :
  RetX Try.prog 89 [(.pointer (some ⟨b_p_c, 0, none⟩)), s2.v] w0 (fun v w => ∃ (q0' : Piece) (s0' : Sl), v = s0'.v ∧ St X w0 w m [[⟨b_p_c, [s1.v, (.int .i64 r.2.at_), (.int .u64 r.2.seed.v)], 65⟩], q0'] ∧ OwnL m 3 q0' s0' r.1 ∧ r.2.code = p_c.code) := by
 unfold spec_l1Cur_values at hr
 refine ret_startX Try.func89 rfl 23 rfl rfl fun a hF => q_seq (q_region (q_x (v := nilS.v) hF hS (ex_assign rfl) rfl rfl fun a hF => q_end (n_sq (q_seq (q_region (q_x (v := nilS.v) hF hS (ex_assign rfl) rfl rfl fun a hF => q_end (n_sq (q_seq (q_seq (q_region (q_x (v := s2.v) hF hS (ex_move rfl) rfl rfl fun a hF => q_x (v := (.int .i64 (goLen p_s))) hF hS (ex_len Try.underlying27 rfl h2.len) rfl rfl fun a hF => q_x (v := (.int .i64 0)) hF hS (ex_move rfl) rfl rfl fun a hF => q_end (n_sq (q_block ?_)))))))))))))
 obtain ⟨o1, hl1, hr⟩ := bindS hr
 refine q_loop (fun (s : (List Int) × Int × spec_l1Cur) a w => ∃ (q4 : Piece), ∃ (s4 : Sl), ∃ out_3, ∃ t_5, ∃ p_c_6, s = (out_3, t_5, p_c_6) ∧ Fr a 23 [(0, (.pointer (some ⟨b_p_c, 0, none⟩))), (5, s4.v), (8, s2.v), (9, (.int .i64 (goLen p_s))), (10, (.int .i64 t_5))] ∧ St X w0 w m [q4, [⟨b_p_c, [s1.v, (.int .i64 p_c_6.at_), (.int .u64 p_c_6.seed.v)], 65⟩]] ∧ OwnL m 3 q4 s4 out_3 ∧ Rd m s1 p_c_6.code ∧ p_c_6.code = p_c.code) (fun (o : (List Int) × spec_l1Cur) e a w => ∃ (q18 : Piece), ∃ (s18 : Sl), ∃ out_17, ∃ p_c_19, o = (out_17, p_c_19) ∧ e = .exit 0 ∧ Fr a 23 [(5, s18.v)] ∧ St X w0 w m [q18, [⟨b_p_c, [s1.v, (.int .i64 p_c_19.at_), (.int .u64 p_c_19.seed.v)], 65⟩]] ∧ OwnL m 3 q18 s18 out_17 ∧ Rd m s1 p_c_19.code ∧ p_c_19.code = p_c.code) hl1 ⟨[], nilS, _, _, _, rfl, hF.sub ⟨rfl, rfl, rfl, rfl, rfl, trivial⟩, hS.sel [1, 0] (by decide), (OwnL.nil (α := Int) m 3), h1, rfl⟩ ?_ ?_
 ·clear hF hS
  rintro s a w st ⟨q4, s4, out_3, t_5, p_c_6, rfl, hF, hS, h4, h7, h7k⟩ hb1
  unfold spec_l1Cur_values_l1 at hb1
  refine q_seq (q_region (q_x (v := (.bool (decide (t_5 < (goLen p_s))))) hF hS (ex_ibin rfl rfl rfl) rfl rfl fun a hF => q_end (n_sq (q_seq ?_))))
  rcases bcase (decide (t_5 < (goLen p_s))) with hc2 | hc2
  ·have hb1 := cond_f hc2 hb1
   refine q_cond_f hF rfl hc2 (q_exit (x_sq ?_))
   obtain rfl := someI hb1
   exact ⟨nofun, .inl ⟨q4, s4, _, _, rfl, rfl, hF.sub ⟨rfl, trivial⟩, hS, h4, h7, h7k⟩⟩
  ·have hb1 := cond_t hc2 hb1
   refine q_cond_t hF rfl hc2 (q_skipc (n_sq (q_seq (q_block (q_seq (q_region ?_))))))
   obtain ⟨e_8, he_8, hb1⟩ := bindS hb1
   obtain ⟨vs9, at9, d9⟩ := h2.at he_8 2 rfl
   obtain rfl : vs9 = [(strV e_8.Name), (.int .i64 e_8.Levels)] := d9
   refine q_x (v := (elP s2 (t_5.toNat * 2))) hF hS (ex_indexAddr Try.underlying27 sz58 rfl rfl (h2.idx he_8)) rfl rfl fun a hF => q_x (v := (.agg #[(strV e_8.Name), (.int .i64 e_8.Levels)])) hF hS (ex_loadEA (us := [(strV e_8.Name), (.int .i64 e_8.Levels)]) 0 Try.underlying58 rfl sz58 rfl ((at9).at) rfl rfl rfl) rfl rfl fun a hF => q_alloc (cs := [(strV ([] : List UInt8)), (.int .i64 0)]) hF hS rfl rfl rfl fun a w b10 hF hS => q_store (vs := [(strV e_8.Name), (.int .i64 e_8.Levels)]) (cs' := [(strV e_8.Name), (.int .i64 e_8.Levels)]) 0 0 hF hS sz58 rfl rfl rfl rfl rfl rfl rfl rfl fun a w hF hS => q_end (n_sq (q_region (q_x (v := s4.v) hF hS (ex_move rfl) rfl rfl fun a hF => q_x (v := (.pointer (some ⟨b_p_c, 0, none⟩))) hF hS (ex_move rfl) rfl rfl fun a hF => q_x (v := (.pointer (some ⟨b10, 1, none⟩))) hF hS (ex_fieldAddr Try.underlying58 rfl sz3 rfl rfl) rfl rfl fun a hF => q_x (v := (.int .i64 e_8.Levels)) hF hS (ex_load1 0 0 Try.underlying3 rfl rfl rfl rfl) rfl rfl fun a hF => ?_)))
   have hS : St _ _ _ _ [[⟨b_p_c, [s1.v, (.int .i64 p_c_6.at_), (.int .u64 p_c_6.seed.v)], 65⟩], [⟨b10, [(strV e_8.Name), (.int .i64 e_8.Levels)], 58⟩], q4] := hS.sel [2, 0, 1] (by decide)
   have hS11 : St _ _ _ _ ([[⟨b_p_c, [s1.v, (.int .i64 p_c_6.at_), (.int .u64 p_c_6.seed.v)], 65⟩]] ++ [[⟨b10, [(strV e_8.Name), (.int .i64 e_8.Levels)], 58⟩], q4]) := hS
   have hE11 := hS11.enter
   obtain ⟨t_12, ht_12, hb1⟩ := bindS hb1
   refine q_do rfl fun _ hK => wp_callX (vs := [(.pointer (some ⟨b_p_c, 0, none⟩)), (.int .i64 e_8.Levels)]) hF Try.func53 (by kernel_rfl) rfl rfl rfl (c_spec_l1Cur_pick p_c_6 e_8.Levels t_12 ht_12 _ m b_p_c s1 h7 _ hE11) fun a w _ hR hF => hK _ _ ?_
   obtain ⟨rfl, hR11, hk13⟩ := hR
   have hS : St _ _ _ _ [[⟨b_p_c, [s1.v, (.int .i64 t_12.2.at_), (.int .u64 t_12.2.seed.v)], 65⟩], [⟨b10, [(strV e_8.Name), (.int .i64 e_8.Levels)], 58⟩], q4] := hS11.leaveF hR11
   have h13 : Rd m s1 t_12.2.code := by rw [hk13]; exact h7
   refine q_do rfl fun _ hK => wp_buildSlice' (l := ([t_12.1] : List Int)) (cells := [(.int .i64 t_12.1)]) hF hS Try.underlying24 inf3 rfl rfl (by kernel_rfl) rfl rfl rfl ⟨rfl, rfl⟩ rfl rfl fun a w q14 s14 hF hS h14 _ => hK _ _ ?_
   have hS : St _ _ _ _ [q4, q14, [⟨b_p_c, [s1.v, (.int .i64 t_12.2.at_), (.int .u64 t_12.2.seed.v)], 65⟩], [⟨b10, [(strV e_8.Name), (.int .i64 e_8.Levels)], 58⟩]] := hS.sel [3, 0, 1, 2] (by decide)
   obtain ⟨l_15, hl_15, hb1⟩ := bindS hb1
   refine q_do rfl fun _ hK => wp_append hF hS h4 Try.underlying24 inf3 rfl rfl rfl rfl (h14.vw hS (j := 1) rfl) rfl (by decide) hl_15 rfl fun a w q16 s16 hF hS h16 => hK _ _ (q_x (v := s16.v) hF hS (ex_assign rfl) rfl rfl fun a hF => q_end (n_ib (n_sq (q_region (q_x (v := (.int .i64 (w64 (t_5 + 1)))) hF hS (ex_ibin rfl rfl rfl) rfl rfl fun a hF => q_x (v := (.int .i64 (w64 (t_5 + 1)))) hF hS (ex_move rfl) rfl rfl fun a hF => q_end ?_)))))
   obtain rfl := someI hb1
   exact ⟨rfl, q16, s16, _, _, _, rfl, hF.sub ⟨rfl, rfl, rfl, rfl, rfl, trivial⟩, hS.mask [true, false, true, false], h16, h13, (hk13.trans h7k)⟩
 ·rintro e a w ⟨q18, s18, out_17, p_c_19, rfl, rfl, hF, hS, h18, h20, h20k⟩
  refine x_ib (n_sq ?_)
  refine q_seq (q_region (q_x (v := s18.v) hF hS (ex_move rfl) rfl rfl fun a hF => q_x (v := s18.v) hF hS (ex_assign rfl) rfl rfl fun a hF => q_end (n_sq (q_ret ?_))))
  obtain rfl := someI hr
  exact ret_ofX hF hS rfl (.tmp rfl .nil) ⟨q18, s18, rfl, hS.sel [1, 0] (by decide), h18, h20k⟩

theorem c_spec_l1Cur_record (p_c : spec_l1Cur) (p_s : List impl_Variable) (p_areas : List Int) (r : impl_Record × spec_l1Cur) (hr : spec_l1Cur_record p_c p_s p_areas = some r) (w0 : World) (m : Mem) (b_p_c : Nat) (s1 : Sl) (h1 : Rd m s1 p_c.code) (s2 : Sl) (h2 : Rd m s2 p_s) (s3 : Sl) (h3 : Rd m s3 p_areas) (X : List Nat) (hS : St X w0 w0 m [[⟨b_p_c, [s1.v, (.int .i64 p_c.at_), (.int .u64 p_c.seed.v)], 65⟩]]) :
  RetX Try.prog 105 [(.pointer (some ⟨b_p_c, 0, none⟩)), s2.v, s3.v] w0 (fun v w => ∃ (q0' : Piece) (s0' : Sl), v = (.agg #[(.int .i64 r.1.Area), (.int .i64 r.1.House), s0'.v]) ∧ St X w0 w m [[⟨b_p_c, [s1.v, (.int .i64 r.2.at_), (.int .u64 r.2.seed.v)], 65⟩], q0'] ∧ OwnL m 3 q0' s0' r.1.Values ∧ r.2.code = p_c.code) := by
 unfold spec_l1Cur_record at hr
 refine ret_startX Try.func105 rfl 16 rfl rfl fun a hF => q_seq (q_region (q_alloc (cs := [(.int .i64 0), (.int .i64 0), nilS.v]) hF hS rfl rfl rfl fun a w b4 hF hS => q_end (n_sq (q_seq (q_region (q_x (v := (.pointer (some ⟨b_p_c, 0, none⟩))) hF hS (ex_move rfl) rfl rfl fun a hF => q_x (v := s3.v) hF hS (ex_move rfl) rfl rfl fun a hF => ?_))))))
 have hS : St _ _ _ _ [[⟨b_p_c, [s1.v, (.int .i64 p_c.at_), (.int .u64 p_c.seed.v)], 65⟩], [⟨b4, [(.int .i64 0), (.int .i64 0), nilS.v], 106⟩]] := hS.sel [1, 0] (by decide)
 have hS5 : St _ _ _ _ ([[⟨b_p_c, [s1.v, (.int .i64 p_c.at_), (.int .u64 p_c.seed.v)], 65⟩]] ++ [[⟨b4, [(.int .i64 0), (.int .i64 0), nilS.v], 106⟩]]) := hS
 have hE5 := hS5.enter
 obtain ⟨t_6, ht_6, hr⟩ := bindS hr
 refine q_do rfl fun _ hK => wp_callX (vs := [(.pointer (some ⟨b_p_c, 0, none⟩)), s3.v]) hF Try.func77 (by kernel_rfl) rfl rfl rfl (c_spec_l1Cur_among p_c p_areas t_6 ht_6 _ m b_p_c s1 h1 s3 h3 _ hE5) fun a w _ hR hF => hK _ _ ?_
 obtain ⟨rfl, hR5, hk7⟩ := hR
 have hS : St _ _ _ _ [[⟨b_p_c, [s1.v, (.int .i64 t_6.2.at_), (.int .u64 t_6.2.seed.v)], 65⟩], [⟨b4, [(.int .i64 0), (.int .i64 0), nilS.v], 106⟩]] := hS5.leaveF hR5
 have h7 : Rd m s1 t_6.2.code := by rw [hk7]; exact h1
 refine q_x (v := (.pointer (some ⟨b_p_c, 0, none⟩))) hF hS (ex_move rfl) rfl rfl fun a hF => ?_
 have hS8 : St _ _ _ _ ([[⟨b_p_c, [s1.v, (.int .i64 t_6.2.at_), (.int .u64 t_6.2.seed.v)], 65⟩]] ++ [[⟨b4, [(.int .i64 0), (.int .i64 0), nilS.v], 106⟩]]) := hS
 have hE8 := hS8.enter
 obtain ⟨t_9, ht_9, hr⟩ := bindS hr
 refine q_do rfl fun _ hK => wp_callX (vs := [(.pointer (some ⟨b_p_c, 0, none⟩)), (.int .i64 6)]) hF Try.func53 (by kernel_rfl) rfl rfl rfl (c_spec_l1Cur_pick t_6.2 6 t_9 ht_9 _ m b_p_c s1 h7 _ hE8) fun a w _ hR hF => hK _ _ ?_
 obtain ⟨rfl, hR8, hk10⟩ := hR
 have hS : St _ _ _ _ [[⟨b_p_c, [s1.v, (.int .i64 t_9.2.at_), (.int .u64 t_9.2.seed.v)], 65⟩], [⟨b4, [(.int .i64 0), (.int .i64 0), nilS.v], 106⟩]] := hS8.leaveF hR8
 have h10 : Rd m s1 t_9.2.code := by rw [hk10]; exact h7
 refine q_x (v := (.pointer (some ⟨b_p_c, 0, none⟩))) hF hS (ex_move rfl) rfl rfl fun a hF => q_x (v := s2.v) hF hS (ex_move rfl) rfl rfl fun a hF => ?_
 have hS11 : St _ _ _ _ ([[⟨b_p_c, [s1.v, (.int .i64 t_9.2.at_), (.int .u64 t_9.2.seed.v)], 65⟩]] ++ [[⟨b4, [(.int .i64 0), (.int .i64 0), nilS.v], 106⟩]]) := hS
 have hE11 := hS11.enter
 obtain ⟨t_12, ht_12, hr⟩ := bindS hr
 refine q_do rfl fun _ hK => wp_callX (vs := [(.pointer (some ⟨b_p_c, 0, none⟩)), s2.v]) hF Try.func89 (by kernel_rfl) rfl rfl rfl (c_spec_l1Cur_values t_9.2 p_s t_12 ht_12 _ m b_p_c s1 h10 s2 h2 _ hE11) fun a w _ hR hF => hK _ _ ?_
 obtain ⟨q13, s13, rfl, hR11, h13, hk14⟩ := hR
 have hS : St _ _ _ _ [[⟨b_p_c, [s1.v, (.int .i64 t_12.2.at_), (.int .u64 t_12.2.seed.v)], 65⟩], q13, [⟨b4, [(.int .i64 0), (.int .i64 0), nilS.v], 106⟩]] := hS11.leaveF hR11
 have h14 : Rd m s1 t_12.2.code := by rw [hk14]; exact h10
 refine q_x (v := (.agg #[(.int .i64 t_6.1), (.int .i64 t_9.1), s13.v])) hF hS (ex_build (cells := [(.int .i64 t_6.1), (.int .i64 t_9.1), s13.v]) rfl (by kernel_rfl)) rfl rfl fun a hF => q_store (vs := [(.int .i64 t_6.1), (.int .i64 t_9.1), s13.v]) (cs' := [(.int .i64 t_6.1), (.int .i64 t_9.1), s13.v]) 2 0 hF hS sz106 rfl rfl rfl rfl rfl rfl rfl rfl fun a w hF hS => q_end (n_sq (q_ret ?_))
 obtain rfl := someI hr
 exact ret_ofX hF hS rfl (.cellA (us := [(.int .i64 t_6.1), (.int .i64 t_9.1), s13.v]) 2 0 Try.underlying106 rfl sz106 rfl rfl rfl rfl .nil) ⟨q13, s13, rfl, hS.sel [0, 1] (by decide), h13, (hk14.trans (hk10.trans hk7))⟩

theorem c_spec_l1Cur_one (p_c : spec_l1Cur) (p_n : Int) (r : Bool × spec_l1Cur) (hr : spec_l1Cur_one p_c p_n = some r) (w0 : World) (m : Mem) (b_p_c : Nat) (s1 : Sl) (h1 : Rd m s1 p_c.code) (X : List Nat) (hS : St X w0 w0 m [[⟨b_p_c, [s1.v, (.int .i64 p_c.at_), (.int .u64 p_c.seed.v)], 65⟩]]) :
  RetX Try.prog 39 [(.pointer (some ⟨b_p_c, 0, none⟩)), (.int .i64 p_n)] w0 (fun v w => v = (.bool r.1) ∧ St X w0 w m [[⟨b_p_c, [s1.v, (.int .i64 r.2.at_), (.int .u64 r.2.seed.v)], 65⟩]] ∧ r.2.code = p_c.code) := by
 unfold spec_l1Cur_one at hr
 refine ret_startX Try.func39 rfl 9 rfl rfl fun a hF => q_seq (q_region (q_x (v := (.bool false)) hF hS (ex_assign rfl) rfl rfl fun a hF => q_end (n_sq (q_seq (q_region (q_x (v := (.pointer (some ⟨b_p_c, 0, none⟩))) hF hS (ex_move rfl) rfl rfl fun a hF => q_x (v := (.int .i64 p_n)) hF hS (ex_move rfl) rfl rfl fun a hF => ?_))))))
 have hS2 : St _ _ _ _ ([[⟨b_p_c, [s1.v, (.int .i64 p_c.at_), (.int .u64 p_c.seed.v)], 65⟩]] ++ []) := hS
 have hE2 := hS2.enter
 obtain ⟨t_3, ht_3, hr⟩ := bindS hr
 refine q_do rfl fun _ hK => wp_callX (vs := [(.pointer (some ⟨b_p_c, 0, none⟩)), (.int .i64 p_n)]) hF Try.func53 (by kernel_rfl) rfl rfl rfl (c_spec_l1Cur_pick p_c p_n t_3 ht_3 _ m b_p_c s1 h1 _ hE2) fun a w _ hR hF => hK _ _ ?_
 obtain ⟨rfl, hR2, hk4⟩ := hR
 have hS : St _ _ _ _ [[⟨b_p_c, [s1.v, (.int .i64 t_3.2.at_), (.int .u64 t_3.2.seed.v)], 65⟩]] := hS2.leaveF hR2
 have h4 : Rd m s1 t_3.2.code := by rw [hk4]; exact h1
 refine q_x (v := (.bool (t_3.1 == 0))) hF hS (ex_ibin rfl rfl rfl) rfl rfl fun a hF => q_x (v := (.bool (t_3.1 == 0))) hF hS (ex_assign rfl) rfl rfl fun a hF => q_end (n_sq (q_ret ?_))
 obtain rfl := someI hr
 exact ret_ofX hF hS rfl (.tmp rfl .nil) ⟨rfl, hS.sel [0] (by decide), hk4⟩

theorem c_spec_rOwn (p_r : impl_Record) (r : impl_Record) (hr : spec_rOwn p_r = some r) (w0 : World) (m : Mem) (hv : Vis m w0) (s1 : Sl) (h1 : Rd m s1 p_r.Values) :
  Ret Try.prog 106 [(.agg #[(.int .i64 p_r.Area), (.int .i64 p_r.House), s1.v])] w0 (fun v w => ∃ (q0' : Piece) (s0' : Sl), v = (.agg #[(.int .i64 r.Area), (.int .i64 r.House), s0'.v]) ∧ St [] w0 w m [q0'] ∧ OwnL m 3 q0' s0' r.Values) := by
 unfold spec_rOwn at hr
 refine ret_start Try.func106 rfl 11 rfl rfl m hv fun a hF hS => q_seq (q_region (q_box (cs := [(.int .i64 p_r.Area), (.int .i64 p_r.House), s1.v]) hF hS rfl rfl rfl fun a w b2 hF hS => q_alloc (cs := [(.int .i64 0), (.int .i64 0), nilS.v]) hF hS rfl rfl rfl fun a w b3 hF hS => q_end (n_sq (q_seq (e_region ⟨[8], [b2]⟩ mixed fun w' hw' => ?_)))))
 have hS := hS.below hw'
 refine e_p (v := (.pointer (some ⟨b2, 0, none⟩))) 0 hF rfl (ex_fieldAddr Try.underlying106 rfl sz3 rfl rfl) rfl rfl (by kernel_rfl) (by kernel_rfl) (by kernel_rfl) fun a hF => e_xb (v := (.int .i64 p_r.Area)) 1 1 hF hS (.head _) rfl rfl (ex_load1 0 0 Try.underlying3 rfl rfl rfl rfl) rfl rfl (by kernel_rfl) (by kernel_rfl) (by kernel_rfl) fun a hF => e_p (v := (.pointer (some ⟨b2, 1, none⟩))) 2 hF rfl (ex_fieldAddr Try.underlying106 rfl sz3 rfl rfl) rfl rfl (by kernel_rfl) (by kernel_rfl) (by kernel_rfl) fun a hF => e_xb (v := (.int .i64 p_r.House)) 3 1 hF hS (.head _) rfl rfl (ex_load1 0 0 Try.underlying3 rfl rfl rfl rfl) rfl rfl (by kernel_rfl) (by kernel_rfl) (by kernel_rfl) fun a hF => e_p (v := (.pointer (some ⟨b2, 2, none⟩))) 4 hF rfl (ex_fieldAddr Try.underlying106 rfl sz24 rfl rfl) rfl rfl (by kernel_rfl) (by kernel_rfl) (by kernel_rfl) fun a hF => e_xb (v := s1.v) 5 1 hF hS (.head _) rfl rfl (ex_load1 0 0 Try.underlying24 rfl rfl rfl rfl) rfl rfl (by kernel_rfl) (by kernel_rfl) (by kernel_rfl) fun a hF => e_one 6 (by kernel_rfl) ?_
 obtain ⟨t_4, ht_4, hr⟩ := bindS hr
 refine e_call (vs := [s1.v]) hF hS rfl Try.func68 (by kernel_rfl) rfl rfl rfl (c_spec_l1Own p_r.Values t_4 ht_4 _ m hS.vis s1 h1) ?_
 rintro a w _ ⟨q6, s6, rfl, hR5, h6⟩ hF hS2
 have hS : St _ _ _ _ [q6, [⟨b3, [(.int .i64 0), (.int .i64 0), nilS.v], 106⟩], [⟨b2, [(.int .i64 p_r.Area), (.int .i64 p_r.House), s1.v], 106⟩]] := hS.joinF hR5
 refine e_p (v := (.agg #[(.int .i64 p_r.Area), (.int .i64 p_r.House), s6.v])) 7 hF rfl (ex_build (cells := [(.int .i64 p_r.Area), (.int .i64 p_r.House), s6.v]) rfl (by kernel_rfl)) rfl rfl (by kernel_rfl) (by kernel_rfl) (by kernel_rfl) fun a hF => e_one 8 (by kernel_rfl) ?_
 have hSo := hS
 refine e_store (vs := [(.int .i64 p_r.Area), (.int .i64 p_r.House), s6.v]) (cs' := [(.int .i64 p_r.Area), (.int .i64 p_r.House), s6.v]) 1 0 hF hS rfl rfl sz106 rfl rfl rfl rfl rfl rfl rfl rfl fun a w hF hS => ⟨kpC hSo hS 2 2 rfl rfl kpN, ?_⟩
 refine e_end (by kernel_rfl) (n_sq (q_ret ?_)) _
 obtain rfl := someI hr
 exact ret_of hF hS rfl (.cellA (us := [(.int .i64 p_r.Area), (.int .i64 p_r.House), s6.v]) 1 0 Try.underlying106 rfl sz106 rfl rfl rfl rfl .nil) ⟨q6, s6, rfl, hS.sel [0] (by decide), h6⟩

theorem c_spec_l1Cur_data (p_c : spec_l1Cur) (p_s : List impl_Variable) (p_areas : List Int) (r : (List impl_Record) × spec_l1Cur) (hr : spec_l1Cur_data p_c p_s p_areas = some r) (w0 : World) (m : Mem) (b_p_c : Nat) (s1 : Sl) (h1 : Rd m s1 p_c.code) (s2 : Sl) (h2 : Rd m s2 p_s) (s3 : Sl) (h3 : Rd m s3 p_areas) (X : List Nat) (hS : St X w0 w0 m [[⟨b_p_c, [s1.v, (.int .i64 p_c.at_), (.int .u64 p_c.seed.v)], 65⟩]]) :
  RetX Try.prog 102 [(.pointer (some ⟨b_p_c, 0, none⟩)), s2.v, s3.v] w0 (fun v w => ∃ (m' : Mem) (q0' : Piece) (s0' : Sl), v = s0'.v ∧ MLe X w0.heap.size m m' ∧ St X w0 w m' [[⟨b_p_c, [s1.v, (.int .i64 r.2.at_), (.int .u64 r.2.seed.v)], 65⟩], q0'] ∧ OwnL m' 106 q0' s0' r.1 ∧ r.2.code = p_c.code) := by
 unfold spec_l1Cur_data at hr
 refine ret_startX Try.func102 rfl 32 rfl rfl fun a hF => q_seq (q_region (q_x (v := nilS.v) hF hS (ex_assign rfl) rfl rfl fun a hF => q_end (n_sq (q_seq (q_region (q_x (v := nilS.v) hF hS (ex_assign rfl) rfl rfl fun a hF => q_end (n_sq (q_seq (q_seq (q_region (q_x (v := (.pointer (some ⟨b_p_c, 0, none⟩))) hF hS (ex_move rfl) rfl rfl fun a hF => ?_)))))))))))
 have hS4 : St _ _ _ _ ([[⟨b_p_c, [s1.v, (.int .i64 p_c.at_), (.int .u64 p_c.seed.v)], 65⟩]] ++ []) := hS
 have hE4 := hS4.enter
 obtain ⟨t_5, ht_5, hr⟩ := bindS hr
 refine q_do rfl fun _ hK => wp_callX (vs := [(.pointer (some ⟨b_p_c, 0, none⟩)), (.int .i64 12)]) hF Try.func53 (by kernel_rfl) rfl rfl rfl (c_spec_l1Cur_pick p_c 12 t_5 ht_5 _ m b_p_c s1 h1 _ hE4) fun a w _ hR hF => hK _ _ ?_
 obtain ⟨rfl, hR4, hk6⟩ := hR
 have hS : St _ _ _ _ [[⟨b_p_c, [s1.v, (.int .i64 t_5.2.at_), (.int .u64 t_5.2.seed.v)], 65⟩]] := hS4.leaveF hR4
 have h6 : Rd m s1 t_5.2.code := by rw [hk6]; exact h1
 refine q_x (v := (.int .i64 t_5.1)) hF hS (ex_assign rfl) rfl rfl fun a hF => q_end (n_sq (q_block ?_))
 obtain ⟨o1, hl1, hr⟩ := bindS hr
 refine q_loop (fun (s : (List impl_Record) × Int × spec_l1Cur) a w => ∃ (m12 : Mem), ∃ (q8 : Piece), ∃ (s8 : Sl), ∃ out_7, ∃ k_9, ∃ p_c_10, s = (out_7, k_9, p_c_10) ∧ Fr a 32 [(0, (.pointer (some ⟨b_p_c, 0, none⟩))), (1, s2.v), (2, s3.v), (7, s8.v), (8, (.int .i64 k_9))] ∧ St X w0 w m12 [q8, [⟨b_p_c, [s1.v, (.int .i64 p_c_10.at_), (.int .u64 p_c_10.seed.v)], 65⟩]] ∧ MLe X w0.heap.size m m12 ∧ OwnL m12 106 q8 s8 out_7 ∧ Rd m12 s1 p_c_10.code ∧ p_c_10.code = p_c.code) (fun (o : (List impl_Record) × spec_l1Cur) e a w => ∃ (m39 : Mem), ∃ (q36 : Piece), ∃ (s36 : Sl), ∃ out_35, ∃ p_c_37, o = (out_35, p_c_37) ∧ e = .exit 0 ∧ Fr a 32 [(7, s36.v)] ∧ St X w0 w m39 [q36, [⟨b_p_c, [s1.v, (.int .i64 p_c_37.at_), (.int .u64 p_c_37.seed.v)], 65⟩]] ∧ MLe X w0.heap.size m m39 ∧ OwnL m39 106 q36 s36 out_35 ∧ Rd m39 s1 p_c_37.code ∧ p_c_37.code = p_c.code) hl1 ⟨m, [], nilS, _, _, _, rfl, hF.sub ⟨rfl, rfl, rfl, rfl, rfl, trivial⟩, hS.sel [1, 0] (by decide), (MLe.refl _ _), (OwnL.nil (α := impl_Record) m 106), h6, hk6⟩ ?_ ?_
 ·clear hF hS
  rintro s a w st ⟨m12, q8, s8, out_7, k_9, p_c_10, rfl, hF, hS, hm12, h8, h11, h11k⟩ hb1
  unfold spec_l1Cur_data_l1 at hb1
  refine q_seq (q_seq (q_region (q_x (v := (.int .i64 k_9)) hF hS (ex_move rfl) rfl rfl fun a hF => q_x (v := (.bool (decide (0 < k_9)))) hF hS (ex_ibin rfl rfl rfl) rfl rfl fun a hF => q_end (n_sq ?_))))
  rcases bcase (decide (0 < k_9)) with hc2 | hc2
  ·have hb1 := cond_f hc2 hb1
   refine q_cond_f hF rfl hc2 (q_exit (x_sq ?_))
   obtain rfl := someI hb1
   exact ⟨nofun, .inl ⟨m12, q8, s8, _, _, rfl, rfl, hF.sub ⟨rfl, trivial⟩, hS, hm12, h8, h11, h11k⟩⟩
  ·have hb1 := cond_t hc2 hb1
   refine q_cond_t hF rfl hc2 (q_skipc (n_sq (q_seq (q_block (q_seq (q_region (q_x (v := (.pointer (some ⟨b_p_c, 0, none⟩))) hF hS (ex_move rfl) rfl rfl fun a hF => q_x (v := s2.v) hF hS (ex_move rfl) rfl rfl fun a hF => q_x (v := s3.v) hF hS (ex_move rfl) rfl rfl fun a hF => ?_)))))))
   have hS : St _ _ _ _ [[⟨b_p_c, [s1.v, (.int .i64 p_c_10.at_), (.int .u64 p_c_10.seed.v)], 65⟩], q8] := hS.sel [1, 0] (by decide)
   have hS13 : St _ _ _ _ ([[⟨b_p_c, [s1.v, (.int .i64 p_c_10.at_), (.int .u64 p_c_10.seed.v)], 65⟩]] ++ [q8]) := hS
   have hE13 := hS13.enter
   obtain ⟨t_14, ht_14, hb1⟩ := bindS hb1
   refine q_do rfl fun _ hK => wp_callX (vs := [(.pointer (some ⟨b_p_c, 0, none⟩)), s2.v, s3.v]) hF Try.func105 (by kernel_rfl) rfl rfl rfl (c_spec_l1Cur_record p_c_10 p_s p_areas t_14 ht_14 _ m12 b_p_c s1 h11 s2 (h2.mono hm12.le) s3 (h3.mono hm12.le) _ hE13) fun a w _ hR hF => hK _ _ ?_
   obtain ⟨q15, s15, rfl, hR13, h15, hk16⟩ := hR
   have hS : St _ _ _ _ [[⟨b_p_c, [s1.v, (.int .i64 t_14.2.at_), (.int .u64 t_14.2.seed.v)], 65⟩], q15, q8] := hS13.leaveF hR13
   have h16 : Rd m12 s1 t_14.2.code := by rw [hk16]; exact h11
   refine q_alloc (cs := [(.int .i64 0), (.int .i64 0), nilS.v]) hF hS rfl rfl rfl fun a w b17 hF hS => q_store (vs := [(.int .i64 t_14.1.Area), (.int .i64 t_14.1.House), s15.v]) (cs' := [(.int .i64 t_14.1.Area), (.int .i64 t_14.1.House), s15.v]) 0 0 hF hS sz106 rfl rfl rfl rfl rfl rfl rfl rfl fun a w hF hS => q_end (n_sq (q_seq (q_region (q_x (v := s8.v) hF hS (ex_move rfl) rfl rfl fun a hF => q_x (v := (.agg #[(.int .i64 t_14.1.Area), (.int .i64 t_14.1.House), s15.v])) hF hS (ex_loadA (vs := [(.int .i64 t_14.1.Area), (.int .i64 t_14.1.House), s15.v]) 0 0 Try.underlying106 rfl sz106 rfl rfl rfl rfl) rfl rfl fun a hF => ?_))))
   have hS : St _ _ _ _ [q15, [⟨b17, [(.int .i64 t_14.1.Area), (.int .i64 t_14.1.House), s15.v], 106⟩], [⟨b_p_c, [s1.v, (.int .i64 t_14.2.at_), (.int .u64 t_14.2.seed.v)], 65⟩], q8] := hS.sel [2, 0, 1, 3] (by decide)
   obtain ⟨m19, hm19, hS, hz19⟩ := hS.freeze
   have h19 := h15.froz hm19.le hz19
   refine q_do rfl fun _ hK => wp_buildSlice' (l := ([t_14.1] : List impl_Record)) (cells := [(.int .i64 t_14.1.Area), (.int .i64 t_14.1.House), s15.v]) hF hS Try.underlying78 inf106 rfl rfl (by kernel_rfl) rfl rfl rfl ⟨⟨s15, rfl, h19⟩, rfl⟩ rfl rfl fun a w q18 s18 hF hS h18 _ => hK _ _ ?_
   have hS : St _ _ _ _ [q8, q18, [⟨b17, [(.int .i64 t_14.1.Area), (.int .i64 t_14.1.House), s15.v], 106⟩], [⟨b_p_c, [s1.v, (.int .i64 t_14.2.at_), (.int .u64 t_14.2.seed.v)], 65⟩]] := hS.sel [3, 0, 1, 2] (by decide)
   obtain ⟨l_20, hl_20, hb1⟩ := bindS hb1
   refine q_do rfl fun _ hK => wp_append hF hS (h8.mono hm19.le) Try.underlying78 inf106 rfl rfl rfl rfl (h18.vw hS (j := 1) rfl) rfl (by decide) hl_20 rfl fun a w q21 s21 hF hS h21 => hK _ _ (q_x (v := s21.v) hF hS (ex_assign rfl) rfl rfl fun a hF => q_end (n_sq (q_seq (q_region (q_x (v := (.pointer (some ⟨b_p_c, 0, none⟩))) hF hS (ex_move rfl) rfl rfl fun a hF => ?_)))))
   have hS : St _ _ _ _ [[⟨b_p_c, [s1.v, (.int .i64 t_14.2.at_), (.int .u64 t_14.2.seed.v)], 65⟩], q21, q18, [⟨b17, [(.int .i64 t_14.1.Area), (.int .i64 t_14.1.House), s15.v], 106⟩]] := hS.sel [3, 0, 1, 2] (by decide)
   have hS22 : St _ _ _ _ ([[⟨b_p_c, [s1.v, (.int .i64 t_14.2.at_), (.int .u64 t_14.2.seed.v)], 65⟩]] ++ [q21, q18, [⟨b17, [(.int .i64 t_14.1.Area), (.int .i64 t_14.1.House), s15.v], 106⟩]]) := hS
   have hE22 := hS22.enter
   obtain ⟨t_23, ht_23, hb1⟩ := bindS hb1
   refine q_do rfl fun _ hK => wp_callX (vs := [(.pointer (some ⟨b_p_c, 0, none⟩)), (.int .i64 4)]) hF Try.func39 (by kernel_rfl) rfl rfl rfl (c_spec_l1Cur_one t_14.2 4 t_23 ht_23 _ m19 b_p_c s1 (h16.mono hm19.le) _ hE22) fun a w _ hR hF => hK _ _ ?_
   obtain ⟨rfl, hR22, hk24⟩ := hR
   have hS : St _ _ _ _ [[⟨b_p_c, [s1.v, (.int .i64 t_23.2.at_), (.int .u64 t_23.2.seed.v)], 65⟩], q21, q18, [⟨b17, [(.int .i64 t_14.1.Area), (.int .i64 t_14.1.House), s15.v], 106⟩]] := hS22.leaveF hR22
   have h24 : Rd m19 s1 t_23.2.code := by rw [hk24]; exact (h16.mono hm19.le)
   refine q_end (n_sq ?_)
   obtain ⟨out_32, hj3, hb1⟩ := bindS hb1
   refine q_join (fun a w => ∃ (m34 : Mem), ∃ (q33 : Piece), ∃ (s33 : Sl), Fr a 32 [(0, (.pointer (some ⟨b_p_c, 0, none⟩))), (1, s2.v), (2, s3.v), (7, s33.v), (8, (.int .i64 k_9))] ∧ St X w0 w m34 [q33, [⟨b_p_c, [s1.v, (.int .i64 t_23.2.at_), (.int .u64 t_23.2.seed.v)], 65⟩]] ∧ MLe X w0.heap.size m19 m34 ∧ OwnL m34 106 q33 s33 out_32) ?_ ?_
   ·rcases bcase (t_23.1) with hc4 | hc4
    ·have hj3 := cond_f hc4 hj3
     refine q_cond_f hF rfl hc4 (q_skipc (n_jn ?_))
     obtain rfl := someI hj3
     exact ⟨m19, q21, s21, hF.sub ⟨rfl, rfl, rfl, rfl, rfl, trivial⟩, hS.sel [1, 0] (by decide), (MLe.refl _ _), h21⟩
    ·have hj3 := cond_t hc4 hj3
     refine q_cond_t hF rfl hc4 (q_region (q_x (v := s21.v) hF hS (ex_move rfl) rfl rfl fun a hF => q_x (v := (.agg #[(.int .i64 t_14.1.Area), (.int .i64 t_14.1.House), s15.v])) hF hS (ex_loadA (vs := [(.int .i64 t_14.1.Area), (.int .i64 t_14.1.House), s15.v]) 3 0 Try.underlying106 rfl sz106 rfl rfl rfl rfl) rfl rfl fun a hF => ?_))
     obtain ⟨t_25, ht_25, hj3⟩ := bindS hj3
     refine q_call (vs := [(.agg #[(.int .i64 t_14.1.Area), (.int .i64 t_14.1.House), s15.v])]) hF hS Try.func106 (by kernel_rfl) rfl rfl rfl (c_spec_rOwn t_14.1 t_25 ht_25 _ m19 hS.vis s15 h19) ?_
     rintro a w _ ⟨q27, s27, rfl, hR26, h27⟩ hF hS2
     have hS : St _ _ _ _ [q27, [⟨b_p_c, [s1.v, (.int .i64 t_23.2.at_), (.int .u64 t_23.2.seed.v)], 65⟩], q21, q18, [⟨b17, [(.int .i64 t_14.1.Area), (.int .i64 t_14.1.House), s15.v], 106⟩]] := hS.joinF hR26
     obtain ⟨m29, hm29, hS, hz29⟩ := hS.freeze
     have h29 := h27.froz hm29.le hz29
     refine q_do rfl fun _ hK => wp_buildSlice' (l := ([t_25] : List impl_Record)) (cells := [(.int .i64 t_25.Area), (.int .i64 t_25.House), s27.v]) hF hS Try.underlying78 inf106 rfl rfl (by kernel_rfl) rfl rfl rfl ⟨⟨s27, rfl, h29⟩, rfl⟩ rfl rfl fun a w q28 s28 hF hS h28 _ => hK _ _ ?_
     have hS : St _ _ _ _ [q21, q28, [⟨b_p_c, [s1.v, (.int .i64 t_23.2.at_), (.int .u64 t_23.2.seed.v)], 65⟩], q18, [⟨b17, [(.int .i64 t_14.1.Area), (.int .i64 t_14.1.House), s15.v], 106⟩]] := hS.sel [2, 0, 1, 3, 4] (by decide)
     obtain ⟨l_30, hl_30, hj3⟩ := bindS hj3
     refine q_do rfl fun _ hK => wp_append hF hS (h21.mono hm29.le) Try.underlying78 inf106 rfl rfl rfl rfl (h28.vw hS (j := 1) rfl) rfl (by decide) hl_30 rfl fun a w q31 s31 hF hS h31 => hK _ _ (q_x (v := s31.v) hF hS (ex_assign rfl) rfl rfl fun a hF => q_end (n_jn ?_))
     obtain rfl := someI hj3
     exact ⟨m29, q31, s31, hF.sub ⟨rfl, rfl, rfl, rfl, rfl, trivial⟩, hS.mask [true, false, true, false, false], hm29, h31⟩
   ·rintro a w ⟨m34, q33, s33, hF, hS, hm34, h33⟩
    refine n_ib (n_sq ?_)
    refine q_region (q_x (v := (.int .i64 k_9)) hF hS (ex_move rfl) rfl rfl fun a hF => q_x (v := (.int .i64 (w64 (k_9 - 1)))) hF hS (ex_ibin rfl rfl rfl) rfl rfl fun a hF => q_x (v := (.int .i64 (w64 (k_9 - 1)))) hF hS (ex_assign rfl) rfl rfl fun a hF => q_end ?_)
    obtain rfl := someI hb1
    exact ⟨rfl, m34, q33, s33, _, _, _, rfl, hF.sub ⟨rfl, rfl, rfl, rfl, rfl, trivial⟩, hS, ((hm12.trans hm19).trans hm34), h33, (h24.mono hm34.le), (hk24.trans (hk16.trans h11k))⟩
 ·rintro e a w ⟨m39, q36, s36, out_35, p_c_37, rfl, rfl, hF, hS, hm39, h36, h38, h38k⟩
  refine x_ib (n_sq ?_)
  refine q_seq (q_region (q_x (v := s36.v) hF hS (ex_move rfl) rfl rfl fun a hF => q_x (v := s36.v) hF hS (ex_assign rfl) rfl rfl fun a hF => q_end (n_sq (q_ret ?_))))
  obtain rfl := someI hr
  exact ret_ofX hF hS rfl (.tmp rfl .nil) ⟨m39, q36, s36, rfl, hm39, hS.sel [1, 0] (by decide), h36, h38k⟩

theorem c_spec_l1Cur_survey (p_c : spec_l1Cur) (r : impl_Geo × (List impl_Variable) × (List impl_Record) × spec_l1Cur) (hr : spec_l1Cur_survey p_c = some r) (w0 : World) (m : Mem) (b_p_c : Nat) (s1 : Sl) (h1 : Rd m s1 p_c.code) (X : List Nat) (hS : St X w0 w0 m [[⟨b_p_c, [s1.v, (.int .i64 p_c.at_), (.int .u64 p_c.seed.v)], 65⟩]]) :
  RetX Try.prog 86 [(.pointer (some ⟨b_p_c, 0, none⟩))] w0 (fun v w => ∃ (m' : Mem) (q0' : Piece) (q2' : Piece) (s0' : Sl) (s1' : Sl) (s2' : Sl), v = (.tuple #[(.agg #[s0'.v]), s1'.v, s2'.v]) ∧ MLe X w0.heap.size m m' ∧ St X w0 w m' [[⟨b_p_c, [s1.v, (.int .i64 r.2.2.2.at_), (.int .u64 r.2.2.2.seed.v)], 65⟩], q0', q2'] ∧ OwnL m' 3 q0' s0' r.1.Parents ∧ Rd m' s1' r.2.1 ∧ OwnL m' 106 q2' s2' r.2.2.1 ∧ r.2.2.2.code = p_c.code) := by
 unfold spec_l1Cur_survey at hr
 refine ret_startX Try.func86 rfl 18 rfl rfl fun a hF => q_seq (q_region (q_alloc (cs := [nilS.v]) hF hS rfl rfl rfl fun a w b2 hF hS => q_x (v := nilS.v) hF hS (ex_assign rfl) rfl rfl fun a hF => q_x (v := nilS.v) hF hS (ex_assign rfl) rfl rfl fun a hF => q_end (n_sq (q_seq (q_region (q_x (v := (.pointer (some ⟨b_p_c, 0, none⟩))) hF hS (ex_move rfl) rfl rfl fun a hF => ?_))))))
 have hS : St _ _ _ _ [[⟨b_p_c, [s1.v, (.int .i64 p_c.at_), (.int .u64 p_c.seed.v)], 65⟩], [⟨b2, [nilS.v], 26⟩]] := hS.sel [1, 0] (by decide)
 have hS3 : St _ _ _ _ ([[⟨b_p_c, [s1.v, (.int .i64 p_c.at_), (.int .u64 p_c.seed.v)], 65⟩]] ++ [[⟨b2, [nilS.v], 26⟩]]) := hS
 have hE3 := hS3.enter
 obtain ⟨t_4, ht_4, hr⟩ := bindS hr
 refine q_do rfl fun _ hK => wp_callX (vs := [(.pointer (some ⟨b_p_c, 0, none⟩))]) hF Try.func100 (by kernel_rfl) rfl rfl rfl (c_spec_l1Cur_geo p_c t_4 ht_4 _ m b_p_c s1 h1 _ hE3) fun a w _ hR hF => hK _ _ ?_
 obtain ⟨m3', q5, s5, rfl, hm3, hR3, h5, hk6⟩ := hR
 have hS : St _ _ _ _ [[⟨b_p_c, [s1.v, (.int .i64 t_4.2.at_), (.int .u64 t_4.2.seed.v)], 65⟩], q5, [⟨b2, [nilS.v], 26⟩]] := hS3.leave hR3 hm3
 have hm3 := MLe.weakX hS3 hm3
 have h6 : Rd m3' s1 t_4.2.code := by rw [hk6]; exact (h1.mono hm3.le)
 refine q_alloc (cs := [nilS.v]) hF hS rfl rfl rfl fun a w b7 hF hS => q_store (vs := [s5.v]) (cs' := [s5.v]) 0 0 hF hS sz26 rfl rfl rfl rfl rfl rfl rfl rfl fun a w hF hS => q_end (n_sq (q_seq (q_region (q_x (v := (.pointer (some ⟨b_p_c, 0, none⟩))) hF hS (ex_move rfl) rfl rfl fun a hF => ?_))))
 have hS : St _ _ _ _ [[⟨b_p_c, [s1.v, (.int .i64 t_4.2.at_), (.int .u64 t_4.2.seed.v)], 65⟩], [⟨b7, [s5.v], 26⟩], q5, [⟨b2, [nilS.v], 26⟩]] := hS.sel [1, 0, 2, 3] (by decide)
 have hS8 : St _ _ _ _ ([[⟨b_p_c, [s1.v, (.int .i64 t_4.2.at_), (.int .u64 t_4.2.seed.v)], 65⟩]] ++ [[⟨b7, [s5.v], 26⟩], q5, [⟨b2, [nilS.v], 26⟩]]) := hS
 have hE8 := hS8.enter
 obtain ⟨t_9, ht_9, hr⟩ := bindS hr
 refine q_do rfl fun _ hK => wp_callX (vs := [(.pointer (some ⟨b_p_c, 0, none⟩))]) hF Try.func101 (by kernel_rfl) rfl rfl rfl (c_spec_l1Cur_schema t_4.2 t_9 ht_9 _ m3' b_p_c s1 h6 _ hE8) fun a w _ hR hF => hK _ _ ?_
 obtain ⟨q10, s10, rfl, hR8, h10, hk11⟩ := hR
 have hS : St _ _ _ _ [[⟨b_p_c, [s1.v, (.int .i64 t_9.2.at_), (.int .u64 t_9.2.seed.v)], 65⟩], q10, [⟨b7, [s5.v], 26⟩], q5, [⟨b2, [nilS.v], 26⟩]] := hS8.leaveF hR8
 have h11 : Rd m3' s1 t_9.2.code := by rw [hk11]; exact h6
 refine q_x (v := s10.v) hF hS (ex_assign rfl) rfl rfl fun a hF => q_end (n_sq (q_seq (e_region ⟨[6, 7], [b7]⟩ mixed fun w' hw' => ?_)))
 have hS := hS.below hw'
 refine e_xb (v := (.agg #[s5.v])) 0 2 hF hS (.head _) rfl rfl (ex_loadA (vs := [s5.v]) 0 0 Try.underlying26 rfl sz26 rfl rfl rfl rfl) rfl rfl (by kernel_rfl) (by kernel_rfl) (by kernel_rfl) fun a hF => e_p (v := s10.v) 1 hF rfl (ex_move rfl) rfl rfl (by kernel_rfl) (by kernel_rfl) (by kernel_rfl) fun a hF => e_p (v := (.pointer (some ⟨b_p_c, 0, none⟩))) 2 hF rfl (ex_move rfl) rfl rfl (by kernel_rfl) (by kernel_rfl) (by kernel_rfl) fun a hF => e_p (v := s10.v) 3 hF rfl (ex_move rfl) rfl rfl (by kernel_rfl) (by kernel_rfl) (by kernel_rfl) fun a hF => e_xb (v := (.agg #[s5.v])) 4 2 hF hS (.head _) rfl rfl (ex_loadA (vs := [s5.v]) 0 0 Try.underlying26 rfl sz26 rfl rfl rfl rfl) rfl rfl (by kernel_rfl) (by kernel_rfl) (by kernel_rfl) fun a hF => e_one 5 (by kernel_rfl) ?_
 obtain ⟨m13, hl13, hv13, hz13⟩ := hS.lend
 obtain ⟨t_12, ht_12, hr⟩ := bindS hr
 refine e_call (vs := [(.agg #[s5.v])]) hF hS rfl Try.func96 (by kernel_rfl) rfl rfl rfl (c_spec_gLeaves t_4.1 t_12 ht_12 _ m13 hv13 s5 (h5.froz hl13 (hz13 3 _ rfl))) ?_
 rintro a w _ ⟨q15, s15, rfl, hR14, h15⟩ hF hS2
 have hS : St _ _ _ _ [q15, [⟨b_p_c, [s1.v, (.int .i64 t_9.2.at_), (.int .u64 t_9.2.seed.v)], 65⟩], q10, [⟨b7, [s5.v], 26⟩], q5, [⟨b2, [nilS.v], 26⟩]] := hS.joinF hR14
 have h15 := h15.any m3'
 refine e_one 6 (by kernel_rfl) ?_
 have hS : St _ _ _ _ [q10, q15, [⟨b_p_c, [s1.v, (.int .i64 t_9.2.at_), (.int .u64 t_9.2.seed.v)], 65⟩], [⟨b7, [s5.v], 26⟩], q5, [⟨b2, [nilS.v], 26⟩]] := hS.sel [2, 0, 1, 3, 4, 5] (by decide)
 obtain ⟨m16, hm16, hS, hz16⟩ := hS.freeze
 have h16 := h10.froz hm16.le hz16
 obtain ⟨m17, hm17, hS, hz17⟩ := hS.freeze
 have h17 := (h15.mono hm16.le).froz hm17.le hz17
 have hS18 : St _ _ _ _ ([[⟨b_p_c, [s1.v, (.int .i64 t_9.2.at_), (.int .u64 t_9.2.seed.v)], 65⟩]] ++ [[⟨b7, [s5.v], 26⟩], q5, [⟨b2, [nilS.v], 26⟩]]) := hS
 have hE18 := hS18.enter
 obtain ⟨t_19, ht_19, hr⟩ := bindS hr
 have hSo := hS
 refine e_opl rfl rfl rfl fun _ hK => wp_callX (vs := [(.pointer (some ⟨b_p_c, 0, none⟩)), s10.v, s15.v]) hF Try.func102 (by kernel_rfl) rfl rfl rfl (c_spec_l1Cur_data t_9.2 t_9.1 t_12 t_19 ht_19 _ m17 b_p_c s1 ((h11.mono hm16.le).mono hm17.le) s10 (h16.mono hm17.le) s15 h17 _ hE18) fun a w _ hR hF => hK _ _ ?_
 obtain ⟨m18', q20, s20, rfl, hm18, hR18, h20, hk21⟩ := hR
 have hS : St _ _ _ _ [[⟨b_p_c, [s1.v, (.int .i64 t_19.2.at_), (.int .u64 t_19.2.seed.v)], 65⟩], q20, [⟨b7, [s5.v], 26⟩], q5, [⟨b2, [nilS.v], 26⟩]] := hS18.leave hR18 hm18
 have hm18 := MLe.weakX hS18 hm18
 have h21 : Rd m18' s1 t_19.2.code := by rw [hk21]; exact (((h11.mono hm16.le).mono hm17.le).mono hm18.le)
 refine ⟨kpC hSo hS 1 2 rfl rfl kpN, ?_⟩
 refine e_one 7 (by kernel_rfl) ?_
 have hSo := hS
 refine e_store (vs := [s5.v]) (cs' := [s5.v]) 4 0 hF hS rfl rfl sz26 rfl rfl rfl rfl rfl rfl rfl rfl fun a w hF hS => ⟨kpC hSo hS 2 2 rfl rfl kpN, ?_⟩
 refine e_p (v := s10.v) 8 hF rfl (ex_assign rfl) rfl rfl (by kernel_rfl) (by kernel_rfl) (by kernel_rfl) fun a hF => e_p (v := s20.v) 9 hF rfl (ex_assign rfl) rfl rfl (by kernel_rfl) (by kernel_rfl) (by kernel_rfl) fun a hF => e_end (by kernel_rfl) (n_sq (q_ret ?_)) _
 obtain rfl := someI hr
 exact ret_ofX hF hS rfl (.cellA (us := [s5.v]) 4 0 Try.underlying26 rfl sz26 rfl rfl rfl rfl (.tmp rfl (.tmp rfl .nil))) ⟨m18', q5, q20, s5, s10, s20, rfl, (((hm3.trans hm16).trans hm17).trans hm18), hS.sel [0, 3, 1] (by decide), (((h5.mono hm16.le).mono hm17.le).mono hm18.le), ((h16.mono hm17.le).mono hm18.le), h20, (hk21.trans (hk11.trans hk6))⟩

theorem c_spec_l1Cur_anyGeo (p_c : spec_l1Cur) (r : impl_Geo × spec_l1Cur) (hr : spec_l1Cur_anyGeo p_c = some r) (w0 : World) (m : Mem) (b_p_c : Nat) (s1 : Sl) (h1 : Rd m s1 p_c.code) (X : List Nat) (hS : St X w0 w0 m [[⟨b_p_c, [s1.v, (.int .i64 p_c.at_), (.int .u64 p_c.seed.v)], 65⟩]]) :
  RetX Try.prog 87 [(.pointer (some ⟨b_p_c, 0, none⟩))] w0 (fun v w => ∃ (m' : Mem) (q0' : Piece) (s0' : Sl), v = (.agg #[s0'.v]) ∧ MLe X w0.heap.size m m' ∧ St X w0 w m' [[⟨b_p_c, [s1.v, (.int .i64 r.2.at_), (.int .u64 r.2.seed.v)], 65⟩], q0'] ∧ OwnL m' 3 q0' s0' r.1.Parents ∧ r.2.code = p_c.code) := by
 unfold spec_l1Cur_anyGeo at hr
 refine ret_startX Try.func87 rfl 43 rfl rfl fun a hF => q_seq (q_region (q_alloc (cs := [nilS.v]) hF hS rfl rfl rfl fun a w b2 hF hS => q_end (n_sq (q_seq (q_region (q_x (v := (.pointer (some ⟨b_p_c, 0, none⟩))) hF hS (ex_move rfl) rfl rfl fun a hF => ?_))))))
 have hS : St _ _ _ _ [[⟨b_p_c, [s1.v, (.int .i64 p_c.at_), (.int .u64 p_c.seed.v)], 65⟩], [⟨b2, [nilS.v], 26⟩]] := hS.sel [1, 0] (by decide)
 have hS3 : St _ _ _ _ ([[⟨b_p_c, [s1.v, (.int .i64 p_c.at_), (.int .u64 p_c.seed.v)], 65⟩]] ++ [[⟨b2, [nilS.v], 26⟩]]) := hS
 have hE3 := hS3.enter
 obtain ⟨t_4, ht_4, hr⟩ := bindS hr
 refine q_do rfl fun _ hK => wp_callX (vs := [(.pointer (some ⟨b_p_c, 0, none⟩))]) hF Try.func100 (by kernel_rfl) rfl rfl rfl (c_spec_l1Cur_geo p_c t_4 ht_4 _ m b_p_c s1 h1 _ hE3) fun a w _ hR hF => hK _ _ ?_
 obtain ⟨m3', q5, s5, rfl, hm3, hR3, h5, hk6⟩ := hR
 have hS : St _ _ _ _ [[⟨b_p_c, [s1.v, (.int .i64 t_4.2.at_), (.int .u64 t_4.2.seed.v)], 65⟩], q5, [⟨b2, [nilS.v], 26⟩]] := hS3.leave hR3 hm3
 have hm3 := MLe.weakX hS3 hm3
 have h6 : Rd m3' s1 t_4.2.code := by rw [hk6]; exact (h1.mono hm3.le)
 refine q_alloc (cs := [nilS.v]) hF hS rfl rfl rfl fun a w b7 hF hS => q_store (vs := [s5.v]) (cs' := [s5.v]) 0 0 hF hS sz26 rfl rfl rfl rfl rfl rfl rfl rfl fun a w hF hS => q_end (n_sq (q_seq (q_seq (q_region (q_x (v := (.pointer (some ⟨b_p_c, 0, none⟩))) hF hS (ex_move rfl) rfl rfl fun a hF => ?_)))))
 have hS : St _ _ _ _ [[⟨b_p_c, [s1.v, (.int .i64 t_4.2.at_), (.int .u64 t_4.2.seed.v)], 65⟩], [⟨b7, [s5.v], 26⟩], q5, [⟨b2, [nilS.v], 26⟩]] := hS.sel [1, 0, 2, 3] (by decide)
 have hS8 : St _ _ _ _ ([[⟨b_p_c, [s1.v, (.int .i64 t_4.2.at_), (.int .u64 t_4.2.seed.v)], 65⟩]] ++ [[⟨b7, [s5.v], 26⟩], q5, [⟨b2, [nilS.v], 26⟩]]) := hS
 have hE8 := hS8.enter
 obtain ⟨t_9, ht_9, hr⟩ := bindS hr
 refine q_do rfl fun _ hK => wp_callX (vs := [(.pointer (some ⟨b_p_c, 0, none⟩)), (.int .i64 24)]) hF Try.func53 (by kernel_rfl) rfl rfl rfl (c_spec_l1Cur_pick t_4.2 24 t_9 ht_9 _ m3' b_p_c s1 h6 _ hE8) fun a w _ hR hF => hK _ _ ?_
 obtain ⟨rfl, hR8, hk10⟩ := hR
 have hS : St _ _ _ _ [[⟨b_p_c, [s1.v, (.int .i64 t_9.2.at_), (.int .u64 t_9.2.seed.v)], 65⟩], [⟨b7, [s5.v], 26⟩], q5, [⟨b2, [nilS.v], 26⟩]] := hS8.leaveF hR8
 have h10 : Rd m3' s1 t_9.2.code := by rw [hk10]; exact h6
 refine q_end (n_sq (q_block (q_seq (q_region (q_x (v := (.bool (t_9.1 == 0))) hF hS (ex_ibin rfl rfl rfl) rfl rfl fun a hF => q_x (v := (.bool (t_9.1 == 0))) hF hS (ex_assign rfl) rfl rfl fun a hF => q_end (n_sq ?_))))))
 obtain ⟨j1, hj1, hr⟩ := bindS hr
 refine q_join (fun a w => ∃ (q44 : Piece), ∃ (s44 : Sl), ∃ p_c_41, ∃ g_43, j1 = .inl (p_c_41, g_43) ∧ Fr a 43 [(2, (.pointer (some ⟨b2, 0, none⟩))), (3, (.pointer (some ⟨b7, 0, none⟩)))] ∧ St X w0 w m3' [q44, [⟨b_p_c, [s1.v, (.int .i64 p_c_41.at_), (.int .u64 p_c_41.seed.v)], 65⟩], [⟨b7, [s44.v], 26⟩], [⟨b2, [nilS.v], 26⟩]] ∧ Rd m3' s1 p_c_41.code ∧ p_c_41.code = p_c.code ∧ OwnL m3' 3 q44 s44 g_43.Parents) ?_ ?_
 ·rcases bcase (t_9.1 == 0) with hc2 | hc2
  ·have hj1 := cond_f hc2 hj1
   refine q_cond_f hF rfl hc2 (q_seq (q_region (q_x (v := (.bool (t_9.1 == 1))) hF hS (ex_ibin rfl rfl rfl) rfl rfl fun a hF => q_x (v := (.bool (t_9.1 == 1))) hF hS (ex_assign rfl) rfl rfl fun a hF => q_end (n_sq ?_))))
   obtain ⟨j3, hj3, hj1⟩ := bindS hj1
   refine q_join (fun a w => ∃ (q37 : Piece), ∃ (s37 : Sl), ∃ p_c_34, ∃ g_36, j3 = .inl (p_c_34, g_36) ∧ Fr a 43 [(2, (.pointer (some ⟨b2, 0, none⟩))), (3, (.pointer (some ⟨b7, 0, none⟩)))] ∧ St X w0 w m3' [q37, [⟨b_p_c, [s1.v, (.int .i64 p_c_34.at_), (.int .u64 p_c_34.seed.v)], 65⟩], [⟨b7, [s37.v], 26⟩], [⟨b2, [nilS.v], 26⟩]] ∧ Rd m3' s1 p_c_34.code ∧ p_c_34.code = p_c.code ∧ OwnL m3' 3 q37 s37 g_36.Parents) ?_ ?_
   ·rcases bcase (t_9.1 == 1) with hc4 | hc4
    ·have hj3 := cond_f hc4 hj3
     refine q_cond_f hF rfl hc4 (q_seq (q_region (q_x (v := (.bool (t_9.1 == 2))) hF hS (ex_ibin rfl rfl rfl) rfl rfl fun a hF => q_x (v := (.bool (t_9.1 == 2))) hF hS (ex_assign rfl) rfl rfl fun a hF => q_end (n_sq ?_))))
     rcases bcase (t_9.1 == 2) with hc5 | hc5
     ·have hj3 := cond_f hc5 hj3
      refine q_cond_f hF rfl hc5 (q_seq (q_region (q_x (v := (.bool (t_9.1 == 3))) hF hS (ex_ibin rfl rfl rfl) rfl rfl fun a hF => q_x (v := (.bool (t_9.1 == 3))) hF hS (ex_assign rfl) rfl rfl fun a hF => q_end (n_sq ?_))))
      obtain ⟨j6, hj6, hj3⟩ := bindS hj3
      refine q_join (fun a w => ∃ (q22 : Piece), ∃ (s22 : Sl), ∃ p_c_19, ∃ g_21, j6 = (p_c_19, g_21) ∧ Fr a 43 [(2, (.pointer (some ⟨b2, 0, none⟩))), (3, (.pointer (some ⟨b7, 0, none⟩)))] ∧ St X w0 w m3' [q22, [⟨b_p_c, [s1.v, (.int .i64 p_c_19.at_), (.int .u64 p_c_19.seed.v)], 65⟩], [⟨b7, [s22.v], 26⟩], [⟨b2, [nilS.v], 26⟩]] ∧ Rd m3' s1 p_c_19.code ∧ p_c_19.code = p_c.code ∧ OwnL m3' 3 q22 s22 g_21.Parents) ?_ ?_
      ·rcases bcase (t_9.1 == 3) with hc7 | hc7
       ·have hj6 := cond_f hc7 hj6
        refine q_cond_f hF rfl hc7 (q_skipc (n_jn ?_))
        obtain rfl := someI hj6
        exact ⟨q5, s5, _, _, rfl, hF.sub ⟨rfl, rfl, trivial⟩, hS.sel [2, 0, 1, 3] (by decide), h10, (hk10.trans hk6), h5⟩
       ·have hj6 := cond_t hc7 hj6
        refine q_cond_t hF rfl hc7 (e_region ⟨[7, 9, 11], []⟩ mixed fun w' hw' => ?_)
        have hS := hS.below hw'
        refine e_p (v := (.pointer (some ⟨b7, 0, none⟩))) 0 hF rfl (ex_fieldAddr Try.underlying26 rfl sz24 rfl rfl) rfl rfl (by kernel_rfl) (by kernel_rfl) (by kernel_rfl) fun a hF => e_p (v := (.pointer (some ⟨b7, 0, none⟩))) 2 hF rfl (ex_fieldAddr Try.underlying26 rfl sz24 rfl rfl) rfl rfl (by kernel_rfl) (by kernel_rfl) (by kernel_rfl) fun a hF => e_p (v := (.pointer (some ⟨b_p_c, 0, none⟩))) 6 hF rfl (ex_move rfl) rfl rfl (by kernel_rfl) (by kernel_rfl) (by kernel_rfl) fun a hF => ?_
        obtain ⟨t_15, ht_15, hj6⟩ := bindS hj6
        obtain ⟨l_17, hl_17, hj6⟩ := bindS hj6
        refine e_all [1, 3, 7] (by kernel_rfl) rfl ⟨?_, ?_, ?_, trivial⟩
        ·refine e_lx (v := s5.v) hF hS rfl (ex_load1 1 0 Try.underlying24 rfl rfl rfl rfl) rfl rfl fun a hF => e_all [3, 7] (by kernel_rfl) rfl ⟨?_, ?_, trivial⟩
         ·refine e_lx (v := s5.v) hF hS rfl (ex_load1 1 0 Try.underlying24 rfl rfl rfl rfl) rfl rfl fun a hF => e_p (v := (.int .i64 (goLen t_4.1.Parents))) 4 hF rfl (ex_len Try.underlying24 rfl h5.len) rfl rfl (by kernel_rfl) (by kernel_rfl) (by kernel_rfl) fun a hF => e_p (v := (.int .i64 (w64 (30 - (goLen t_4.1.Parents))))) 5 hF rfl (ex_ibin rfl rfl rfl) rfl rfl (by kernel_rfl) (by kernel_rfl) (by kernel_rfl) fun a hF => e_one 7 (by kernel_rfl) ?_
          have hS14 : St _ _ _ _ ([[⟨b_p_c, [s1.v, (.int .i64 t_9.2.at_), (.int .u64 t_9.2.seed.v)], 65⟩]] ++ [[⟨b7, [s5.v], 26⟩], q5, [⟨b2, [nilS.v], 26⟩]]) := hS
          have hE14 := hS14.enter
          refine e_opl rfl rfl rfl fun _ hK => wp_callX (vs := [(.pointer (some ⟨b_p_c, 0, none⟩)), (.int .i64 2)]) hF Try.func53 (by kernel_rfl) rfl rfl rfl (c_spec_l1Cur_pick t_9.2 2 t_15 ht_15 _ m3' b_p_c s1 h10 _ hE14) fun a w _ hR hF => hK _ _ ?_
          obtain ⟨rfl, hR14, hk16⟩ := hR
          have hS : St _ _ _ _ [[⟨b_p_c, [s1.v, (.int .i64 t_15.2.at_), (.int .u64 t_15.2.seed.v)], 65⟩], [⟨b7, [s5.v], 26⟩], q5, [⟨b2, [nilS.v], 26⟩]] := hS14.leaveF hR14
          have h16 : Rd m3' s1 t_15.2.code := by rw [hk16]; exact h10
          refine ⟨kpN, ?_⟩
          refine e_p (v := (.int .i64 (w64 ((w64 (30 - (goLen t_4.1.Parents))) + t_15.1)))) 8 hF rfl (ex_ibin rfl rfl rfl) rfl rfl (by kernel_rfl) (by kernel_rfl) (by kernel_rfl) fun a hF => e_one 9 (by kernel_rfl) ?_
          have hS : St _ _ _ _ [q5, [⟨b_p_c, [s1.v, (.int .i64 t_15.2.at_), (.int .u64 t_15.2.seed.v)], 65⟩], [⟨b7, [s5.v], 26⟩], [⟨b2, [nilS.v], 26⟩]] := hS.sel [2, 0, 1, 3] (by decide)
          refine e_opl rfl rfl rfl fun _ hK => wp_appendZ (z := (0 : Int)) hF hS h5 Try.underlying24 Try.underlying3 inf3 rfl rfl rfl rfl rfl rfl (by decide) hl_17 rfl fun a w q18 s18 hF hS h18 => hK _ _ (⟨kpN, ?_⟩)
          refine e_p (v := (.pointer (some ⟨b7, 0, none⟩))) 10 hF rfl (ex_fieldAddr Try.underlying26 rfl sz24 rfl rfl) rfl rfl (by kernel_rfl) (by kernel_rfl) (by kernel_rfl) fun a hF => e_one 11 (by kernel_rfl) (e_store (vs := [s18.v]) (cs' := [s18.v]) 2 0 hF hS rfl rfl sz24 rfl rfl rfl rfl rfl rfl rfl rfl fun a w hF hS => ⟨kpN, ?_⟩)
          refine e_end (by kernel_rfl) (n_jn ?_) _
          obtain rfl := someI hj6
          exact ⟨q18, s18, _, _, rfl, hF.sub ⟨rfl, rfl, trivial⟩, hS, h16, (hk16.trans (hk10.trans hk6)), h18⟩
         ·have hS14 : St _ _ _ _ ([[⟨b_p_c, [s1.v, (.int .i64 t_9.2.at_), (.int .u64 t_9.2.seed.v)], 65⟩]] ++ [[⟨b7, [s5.v], 26⟩], q5, [⟨b2, [nilS.v], 26⟩]]) := hS
          have hE14 := hS14.enter
          refine e_opl rfl rfl rfl fun _ hK => wp_callX (vs := [(.pointer (some ⟨b_p_c, 0, none⟩)), (.int .i64 2)]) hF Try.func53 (by kernel_rfl) rfl rfl rfl (c_spec_l1Cur_pick t_9.2 2 t_15 ht_15 _ m3' b_p_c s1 h10 _ hE14) fun a w _ hR hF => hK _ _ ?_
          obtain ⟨rfl, hR14, hk16⟩ := hR
          have hS : St _ _ _ _ [[⟨b_p_c, [s1.v, (.int .i64 t_15.2.at_), (.int .u64 t_15.2.seed.v)], 65⟩], [⟨b7, [s5.v], 26⟩], q5, [⟨b2, [nilS.v], 26⟩]] := hS14.leaveF hR14
          have h16 : Rd m3' s1 t_15.2.code := by rw [hk16]; exact h10
          refine ⟨kpN, ?_⟩
          refine e_one 3 (by kernel_rfl) (e_lx (v := s5.v) hF hS rfl (ex_load1 1 0 Try.underlying24 rfl rfl rfl rfl) rfl rfl fun a hF => e_p (v := (.int .i64 (goLen t_4.1.Parents))) 4 hF rfl (ex_len Try.underlying24 rfl h5.len) rfl rfl (by kernel_rfl) (by kernel_rfl) (by kernel_rfl) fun a hF => e_p (v := (.int .i64 (w64 (30 - (goLen t_4.1.Parents))))) 5 hF rfl (ex_ibin rfl rfl rfl) rfl rfl (by kernel_rfl) (by kernel_rfl) (by kernel_rfl) fun a hF => e_p (v := (.int .i64 (w64 ((w64 (30 - (goLen t_4.1.Parents))) + t_15.1)))) 8 hF rfl (ex_ibin rfl rfl rfl) rfl rfl (by kernel_rfl) (by kernel_rfl) (by kernel_rfl) fun a hF => e_one 9 (by kernel_rfl) ?_)
          have hS : St _ _ _ _ [q5, [⟨b_p_c, [s1.v, (.int .i64 t_15.2.at_), (.int .u64 t_15.2.seed.v)], 65⟩], [⟨b7, [s5.v], 26⟩], [⟨b2, [nilS.v], 26⟩]] := hS.sel [2, 0, 1, 3] (by decide)
          refine e_opl rfl rfl rfl fun _ hK => wp_appendZ (z := (0 : Int)) hF hS h5 Try.underlying24 Try.underlying3 inf3 rfl rfl rfl rfl rfl rfl (by decide) hl_17 rfl fun a w q18 s18 hF hS h18 => hK _ _ (⟨kpN, ?_⟩)
          refine e_p (v := (.pointer (some ⟨b7, 0, none⟩))) 10 hF rfl (ex_fieldAddr Try.underlying26 rfl sz24 rfl rfl) rfl rfl (by kernel_rfl) (by kernel_rfl) (by kernel_rfl) fun a hF => e_one 11 (by kernel_rfl) (e_store (vs := [s18.v]) (cs' := [s18.v]) 2 0 hF hS rfl rfl sz24 rfl rfl rfl rfl rfl rfl rfl rfl fun a w hF hS => ⟨kpN, ?_⟩)
          refine e_end (by kernel_rfl) (n_jn ?_) _
          obtain rfl := someI hj6
          exact ⟨q18, s18, _, _, rfl, hF.sub ⟨rfl, rfl, trivial⟩, hS, h16, (hk16.trans (hk10.trans hk6)), h18⟩
        ·refine e_lx (v := s5.v) hF hS rfl (ex_load1 1 0 Try.underlying24 rfl rfl rfl rfl) rfl rfl fun a hF => e_p (v := (.int .i64 (goLen t_4.1.Parents))) 4 hF rfl (ex_len Try.underlying24 rfl h5.len) rfl rfl (by kernel_rfl) (by kernel_rfl) (by kernel_rfl) fun a hF => e_p (v := (.int .i64 (w64 (30 - (goLen t_4.1.Parents))))) 5 hF rfl (ex_ibin rfl rfl rfl) rfl rfl (by kernel_rfl) (by kernel_rfl) (by kernel_rfl) fun a hF => e_all [1, 7] (by kernel_rfl) rfl ⟨?_, ?_, trivial⟩
         ·refine e_lx (v := s5.v) hF hS rfl (ex_load1 1 0 Try.underlying24 rfl rfl rfl rfl) rfl rfl fun a hF => e_one 7 (by kernel_rfl) ?_
          have hS14 : St _ _ _ _ ([[⟨b_p_c, [s1.v, (.int .i64 t_9.2.at_), (.int .u64 t_9.2.seed.v)], 65⟩]] ++ [[⟨b7, [s5.v], 26⟩], q5, [⟨b2, [nilS.v], 26⟩]]) := hS
          have hE14 := hS14.enter
          refine e_opl rfl rfl rfl fun _ hK => wp_callX (vs := [(.pointer (some ⟨b_p_c, 0, none⟩)), (.int .i64 2)]) hF Try.func53 (by kernel_rfl) rfl rfl rfl (c_spec_l1Cur_pick t_9.2 2 t_15 ht_15 _ m3' b_p_c s1 h10 _ hE14) fun a w _ hR hF => hK _ _ ?_
          obtain ⟨rfl, hR14, hk16⟩ := hR
          have hS : St _ _ _ _ [[⟨b_p_c, [s1.v, (.int .i64 t_15.2.at_), (.int .u64 t_15.2.seed.v)], 65⟩], [⟨b7, [s5.v], 26⟩], q5, [⟨b2, [nilS.v], 26⟩]] := hS14.leaveF hR14
          have h16 : Rd m3' s1 t_15.2.code := by rw [hk16]; exact h10
          refine ⟨kpN, ?_⟩
          refine e_p (v := (.int .i64 (w64 ((w64 (30 - (goLen t_4.1.Parents))) + t_15.1)))) 8 hF rfl (ex_ibin rfl rfl rfl) rfl rfl (by kernel_rfl) (by kernel_rfl) (by kernel_rfl) fun a hF => e_one 9 (by kernel_rfl) ?_
          have hS : St _ _ _ _ [q5, [⟨b_p_c, [s1.v, (.int .i64 t_15.2.at_), (.int .u64 t_15.2.seed.v)], 65⟩], [⟨b7, [s5.v], 26⟩], [⟨b2, [nilS.v], 26⟩]] := hS.sel [2, 0, 1, 3] (by decide)
          refine e_opl rfl rfl rfl fun _ hK => wp_appendZ (z := (0 : Int)) hF hS h5 Try.underlying24 Try.underlying3 inf3 rfl rfl rfl rfl rfl rfl (by decide) hl_17 rfl fun a w q18 s18 hF hS h18 => hK _ _ (⟨kpN, ?_⟩)
          refine e_p (v := (.pointer (some ⟨b7, 0, none⟩))) 10 hF rfl (ex_fieldAddr Try.underlying26 rfl sz24 rfl rfl) rfl rfl (by kernel_rfl) (by kernel_rfl) (by kernel_rfl) fun a hF => e_one 11 (by kernel_rfl) (e_store (vs := [s18.v]) (cs' := [s18.v]) 2 0 hF hS rfl rfl sz24 rfl rfl rfl rfl rfl rfl rfl rfl fun a w hF hS => ⟨kpN, ?_⟩)
          refine e_end (by kernel_rfl) (n_jn ?_) _
          obtain rfl := someI hj6
          exact ⟨q18, s18, _, _, rfl, hF.sub ⟨rfl, rfl, trivial⟩, hS, h16, (hk16.trans (hk10.trans hk6)), h18⟩
         ·have hS14 : St _ _ _ _ ([[⟨b_p_c, [s1.v, (.int .i64 t_9.2.at_), (.int .u64 t_9.2.seed.v)], 65⟩]] ++ [[⟨b7, [s5.v], 26⟩], q5, [⟨b2, [nilS.v], 26⟩]]) := hS
          have hE14 := hS14.enter
          refine e_opl rfl rfl rfl fun _ hK => wp_callX (vs := [(.pointer (some ⟨b_p_c, 0, none⟩)), (.int .i64 2)]) hF Try.func53 (by kernel_rfl) rfl rfl rfl (c_spec_l1Cur_pick t_9.2 2 t_15 ht_15 _ m3' b_p_c s1 h10 _ hE14) fun a w _ hR hF => hK _ _ ?_
          obtain ⟨rfl, hR14, hk16⟩ := hR
          have hS : St _ _ _ _ [[⟨b_p_c, [s1.v, (.int .i64 t_15.2.at_), (.int .u64 t_15.2.seed.v)], 65⟩], [⟨b7, [s5.v], 26⟩], q5, [⟨b2, [nilS.v], 26⟩]] := hS14.leaveF hR14
          have h16 : Rd m3' s1 t_15.2.code := by rw [hk16]; exact h10
          refine ⟨kpN, ?_⟩
          refine e_x (v := s5.v) 1 hF hS rfl (ex_load1 1 0 Try.underlying24 rfl rfl rfl rfl) rfl rfl (by kernel_rfl) (by kernel_rfl) (by kernel_rfl) (by kernel_rfl) fun a hF => e_p (v := (.int .i64 (w64 ((w64 (30 - (goLen t_4.1.Parents))) + t_15.1)))) 8 hF rfl (ex_ibin rfl rfl rfl) rfl rfl (by kernel_rfl) (by kernel_rfl) (by kernel_rfl) fun a hF => e_one 9 (by kernel_rfl) ?_
          have hS : St _ _ _ _ [q5, [⟨b_p_c, [s1.v, (.int .i64 t_15.2.at_), (.int .u64 t_15.2.seed.v)], 65⟩], [⟨b7, [s5.v], 26⟩], [⟨b2, [nilS.v], 26⟩]] := hS.sel [2, 0, 1, 3] (by decide)
          refine e_opl rfl rfl rfl fun _ hK => wp_appendZ (z := (0 : Int)) hF hS h5 Try.underlying24 Try.underlying3 inf3 rfl rfl rfl rfl rfl rfl (by decide) hl_17 rfl fun a w q18 s18 hF hS h18 => hK _ _ (⟨kpN, ?_⟩)
          refine e_p (v := (.pointer (some ⟨b7, 0, none⟩))) 10 hF rfl (ex_fieldAddr Try.underlying26 rfl sz24 rfl rfl) rfl rfl (by kernel_rfl) (by kernel_rfl) (by kernel_rfl) fun a hF => e_one 11 (by kernel_rfl) (e_store (vs := [s18.v]) (cs' := [s18.v]) 2 0 hF hS rfl rfl sz24 rfl rfl rfl rfl rfl rfl rfl rfl fun a w hF hS => ⟨kpN, ?_⟩)
          refine e_end (by kernel_rfl) (n_jn ?_) _
          obtain rfl := someI hj6
          exact ⟨q18, s18, _, _, rfl, hF.sub ⟨rfl, rfl, trivial⟩, hS, h16, (hk16.trans (hk10.trans hk6)), h18⟩
        ·have hS14 : St _ _ _ _ ([[⟨b_p_c, [s1.v, (.int .i64 t_9.2.at_), (.int .u64 t_9.2.seed.v)], 65⟩]] ++ [[⟨b7, [s5.v], 26⟩], q5, [⟨b2, [nilS.v], 26⟩]]) := hS
         have hE14 := hS14.enter
         refine e_opl rfl rfl rfl fun _ hK => wp_callX (vs := [(.pointer (some ⟨b_p_c, 0, none⟩)), (.int .i64 2)]) hF Try.func53 (by kernel_rfl) rfl rfl rfl (c_spec_l1Cur_pick t_9.2 2 t_15 ht_15 _ m3' b_p_c s1 h10 _ hE14) fun a w _ hR hF => hK _ _ ?_
         obtain ⟨rfl, hR14, hk16⟩ := hR
         have hS : St _ _ _ _ [[⟨b_p_c, [s1.v, (.int .i64 t_15.2.at_), (.int .u64 t_15.2.seed.v)], 65⟩], [⟨b7, [s5.v], 26⟩], q5, [⟨b2, [nilS.v], 26⟩]] := hS14.leaveF hR14
         have h16 : Rd m3' s1 t_15.2.code := by rw [hk16]; exact h10
         refine ⟨kpN, ?_⟩
         refine e_x (v := s5.v) 1 hF hS rfl (ex_load1 1 0 Try.underlying24 rfl rfl rfl rfl) rfl rfl (by kernel_rfl) (by kernel_rfl) (by kernel_rfl) (by kernel_rfl) fun a hF => e_one 3 (by kernel_rfl) (e_lx (v := s5.v) hF hS rfl (ex_load1 1 0 Try.underlying24 rfl rfl rfl rfl) rfl rfl fun a hF => e_p (v := (.int .i64 (goLen t_4.1.Parents))) 4 hF rfl (ex_len Try.underlying24 rfl h5.len) rfl rfl (by kernel_rfl) (by kernel_rfl) (by kernel_rfl) fun a hF => e_p (v := (.int .i64 (w64 (30 - (goLen t_4.1.Parents))))) 5 hF rfl (ex_ibin rfl rfl rfl) rfl rfl (by kernel_rfl) (by kernel_rfl) (by kernel_rfl) fun a hF => e_p (v := (.int .i64 (w64 ((w64 (30 - (goLen t_4.1.Parents))) + t_15.1)))) 8 hF rfl (ex_ibin rfl rfl rfl) rfl rfl (by kernel_rfl) (by kernel_rfl) (by kernel_rfl) fun a hF => e_one 9 (by kernel_rfl) ?_)
         have hS : St _ _ _ _ [q5, [⟨b_p_c, [s1.v, (.int .i64 t_15.2.at_), (.int .u64 t_15.2.seed.v)], 65⟩], [⟨b7, [s5.v], 26⟩], [⟨b2, [nilS.v], 26⟩]] := hS.sel [2, 0, 1, 3] (by decide)
         refine e_opl rfl rfl rfl fun _ hK => wp_appendZ (z := (0 : Int)) hF hS h5 Try.underlying24 Try.underlying3 inf3 rfl rfl rfl rfl rfl rfl (by decide) hl_17 rfl fun a w q18 s18 hF hS h18 => hK _ _ (⟨kpN, ?_⟩)
         refine e_p (v := (.pointer (some ⟨b7, 0, none⟩))) 10 hF rfl (ex_fieldAddr Try.underlying26 rfl sz24 rfl rfl) rfl rfl (by kernel_rfl) (by kernel_rfl) (by kernel_rfl) fun a hF => e_one 11 (by kernel_rfl) (e_store (vs := [s18.v]) (cs' := [s18.v]) 2 0 hF hS rfl rfl sz24 rfl rfl rfl rfl rfl rfl rfl rfl fun a w hF hS => ⟨kpN, ?_⟩)
         refine e_end (by kernel_rfl) (n_jn ?_) _
         obtain rfl := someI hj6
         exact ⟨q18, s18, _, _, rfl, hF.sub ⟨rfl, rfl, trivial⟩, hS, h16, (hk16.trans (hk10.trans hk6)), h18⟩
      ·rintro a w ⟨q22, s22, p_c_19, g_21, rfl, hF, hS, h20, h20k, h22⟩
       refine n_jn ?_
       obtain rfl := someI hj3
       exact ⟨q22, s22, _, _, rfl, hF.sub ⟨rfl, rfl, trivial⟩, hS, h20, h20k, h22⟩
     ·have hj3 := cond_t hc5 hj3
      refine q_cond_t hF rfl hc5 (q_seq (q_region (q_x (v := (.agg #[nilS.v])) hF hS (ex_build (cells := [nilS.v]) rfl (by kernel_rfl)) rfl rfl fun a hF => q_store (vs := [nilS.v]) (cs' := [nilS.v]) 3 0 hF hS sz26 rfl rfl rfl rfl rfl rfl rfl rfl fun a w hF hS => q_end (n_sq (q_ret (r_jn ?_))))))
      obtain rfl := someI hj3
      refine r_jn ?_
      obtain rfl := someI hj1
      refine r_ib (r_sq ?_)
      obtain rfl := someI hr
      exact ret_ofX hF hS rfl (.cellA (us := [nilS.v]) 3 0 Try.underlying26 rfl sz26 rfl rfl rfl rfl .nil) ⟨m3', [], nilS, rfl, hm3, hS.sel [0, 4] (by decide), (OwnL.nil (α := Int) m3' 3), (hk10.trans hk6)⟩
    ·have hj3 := cond_t hc4 hj3
     refine q_cond_t hF rfl hc4 ?_
     obtain ⟨j8, hj8, hj3⟩ := bindS hj3
     refine q_join (fun a w => ∃ (q33 : Piece), ∃ (s33 : Sl), ∃ p_c_30, ∃ g_32, j8 = (p_c_30, g_32) ∧ Fr a 43 [(2, (.pointer (some ⟨b2, 0, none⟩))), (3, (.pointer (some ⟨b7, 0, none⟩)))] ∧ St X w0 w m3' [q33, [⟨b_p_c, [s1.v, (.int .i64 p_c_30.at_), (.int .u64 p_c_30.seed.v)], 65⟩], [⟨b7, [s33.v], 26⟩], [⟨b2, [nilS.v], 26⟩]] ∧ Rd m3' s1 p_c_30.code ∧ p_c_30.code = p_c.code ∧ OwnL m3' 3 q33 s33 g_32.Parents) ?_ ?_
     ·refine e_region ⟨[7, 9, 11], []⟩ mixed fun w' hw' => ?_
      have hS := hS.below hw'
      refine e_p (v := (.pointer (some ⟨b7, 0, none⟩))) 0 hF rfl (ex_fieldAddr Try.underlying26 rfl sz24 rfl rfl) rfl rfl (by kernel_rfl) (by kernel_rfl) (by kernel_rfl) fun a hF => e_p (v := (.pointer (some ⟨b_p_c, 0, none⟩))) 2 hF rfl (ex_move rfl) rfl rfl (by kernel_rfl) (by kernel_rfl) (by kernel_rfl) fun a hF => e_p (v := (.pointer (some ⟨b7, 0, none⟩))) 3 hF rfl (ex_fieldAddr Try.underlying26 rfl sz24 rfl rfl) rfl rfl (by kernel_rfl) (by kernel_rfl) (by kernel_rfl) fun a hF => ?_
      obtain ⟨t_25, ht_25, hj8⟩ := bindS hj8
      obtain ⟨l_28, hl_28, hj8⟩ := bindS hj8
      refine e_all [1, 4] (by kernel_rfl) rfl ⟨?_, ?_, trivial⟩
      ·refine e_lx (v := s5.v) hF hS rfl (ex_load1 1 0 Try.underlying24 rfl rfl rfl rfl) rfl rfl fun a hF => e_one 4 (by kernel_rfl) (e_lx (v := s5.v) hF hS rfl (ex_load1 1 0 Try.underlying24 rfl rfl rfl rfl) rfl rfl fun a hF => e_p (v := (.int .i64 (goLen t_4.1.Parents))) 5 hF rfl (ex_len Try.underlying24 rfl h5.len) rfl rfl (by kernel_rfl) (by kernel_rfl) (by kernel_rfl) fun a hF => e_one 6 (by kernel_rfl) (e_op rfl rfl fun _ hK => wp_buildSlice' (l := ([-1, goLen t_4.1.Parents, 0] : List Int)) (cells := [(.int .i64 (-1)), (.int .i64 (goLen t_4.1.Parents)), (.int .i64 0)]) hF hS Try.underlying24 inf3 rfl rfl (by kernel_rfl) rfl rfl rfl ⟨rfl, rfl, rfl, rfl⟩ rfl rfl fun a w q23 s23 hF hS h23 hb => hK _ _ hb (e_one 7 (by kernel_rfl) ?_)))
       have hS : St _ _ _ _ [[⟨b_p_c, [s1.v, (.int .i64 t_9.2.at_), (.int .u64 t_9.2.seed.v)], 65⟩], q23, [⟨b7, [s5.v], 26⟩], q5, [⟨b2, [nilS.v], 26⟩]] := hS.sel [1, 0, 2, 3, 4] (by decide)
       have hS24 : St _ _ _ _ ([[⟨b_p_c, [s1.v, (.int .i64 t_9.2.at_), (.int .u64 t_9.2.seed.v)], 65⟩]] ++ [q23, [⟨b7, [s5.v], 26⟩], q5, [⟨b2, [nilS.v], 26⟩]]) := hS
       obtain ⟨m24, hl24, hE24, hz24⟩ := hS24.lendX
       refine e_opl rfl rfl rfl fun _ hK => wp_callX (vs := [(.pointer (some ⟨b_p_c, 0, none⟩)), s23.v]) hF Try.func77 (by kernel_rfl) rfl rfl rfl (c_spec_l1Cur_among t_9.2 ([-1, goLen t_4.1.Parents, 0] : List Int) t_25 ht_25 _ m24 b_p_c s1 (h10.mono hl24) s23 (h23.froz hl24 (hz24 0 _ rfl)) _ hE24) fun a w _ hR hF => hK _ _ ?_
       obtain ⟨rfl, hR24, hk26⟩ := hR
       have hS : St _ _ _ _ [[⟨b_p_c, [s1.v, (.int .i64 t_25.2.at_), (.int .u64 t_25.2.seed.v)], 65⟩], q23, [⟨b7, [s5.v], 26⟩], q5, [⟨b2, [nilS.v], 26⟩]] := hS24.leaveF hR24
       have h26 : Rd m3' s1 t_25.2.code := by rw [hk26]; exact h10
       refine ⟨kpN, ?_⟩
       refine e_one 8 (by kernel_rfl) (e_op rfl rfl fun _ hK => wp_buildSlice' (l := ([t_25.1] : List Int)) (cells := [(.int .i64 t_25.1)]) hF hS Try.underlying24 inf3 rfl rfl (by kernel_rfl) rfl rfl rfl ⟨rfl, rfl⟩ rfl rfl fun a w q27 s27 hF hS h27 hb => hK _ _ hb (e_one 9 (by kernel_rfl) ?_))
       have hS : St _ _ _ _ [q5, q27, [⟨b_p_c, [s1.v, (.int .i64 t_25.2.at_), (.int .u64 t_25.2.seed.v)], 65⟩], q23, [⟨b7, [s5.v], 26⟩], [⟨b2, [nilS.v], 26⟩]] := hS.sel [4, 0, 1, 2, 3, 5] (by decide)
       refine e_opl rfl rfl rfl fun _ hK => wp_append hF hS h5 Try.underlying24 inf3 rfl rfl rfl rfl (h27.vw hS (j := 1) rfl) rfl (by decide) hl_28 rfl fun a w q29 s29 hF hS h29 => hK _ _ (⟨kpN, ?_⟩)
       refine e_p (v := (.pointer (some ⟨b7, 0, none⟩))) 10 hF rfl (ex_fieldAddr Try.underlying26 rfl sz24 rfl rfl) rfl rfl (by kernel_rfl) (by kernel_rfl) (by kernel_rfl) fun a hF => e_one 11 (by kernel_rfl) (e_store (vs := [s29.v]) (cs' := [s29.v]) 4 0 hF hS rfl rfl sz24 rfl rfl rfl rfl rfl rfl rfl rfl fun a w hF hS => ⟨kpN, ?_⟩)
       refine e_end (by kernel_rfl) (n_jn ?_) _
       obtain rfl := someI hj8
       exact ⟨q29, s29, _, _, rfl, hF.sub ⟨rfl, rfl, trivial⟩, hS.mask [true, false, true, false, true, true], h26, (hk26.trans (hk10.trans hk6)), h29⟩
      ·refine e_lx (v := s5.v) hF hS rfl (ex_load1 1 0 Try.underlying24 rfl rfl rfl rfl) rfl rfl fun a hF => e_p (v := (.int .i64 (goLen t_4.1.Parents))) 5 hF rfl (ex_len Try.underlying24 rfl h5.len) rfl rfl (by kernel_rfl) (by kernel_rfl) (by kernel_rfl) fun a hF => e_all [1, 6] (by kernel_rfl) rfl ⟨?_, ?_, trivial⟩
       ·refine e_lx (v := s5.v) hF hS rfl (ex_load1 1 0 Try.underlying24 rfl rfl rfl rfl) rfl rfl fun a hF => e_one 6 (by kernel_rfl) (e_op rfl rfl fun _ hK => wp_buildSlice' (l := ([-1, goLen t_4.1.Parents, 0] : List Int)) (cells := [(.int .i64 (-1)), (.int .i64 (goLen t_4.1.Parents)), (.int .i64 0)]) hF hS Try.underlying24 inf3 rfl rfl (by kernel_rfl) rfl rfl rfl ⟨rfl, rfl, rfl, rfl⟩ rfl rfl fun a w q23 s23 hF hS h23 hb => hK _ _ hb (e_one 7 (by kernel_rfl) ?_))
        have hS : St _ _ _ _ [[⟨b_p_c, [s1.v, (.int .i64 t_9.2.at_), (.int .u64 t_9.2.seed.v)], 65⟩], q23, [⟨b7, [s5.v], 26⟩], q5, [⟨b2, [nilS.v], 26⟩]] := hS.sel [1, 0, 2, 3, 4] (by decide)
        have hS24 : St _ _ _ _ ([[⟨b_p_c, [s1.v, (.int .i64 t_9.2.at_), (.int .u64 t_9.2.seed.v)], 65⟩]] ++ [q23, [⟨b7, [s5.v], 26⟩], q5, [⟨b2, [nilS.v], 26⟩]]) := hS
        obtain ⟨m24, hl24, hE24, hz24⟩ := hS24.lendX
        refine e_opl rfl rfl rfl fun _ hK => wp_callX (vs := [(.pointer (some ⟨b_p_c, 0, none⟩)), s23.v]) hF Try.func77 (by kernel_rfl) rfl rfl rfl (c_spec_l1Cur_among t_9.2 ([-1, goLen t_4.1.Parents, 0] : List Int) t_25 ht_25 _ m24 b_p_c s1 (h10.mono hl24) s23 (h23.froz hl24 (hz24 0 _ rfl)) _ hE24) fun a w _ hR hF => hK _ _ ?_
        obtain ⟨rfl, hR24, hk26⟩ := hR
        have hS : St _ _ _ _ [[⟨b_p_c, [s1.v, (.int .i64 t_25.2.at_), (.int .u64 t_25.2.seed.v)], 65⟩], q23, [⟨b7, [s5.v], 26⟩], q5, [⟨b2, [nilS.v], 26⟩]] := hS24.leaveF hR24
        have h26 : Rd m3' s1 t_25.2.code := by rw [hk26]; exact h10
        refine ⟨kpN, ?_⟩
        refine e_one 8 (by kernel_rfl) (e_op rfl rfl fun _ hK => wp_buildSlice' (l := ([t_25.1] : List Int)) (cells := [(.int .i64 t_25.1)]) hF hS Try.underlying24 inf3 rfl rfl (by kernel_rfl) rfl rfl rfl ⟨rfl, rfl⟩ rfl rfl fun a w q27 s27 hF hS h27 hb => hK _ _ hb (e_one 9 (by kernel_rfl) ?_))
        have hS : St _ _ _ _ [q5, q27, [⟨b_p_c, [s1.v, (.int .i64 t_25.2.at_), (.int .u64 t_25.2.seed.v)], 65⟩], q23, [⟨b7, [s5.v], 26⟩], [⟨b2, [nilS.v], 26⟩]] := hS.sel [4, 0, 1, 2, 3, 5] (by decide)
        refine e_opl rfl rfl rfl fun _ hK => wp_append hF hS h5 Try.underlying24 inf3 rfl rfl rfl rfl (h27.vw hS (j := 1) rfl) rfl (by decide) hl_28 rfl fun a w q29 s29 hF hS h29 => hK _ _ (⟨kpN, ?_⟩)
        refine e_p (v := (.pointer (some ⟨b7, 0, none⟩))) 10 hF rfl (ex_fieldAddr Try.underlying26 rfl sz24 rfl rfl) rfl rfl (by kernel_rfl) (by kernel_rfl) (by kernel_rfl) fun a hF => e_one 11 (by kernel_rfl) (e_store (vs := [s29.v]) (cs' := [s29.v]) 4 0 hF hS rfl rfl sz24 rfl rfl rfl rfl rfl rfl rfl rfl fun a w hF hS => ⟨kpN, ?_⟩)
        refine e_end (by kernel_rfl) (n_jn ?_) _
        obtain rfl := someI hj8
        exact ⟨q29, s29, _, _, rfl, hF.sub ⟨rfl, rfl, trivial⟩, hS.mask [true, false, true, false, true, true], h26, (hk26.trans (hk10.trans hk6)), h29⟩
       ·refine e_op rfl rfl fun _ hK => wp_buildSlice' (l := ([-1, goLen t_4.1.Parents, 0] : List Int)) (cells := [(.int .i64 (-1)), (.int .i64 (goLen t_4.1.Parents)), (.int .i64 0)]) hF hS Try.underlying24 inf3 rfl rfl (by kernel_rfl) rfl rfl rfl ⟨rfl, rfl, rfl, rfl⟩ rfl rfl fun a w q23 s23 hF hS h23 hb => hK _ _ hb (e_all [1, 7] (by kernel_rfl) rfl ⟨?_, ?_, trivial⟩)
        ·refine e_lx (v := s5.v) hF hS rfl (ex_load1 2 0 Try.underlying24 rfl rfl rfl rfl) rfl rfl fun a hF => e_one 7 (by kernel_rfl) ?_
         have hS : St _ _ _ _ [[⟨b_p_c, [s1.v, (.int .i64 t_9.2.at_), (.int .u64 t_9.2.seed.v)], 65⟩], q23, [⟨b7, [s5.v], 26⟩], q5, [⟨b2, [nilS.v], 26⟩]] := hS.sel [1, 0, 2, 3, 4] (by decide)
         have hS24 : St _ _ _ _ ([[⟨b_p_c, [s1.v, (.int .i64 t_9.2.at_), (.int .u64 t_9.2.seed.v)], 65⟩]] ++ [q23, [⟨b7, [s5.v], 26⟩], q5, [⟨b2, [nilS.v], 26⟩]]) := hS
         obtain ⟨m24, hl24, hE24, hz24⟩ := hS24.lendX
         refine e_opl rfl rfl rfl fun _ hK => wp_callX (vs := [(.pointer (some ⟨b_p_c, 0, none⟩)), s23.v]) hF Try.func77 (by kernel_rfl) rfl rfl rfl (c_spec_l1Cur_among t_9.2 ([-1, goLen t_4.1.Parents, 0] : List Int) t_25 ht_25 _ m24 b_p_c s1 (h10.mono hl24) s23 (h23.froz hl24 (hz24 0 _ rfl)) _ hE24) fun a w _ hR hF => hK _ _ ?_
         obtain ⟨rfl, hR24, hk26⟩ := hR
         have hS : St _ _ _ _ [[⟨b_p_c, [s1.v, (.int .i64 t_25.2.at_), (.int .u64 t_25.2.seed.v)], 65⟩], q23, [⟨b7, [s5.v], 26⟩], q5, [⟨b2, [nilS.v], 26⟩]] := hS24.leaveF hR24
         have h26 : Rd m3' s1 t_25.2.code := by rw [hk26]; exact h10
         refine ⟨kpN, ?_⟩
         refine e_one 8 (by kernel_rfl) (e_op rfl rfl fun _ hK => wp_buildSlice' (l := ([t_25.1] : List Int)) (cells := [(.int .i64 t_25.1)]) hF hS Try.underlying24 inf3 rfl rfl (by kernel_rfl) rfl rfl rfl ⟨rfl, rfl⟩ rfl rfl fun a w q27 s27 hF hS h27 hb => hK _ _ hb (e_one 9 (by kernel_rfl) ?_))
         have hS : St _ _ _ _ [q5, q27, [⟨b_p_c, [s1.v, (.int .i64 t_25.2.at_), (.int .u64 t_25.2.seed.v)], 65⟩], q23, [⟨b7, [s5.v], 26⟩], [⟨b2, [nilS.v], 26⟩]] := hS.sel [4, 0, 1, 2, 3, 5] (by decide)
         refine e_opl rfl rfl rfl fun _ hK => wp_append hF hS h5 Try.underlying24 inf3 rfl rfl rfl rfl (h27.vw hS (j := 1) rfl) rfl (by decide) hl_28 rfl fun a w q29 s29 hF hS h29 => hK _ _ (⟨kpN, ?_⟩)
         refine e_p (v := (.pointer (some ⟨b7, 0, none⟩))) 10 hF rfl (ex_fieldAddr Try.underlying26 rfl sz24 rfl rfl) rfl rfl (by kernel_rfl) (by kernel_rfl) (by kernel_rfl) fun a hF => e_one 11 (by kernel_rfl) (e_store (vs := [s29.v]) (cs' := [s29.v]) 4 0 hF hS rfl rfl sz24 rfl rfl rfl rfl rfl rfl rfl rfl fun a w hF hS => ⟨kpN, ?_⟩)
         refine e_end (by kernel_rfl) (n_jn ?_) _
         obtain rfl := someI hj8
         exact ⟨q29, s29, _, _, rfl, hF.sub ⟨rfl, rfl, trivial⟩, hS.mask [true, false, true, false, true, true], h26, (hk26.trans (hk10.trans hk6)), h29⟩
        ·have hS : St _ _ _ _ [[⟨b_p_c, [s1.v, (.int .i64 t_9.2.at_), (.int .u64 t_9.2.seed.v)], 65⟩], q23, [⟨b7, [s5.v], 26⟩], q5, [⟨b2, [nilS.v], 26⟩]] := hS.sel [1, 0, 2, 3, 4] (by decide)
         have hS24 : St _ _ _ _ ([[⟨b_p_c, [s1.v, (.int .i64 t_9.2.at_), (.int .u64 t_9.2.seed.v)], 65⟩]] ++ [q23, [⟨b7, [s5.v], 26⟩], q5, [⟨b2, [nilS.v], 26⟩]]) := hS
         obtain ⟨m24, hl24, hE24, hz24⟩ := hS24.lendX
         refine e_opl rfl rfl rfl fun _ hK => wp_callX (vs := [(.pointer (some ⟨b_p_c, 0, none⟩)), s23.v]) hF Try.func77 (by kernel_rfl) rfl rfl rfl (c_spec_l1Cur_among t_9.2 ([-1, goLen t_4.1.Parents, 0] : List Int) t_25 ht_25 _ m24 b_p_c s1 (h10.mono hl24) s23 (h23.froz hl24 (hz24 0 _ rfl)) _ hE24) fun a w _ hR hF => hK _ _ ?_
         obtain ⟨rfl, hR24, hk26⟩ := hR
         have hS : St _ _ _ _ [[⟨b_p_c, [s1.v, (.int .i64 t_25.2.at_), (.int .u64 t_25.2.seed.v)], 65⟩], q23, [⟨b7, [s5.v], 26⟩], q5, [⟨b2, [nilS.v], 26⟩]] := hS24.leaveF hR24
         have h26 : Rd m3' s1 t_25.2.code := by rw [hk26]; exact h10
         refine ⟨kpN, ?_⟩
         refine e_x (v := s5.v) 1 hF hS rfl (ex_load1 2 0 Try.underlying24 rfl rfl rfl rfl) rfl rfl (by kernel_rfl) (by kernel_rfl) (by kernel_rfl) (by kernel_rfl) fun a hF => e_one 8 (by kernel_rfl) (e_op rfl rfl fun _ hK => wp_buildSlice' (l := ([t_25.1] : List Int)) (cells := [(.int .i64 t_25.1)]) hF hS Try.underlying24 inf3 rfl rfl (by kernel_rfl) rfl rfl rfl ⟨rfl, rfl⟩ rfl rfl fun a w q27 s27 hF hS h27 hb => hK _ _ hb (e_one 9 (by kernel_rfl) ?_))
         have hS : St _ _ _ _ [q5, q27, [⟨b_p_c, [s1.v, (.int .i64 t_25.2.at_), (.int .u64 t_25.2.seed.v)], 65⟩], q23, [⟨b7, [s5.v], 26⟩], [⟨b2, [nilS.v], 26⟩]] := hS.sel [4, 0, 1, 2, 3, 5] (by decide)
         refine e_opl rfl rfl rfl fun _ hK => wp_append hF hS h5 Try.underlying24 inf3 rfl rfl rfl rfl (h27.vw hS (j := 1) rfl) rfl (by decide) hl_28 rfl fun a w q29 s29 hF hS h29 => hK _ _ (⟨kpN, ?_⟩)
         refine e_p (v := (.pointer (some ⟨b7, 0, none⟩))) 10 hF rfl (ex_fieldAddr Try.underlying26 rfl sz24 rfl rfl) rfl rfl (by kernel_rfl) (by kernel_rfl) (by kernel_rfl) fun a hF => e_one 11 (by kernel_rfl) (e_store (vs := [s29.v]) (cs' := [s29.v]) 4 0 hF hS rfl rfl sz24 rfl rfl rfl rfl rfl rfl rfl rfl fun a w hF hS => ⟨kpN, ?_⟩)
         refine e_end (by kernel_rfl) (n_jn ?_) _
         obtain rfl := someI hj8
         exact ⟨q29, s29, _, _, rfl, hF.sub ⟨rfl, rfl, trivial⟩, hS.mask [true, false, true, false, true, true], h26, (hk26.trans (hk10.trans hk6)), h29⟩
     ·rintro a w ⟨q33, s33, p_c_30, g_32, rfl, hF, hS, h31, h31k, h33⟩
      refine n_jn ?_
      obtain rfl := someI hj3
      exact ⟨q33, s33, _, _, rfl, hF.sub ⟨rfl, rfl, trivial⟩, hS, h31, h31k, h33⟩
   ·rintro a w ⟨q37, s37, p_c_34, g_36, rfl, hF, hS, h35, h35k, h37⟩
    refine n_jn ?_
    obtain rfl := someI hj1
    exact ⟨q37, s37, _, _, rfl, hF.sub ⟨rfl, rfl, trivial⟩, hS, h35, h35k, h37⟩
  ·have hj1 := cond_t hc2 hj1
   refine q_cond_t hF rfl hc2 (q_region (q_x (v := (.pointer (some ⟨b7, 0, none⟩))) hF hS (ex_fieldAddr Try.underlying26 rfl sz24 rfl rfl) rfl rfl fun a hF => q_x (v := s5.v) hF hS (ex_load1 1 0 Try.underlying24 rfl rfl rfl rfl) rfl rfl fun a hF => ?_))
   obtain ⟨e_38, he_38, hj1⟩ := bindS hj1
   obtain ⟨vs39, at39, d39⟩ := h5.at he_38 1 rfl
   obtain rfl : vs39 = [(.int .i64 e_38)] := d39
   refine q_x (v := (elP s5 ((0 : Int).toNat * 1))) hF hS (ex_indexAddr Try.underlying24 sz3 rfl rfl (h5.idx he_38)) rfl rfl fun a hF => ?_
   have hS : St _ _ _ _ [q5, [⟨b_p_c, [s1.v, (.int .i64 t_9.2.at_), (.int .u64 t_9.2.seed.v)], 65⟩], [⟨b7, [s5.v], 26⟩], [⟨b2, [nilS.v], 26⟩]] := hS.sel [2, 0, 1, 3] (by decide)
   refine q_do rfl fun _ hK => wp_storeE (e' := 0) (us := [(.int .i64 0)]) (vs := [(.int .i64 e_38)]) 0 hF hS h5 sz3 rfl rfl rfl rfl rfl rfl rfl he_38 at39 rfl rfl rfl fun w q40 hS h40 => hK _ _ (q_end (n_jn ?_))
   obtain rfl := someI hj1
   exact ⟨q40, s5, _, _, rfl, hF.sub ⟨rfl, rfl, trivial⟩, hS, h10, (hk10.trans hk6), h40⟩
 ·rintro a w ⟨q44, s44, p_c_41, g_43, rfl, hF, hS, h42, h42k, h44⟩
  refine n_ib (n_sq ?_)
  refine q_seq (q_region (q_x (v := (.agg #[s44.v])) hF hS (ex_loadA (vs := [s44.v]) 2 0 Try.underlying26 rfl sz26 rfl rfl rfl rfl) rfl rfl fun a hF => q_store (vs := [s44.v]) (cs' := [s44.v]) 3 0 hF hS sz26 rfl rfl rfl rfl rfl rfl rfl rfl fun a w hF hS => q_end (n_sq (q_ret ?_))))
  obtain rfl := someI hr
  exact ret_ofX hF hS rfl (.cellA (us := [s44.v]) 3 0 Try.underlying26 rfl sz26 rfl rfl rfl rfl .nil) ⟨m3', q44, s44, rfl, hm3, hS.sel [1, 0] (by decide), h44, h42k⟩

theorem c_spec_l1Cur_of (p_c : spec_l1Cur) (p_list : List (List UInt8)) (r : (List UInt8) × spec_l1Cur) (hr : spec_l1Cur_of p_c p_list = some r) (w0 : World) (m : Mem) (b_p_c : Nat) (s1 : Sl) (h1 : Rd m s1 p_c.code) (s2 : Sl) (h2 : Rd m s2 p_list) (X : List Nat) (hS : St X w0 w0 m [[⟨b_p_c, [s1.v, (.int .i64 p_c.at_), (.int .u64 p_c.seed.v)], 65⟩]]) :
  RetX Try.prog 103 [(.pointer (some ⟨b_p_c, 0, none⟩)), s2.v] w0 (fun v w => v = (strV r.1) ∧ St X w0 w m [[⟨b_p_c, [s1.v, (.int .i64 r.2.at_), (.int .u64 r.2.seed.v)], 65⟩]] ∧ r.2.code = p_c.code) := by
 unfold spec_l1Cur_of at hr
 refine ret_startX Try.func103 rfl 12 rfl rfl fun a hF => q_seq (q_region (q_x (v := (strV ([] : List UInt8))) hF hS (ex_assign rfl) rfl rfl fun a hF => q_end (n_sq (q_seq (q_region (q_x (v := s2.v) hF hS (ex_move rfl) rfl rfl fun a hF => q_x (v := (.pointer (some ⟨b_p_c, 0, none⟩))) hF hS (ex_move rfl) rfl rfl fun a hF => q_x (v := s2.v) hF hS (ex_move rfl) rfl rfl fun a hF => q_x (v := (.int .i64 (goLen p_list))) hF hS (ex_len Try.underlying115 rfl h2.len) rfl rfl fun a hF => ?_))))))
 have hS3 : St _ _ _ _ ([[⟨b_p_c, [s1.v, (.int .i64 p_c.at_), (.int .u64 p_c.seed.v)], 65⟩]] ++ []) := hS
 have hE3 := hS3.enter
 obtain ⟨t_4, ht_4, hr⟩ := bindS hr
 refine q_do rfl fun _ hK => wp_callX (vs := [(.pointer (some ⟨b_p_c, 0, none⟩)), (.int .i64 (goLen p_list))]) hF Try.func53 (by kernel_rfl) rfl rfl rfl (c_spec_l1Cur_pick p_c (goLen p_list) t_4 ht_4 _ m b_p_c s1 h1 _ hE3) fun a w _ hR hF => hK _ _ ?_
 obtain ⟨rfl, hR3, hk5⟩ := hR
 have hS : St _ _ _ _ [[⟨b_p_c, [s1.v, (.int .i64 t_4.2.at_), (.int .u64 t_4.2.seed.v)], 65⟩]] := hS3.leaveF hR3
 have h5 : Rd m s1 t_4.2.code := by rw [hk5]; exact h1
 obtain ⟨e_6, he_6, hr⟩ := bindS hr
 obtain ⟨vs7, at7, d7⟩ := h2.at he_6 1 rfl
 obtain rfl : vs7 = [(strV e_6)] := d7
 refine q_x (v := (elP s2 (t_4.1.toNat * 1))) hF hS (ex_indexAddr Try.underlying115 sz9 rfl rfl (h2.idx he_6)) rfl rfl fun a hF => q_x (v := (strV e_6)) hF hS (ex_loadE1 0 Try.underlying9 rfl rfl ((at7).at) rfl rfl) rfl rfl fun a hF => q_x (v := (strV e_6)) hF hS (ex_assign rfl) rfl rfl fun a hF => q_end (n_sq (q_ret ?_))
 obtain rfl := someI hr
 exact ret_ofX hF hS rfl (.tmp rfl .nil) ⟨rfl, hS.sel [0] (by decide), hk5⟩

theorem c_spec_l1Cur_anySchema (p_c : spec_l1Cur) (r : (List impl_Variable) × spec_l1Cur) (hr : spec_l1Cur_anySchema p_c = some r) (w0 : World) (m : Mem) (b_p_c : Nat) (s1 : Sl) (h1 : Rd m s1 p_c.code) (X : List Nat) (hS : St X w0 w0 m [[⟨b_p_c, [s1.v, (.int .i64 p_c.at_), (.int .u64 p_c.seed.v)], 65⟩]]) :
  RetX Try.prog 88 [(.pointer (some ⟨b_p_c, 0, none⟩))] w0 (fun v w => ∃ (q0' : Piece) (s0' : Sl), v = s0'.v ∧ St X w0 w m [[⟨b_p_c, [s1.v, (.int .i64 r.2.at_), (.int .u64 r.2.seed.v)], 65⟩], q0'] ∧ OwnL m 58 q0' s0' r.1 ∧ r.2.code = p_c.code) := by
 unfold spec_l1Cur_anySchema at hr
 refine ret_startX Try.func88 rfl 46 rfl rfl fun a hF => q_seq (q_region (q_x (v := nilS.v) hF hS (ex_assign rfl) rfl rfl fun a hF => q_end (n_sq (q_seq (q_region (q_x (v := (.pointer (some ⟨b_p_c, 0, none⟩))) hF hS (ex_move rfl) rfl rfl fun a hF => ?_))))))
 have hS2 : St _ _ _ _ ([[⟨b_p_c, [s1.v, (.int .i64 p_c.at_), (.int .u64 p_c.seed.v)], 65⟩]] ++ []) := hS
 have hE2 := hS2.enter
 obtain ⟨t_3, ht_3, hr⟩ := bindS hr
 refine q_do rfl fun _ hK => wp_callX (vs := [(.pointer (some ⟨b_p_c, 0, none⟩))]) hF Try.func101 (by kernel_rfl) rfl rfl rfl (c_spec_l1Cur_schema p_c t_3 ht_3 _ m b_p_c s1 h1 _ hE2) fun a w _ hR hF => hK _ _ ?_
 obtain ⟨q4, s4, rfl, hR2, h4, hk5⟩ := hR
 have hS : St _ _ _ _ [[⟨b_p_c, [s1.v, (.int .i64 t_3.2.at_), (.int .u64 t_3.2.seed.v)], 65⟩], q4] := hS2.leaveF hR2
 have h5 : Rd m s1 t_3.2.code := by rw [hk5]; exact h1
 refine q_x (v := s4.v) hF hS (ex_assign rfl) rfl rfl fun a hF => q_end (n_sq (q_seq (q_seq (q_region (q_x (v := (.pointer (some ⟨b_p_c, 0, none⟩))) hF hS (ex_move rfl) rfl rfl fun a hF => ?_)))))
 have hS6 : St _ _ _ _ ([[⟨b_p_c, [s1.v, (.int .i64 t_3.2.at_), (.int .u64 t_3.2.seed.v)], 65⟩]] ++ [q4]) := hS
 have hE6 := hS6.enter
 obtain ⟨t_7, ht_7, hr⟩ := bindS hr
 refine q_do rfl fun _ hK => wp_callX (vs := [(.pointer (some ⟨b_p_c, 0, none⟩)), (.int .i64 24)]) hF Try.func53 (by kernel_rfl) rfl rfl rfl (c_spec_l1Cur_pick t_3.2 24 t_7 ht_7 _ m b_p_c s1 h5 _ hE6) fun a w _ hR hF => hK _ _ ?_
 obtain ⟨rfl, hR6, hk8⟩ := hR
 have hS : St _ _ _ _ [[⟨b_p_c, [s1.v, (.int .i64 t_7.2.at_), (.int .u64 t_7.2.seed.v)], 65⟩], q4] := hS6.leaveF hR6
 have h8 : Rd m s1 t_7.2.code := by rw [hk8]; exact h5
 refine q_end (n_sq (q_block (q_seq (q_region (q_x (v := (.bool (t_7.1 == 0))) hF hS (ex_ibin rfl rfl rfl) rfl rfl fun a hF => q_x (v := (.bool (t_7.1 == 0))) hF hS (ex_assign rfl) rfl rfl fun a hF => q_end (n_sq ?_))))))
 obtain ⟨j1, hj1, hr⟩ := bindS hr
 refine q_join (fun a w => ∃ (q48 : Piece), ∃ (s48 : Sl), ∃ s_47, ∃ p_c_49, j1 = .inl (s_47, p_c_49) ∧ Fr a 46 [(3, s48.v)] ∧ St X w0 w m [q48, [⟨b_p_c, [s1.v, (.int .i64 p_c_49.at_), (.int .u64 p_c_49.seed.v)], 65⟩]] ∧ OwnL m 58 q48 s48 s_47 ∧ Rd m s1 p_c_49.code ∧ p_c_49.code = p_c.code) ?_ ?_
 ·rcases bcase (t_7.1 == 0) with hc2 | hc2
  ·have hj1 := cond_f hc2 hj1
   refine q_cond_f hF rfl hc2 (q_seq (q_region (q_x (v := (.bool (t_7.1 == 1))) hF hS (ex_ibin rfl rfl rfl) rfl rfl fun a hF => q_x (v := (.bool (t_7.1 == 1))) hF hS (ex_assign rfl) rfl rfl fun a hF => q_end (n_sq ?_))))
   obtain ⟨j3, hj3, hj1⟩ := bindS hj1
   refine q_join (fun a w => ∃ (q37 : Piece), ∃ (s37 : Sl), ∃ s_36, ∃ p_c_38, j3 = .inl (s_36, p_c_38) ∧ Fr a 46 [(3, s37.v)] ∧ St X w0 w m [q37, [⟨b_p_c, [s1.v, (.int .i64 p_c_38.at_), (.int .u64 p_c_38.seed.v)], 65⟩]] ∧ OwnL m 58 q37 s37 s_36 ∧ Rd m s1 p_c_38.code ∧ p_c_38.code = p_c.code) ?_ ?_
   ·rcases bcase (t_7.1 == 1) with hc4 | hc4
    ·have hj3 := cond_f hc4 hj3
     refine q_cond_f hF rfl hc4 (q_seq (q_region (q_x (v := (.bool (t_7.1 == 2))) hF hS (ex_ibin rfl rfl rfl) rfl rfl fun a hF => q_x (v := (.bool (t_7.1 == 2))) hF hS (ex_assign rfl) rfl rfl fun a hF => q_end (n_sq ?_))))
     rcases bcase (t_7.1 == 2) with hc5 | hc5
     ·have hj3 := cond_f hc5 hj3
      refine q_cond_f hF rfl hc5 (q_seq (q_region (q_x (v := (.bool (t_7.1 == 3))) hF hS (ex_ibin rfl rfl rfl) rfl rfl fun a hF => q_x (v := (.bool (t_7.1 == 3))) hF hS (ex_assign rfl) rfl rfl fun a hF => q_end (n_sq ?_))))
      obtain ⟨j6, hj6, hj3⟩ := bindS hj3
      refine q_join (fun a w => ∃ (q26 : Piece), ∃ (s26 : Sl), ∃ s_25, ∃ p_c_27, j6 = (s_25, p_c_27) ∧ Fr a 46 [(3, s26.v)] ∧ St X w0 w m [q26, [⟨b_p_c, [s1.v, (.int .i64 p_c_27.at_), (.int .u64 p_c_27.seed.v)], 65⟩]] ∧ OwnL m 58 q26 s26 s_25 ∧ Rd m s1 p_c_27.code ∧ p_c_27.code = p_c.code) ?_ ?_
      ·rcases bcase (t_7.1 == 3) with hc7 | hc7
       ·have hj6 := cond_f hc7 hj6
        refine q_cond_f hF rfl hc7 (q_skipc (n_jn ?_))
        obtain rfl := someI hj6
        exact ⟨q4, s4, _, _, rfl, hF.sub ⟨rfl, trivial⟩, hS.sel [1, 0] (by decide), h4, h8, (hk8.trans hk5)⟩
       ·have hj6 := cond_t hc7 hj6
        refine q_cond_t hF rfl hc7 (q_block ?_)
        obtain ⟨o8, hl8, hj6⟩ := bindS hj6
        refine q_loop (fun (s : (List impl_Variable) × spec_l1Cur) a w => ∃ (q10 : Piece), ∃ (s10 : Sl), ∃ s_9, ∃ p_c_11, s = (s_9, p_c_11) ∧ Fr a 46 [(0, (.pointer (some ⟨b_p_c, 0, none⟩))), (3, s10.v)] ∧ St X w0 w m [q10, [⟨b_p_c, [s1.v, (.int .i64 p_c_11.at_), (.int .u64 p_c_11.seed.v)], 65⟩]] ∧ OwnL m 58 q10 s10 s_9 ∧ Rd m s1 p_c_11.code ∧ p_c_11.code = p_c.code) (fun (o : (List impl_Variable) × spec_l1Cur) e a w => ∃ (q22 : Piece), ∃ (s22 : Sl), ∃ s_21, ∃ p_c_23, o = (s_21, p_c_23) ∧ e = .exit 1 ∧ Fr a 46 [(3, s22.v)] ∧ St X w0 w m [q22, [⟨b_p_c, [s1.v, (.int .i64 p_c_23.at_), (.int .u64 p_c_23.seed.v)], 65⟩]] ∧ OwnL m 58 q22 s22 s_21 ∧ Rd m s1 p_c_23.code ∧ p_c_23.code = p_c.code) hl8 ⟨q4, s4, _, _, rfl, hF.sub ⟨rfl, rfl, trivial⟩, hS.sel [1, 0] (by decide), h4, h8, (hk8.trans hk5)⟩ ?_ ?_
        ·clear hF hS
         rintro s a w st ⟨q10, s10, s_9, p_c_11, rfl, hF, hS, h10, h12, h12k⟩ hb8
         unfold spec_l1Cur_anySchema_l1 at hb8
         refine q_seq (q_seq (q_region (q_x (v := s10.v) hF hS (ex_move rfl) rfl rfl fun a hF => q_x (v := (.int .i64 (goLen s_9))) hF hS (ex_len Try.underlying27 rfl h10.len) rfl rfl fun a hF => q_x (v := (.pointer (some ⟨b_p_c, 0, none⟩))) hF hS (ex_move rfl) rfl rfl fun a hF => ?_)))
         have hS : St _ _ _ _ [[⟨b_p_c, [s1.v, (.int .i64 p_c_11.at_), (.int .u64 p_c_11.seed.v)], 65⟩], q10] := hS.sel [1, 0] (by decide)
         have hS13 : St _ _ _ _ ([[⟨b_p_c, [s1.v, (.int .i64 p_c_11.at_), (.int .u64 p_c_11.seed.v)], 65⟩]] ++ [q10]) := hS
         have hE13 := hS13.enter
         obtain ⟨t_14, ht_14, hb8⟩ := bindS hb8
         refine q_do rfl fun _ hK => wp_callX (vs := [(.pointer (some ⟨b_p_c, 0, none⟩)), (.int .i64 2)]) hF Try.func53 (by kernel_rfl) rfl rfl rfl (c_spec_l1Cur_pick p_c_11 2 t_14 ht_14 _ m b_p_c s1 h12 _ hE13) fun a w _ hR hF => hK _ _ ?_
         obtain ⟨rfl, hR13, hk15⟩ := hR
         have hS : St _ _ _ _ [[⟨b_p_c, [s1.v, (.int .i64 t_14.2.at_), (.int .u64 t_14.2.seed.v)], 65⟩], q10] := hS13.leaveF hR13
         have h15 : Rd m s1 t_14.2.code := by rw [hk15]; exact h12
         refine q_x (v := (.int .i64 (w64 (6 + t_14.1)))) hF hS (ex_ibin rfl rfl rfl) rfl rfl fun a hF => q_x (v := (.bool (decide ((goLen s_9) < (w64 (6 + t_14.1)))))) hF hS (ex_ibin rfl rfl rfl) rfl rfl fun a hF => q_end (n_sq ?_)
         rcases bcase (decide ((goLen s_9) < (w64 (6 + t_14.1)))) with hc9 | hc9
         ·have hb8 := cond_f hc9 hb8
          refine q_cond_f hF rfl hc9 (q_exit (x_sq ?_))
          obtain rfl := someI hb8
          exact ⟨nofun, .inl ⟨q10, s10, _, _, rfl, rfl, hF.sub ⟨rfl, trivial⟩, hS.sel [1, 0] (by decide), h10, h15, (hk15.trans h12k)⟩⟩
         ·have hb8 := cond_t hc9 hb8
          refine q_cond_t hF rfl hc9 (q_skipc (n_sq (q_block (q_region (q_x (v := s10.v) hF hS (ex_move rfl) rfl rfl fun a hF => q_x (v := s10.v) hF hS (ex_move rfl) rfl rfl fun a hF => q_x (v := (.int .i64 (goLen s_9))) hF hS (ex_len Try.underlying27 rfl h10.len) rfl rfl fun a hF => q_x (v := (.int .i64 (w64 (97 + (goLen s_9))))) hF hS (ex_ibin rfl rfl rfl) rfl rfl fun a hF => q_x (v := (.int .u8 (IntKind.wrap .u8 (w64 (97 + (goLen s_9)))))) hF hS (ex_conv Try.underlying3 Try.underlying5 rfl) rfl rfl fun a hF => q_do rfl fun _ hK => wp_buildSlice' (l := ([(⟨(IntKind.wrap .u8 (w64 (97 + (goLen s_9))))⟩ : K .u8)] : List (K .u8))) (cells := [(.int .u8 (IntKind.wrap .u8 (w64 (97 + (goLen s_9)))))]) hF hS Try.underlying22 inf5 rfl rfl (by kernel_rfl) rfl rfl rfl ⟨rfl, rfl⟩ rfl rfl fun a w q16 s16 hF hS h16 _ => hK _ _ (q_x (v := (strV (goBytes ([(⟨(IntKind.wrap .u8 (w64 (97 + (goLen s_9))))⟩ : K .u8)] : List (K .u8))))) hF hS (ex_toStr Try.underlying22 Try.underlying5 Try.underlying9 rfl (fun X w0 w hS => h16.vw hS (j := 0) rfl)) rfl rfl fun a hF => ?_))))))
          obtain ⟨t_17, ht_17, hb8⟩ := bindS hb8
          refine q_x (v := (strV t_17)) hF hS (ex_strCat rfl rfl ht_17) rfl rfl fun a hF => q_x (v := (.agg #[(strV t_17), (.int .i64 2)])) hF hS (ex_build (cells := [(strV t_17), (.int .i64 2)]) rfl (by kernel_rfl)) rfl rfl fun a hF => q_do rfl fun _ hK => wp_buildSlice' (l := ([(impl_Variable.mk t_17 2)] : List impl_Variable)) (cells := [(strV t_17), (.int .i64 2)]) hF hS Try.underlying27 inf58 rfl rfl (by kernel_rfl) rfl rfl rfl ⟨rfl, rfl⟩ rfl rfl fun a w q18 s18 hF hS h18 _ => hK _ _ ?_
          have hS : St _ _ _ _ [q10, q18, q16, [⟨b_p_c, [s1.v, (.int .i64 t_14.2.at_), (.int .u64 t_14.2.seed.v)], 65⟩]] := hS.sel [3, 0, 1, 2] (by decide)
          obtain ⟨l_19, hl_19, hb8⟩ := bindS hb8
          refine q_do rfl fun _ hK => wp_append hF hS h10 Try.underlying27 inf58 rfl rfl rfl rfl (h18.vw hS (j := 1) rfl) rfl (by decide) hl_19 rfl fun a w q20 s20 hF hS h20 => hK _ _ (q_x (v := s20.v) hF hS (ex_assign rfl) rfl rfl fun a hF => q_end (n_ib ?_))
          obtain rfl := someI hb8
          exact ⟨rfl, q20, s20, _, _, rfl, hF.sub ⟨rfl, rfl, trivial⟩, hS.mask [true, false, false, true], h20, h15, (hk15.trans h12k)⟩
        ·rintro e a w ⟨q22, s22, s_21, p_c_23, rfl, rfl, hF, hS, h22, h24, h24k⟩
         refine x_ib (n_jn ?_)
         obtain rfl := someI hj6
         exact ⟨q22, s22, _, _, rfl, hF.sub ⟨rfl, trivial⟩, hS, h22, h24, h24k⟩
      ·rintro a w ⟨q26, s26, s_25, p_c_27, rfl, hF, hS, h26, h28, h28k⟩
       refine n_jn ?_
       obtain rfl := someI hj3
       exact ⟨q26, s26, _, _, rfl, hF.sub ⟨rfl, trivial⟩, hS, h26, h28, h28k⟩
     ·have hj3 := cond_t hc5 hj3
      refine q_cond_t hF rfl hc5 (q_seq (q_region (q_x (v := nilS.v) hF hS (ex_assign rfl) rfl rfl fun a hF => q_end (n_sq (q_ret (r_jn ?_))))))
      obtain rfl := someI hj3
      refine r_jn ?_
      obtain rfl := someI hj1
      refine r_ib (r_sq ?_)
      obtain rfl := someI hr
      exact ret_ofX hF hS rfl (.tmp rfl .nil) ⟨[], nilS, rfl, hS.sel [0, 2] (by decide), (OwnL.nil (α := impl_Variable) m 58), (hk8.trans hk5)⟩
    ·have hj3 := cond_t hc4 hj3
     refine q_cond_t hF rfl hc4 (q_region (q_x (v := s4.v) hF hS (ex_move rfl) rfl rfl fun a hF => q_x (v := (.pointer (some ⟨b_p_c, 0, none⟩))) hF hS (ex_move rfl) rfl rfl fun a hF => q_do rfl fun _ hK => wp_buildSlice' (l := ([([] : List UInt8), ([65, 103, 101] : List UInt8), ([97, 98, 99, 100, 101, 102, 103, 104, 105] : List UInt8), ([97, 103, 101] : List UInt8), ([97, 98, 32, 99, 100] : List UInt8)] : List (List UInt8))) (cells := [(strV ([] : List UInt8)), (strV ([65, 103, 101] : List UInt8)), (strV ([97, 98, 99, 100, 101, 102, 103, 104, 105] : List UInt8)), (strV ([97, 103, 101] : List UInt8)), (strV ([97, 98, 32, 99, 100] : List UInt8))]) hF hS Try.underlying115 inf9 rfl rfl (by kernel_rfl) rfl rfl rfl ⟨rfl, rfl, rfl, rfl, rfl, rfl⟩ rfl rfl fun a w q29 s29 hF hS h29 _ => hK _ _ ?_))
     have hS : St _ _ _ _ [[⟨b_p_c, [s1.v, (.int .i64 t_7.2.at_), (.int .u64 t_7.2.seed.v)], 65⟩], q29, q4] := hS.sel [1, 0, 2] (by decide)
     have hS30 : St _ _ _ _ ([[⟨b_p_c, [s1.v, (.int .i64 t_7.2.at_), (.int .u64 t_7.2.seed.v)], 65⟩]] ++ [q29, q4]) := hS
     obtain ⟨m30, hl30, hE30, hz30⟩ := hS30.lendX
     obtain ⟨t_31, ht_31, hj3⟩ := bindS hj3
     refine q_do rfl fun _ hK => wp_callX (vs := [(.pointer (some ⟨b_p_c, 0, none⟩)), s29.v]) hF Try.func103 (by kernel_rfl) rfl rfl rfl (c_spec_l1Cur_of t_7.2 ([([] : List UInt8), ([65, 103, 101] : List UInt8), ([97, 98, 99, 100, 101, 102, 103, 104, 105] : List UInt8), ([97, 103, 101] : List UInt8), ([97, 98, 32, 99, 100] : List UInt8)] : List (List UInt8)) t_31 ht_31 _ m30 b_p_c s1 (h8.mono hl30) s29 (h29.froz hl30 (hz30 0 _ rfl)) _ hE30) fun a w _ hR hF => hK _ _ ?_
     obtain ⟨rfl, hR30, hk32⟩ := hR
     have hS : St _ _ _ _ [[⟨b_p_c, [s1.v, (.int .i64 t_31.2.at_), (.int .u64 t_31.2.seed.v)], 65⟩], q29, q4] := hS30.leaveF hR30
     have h32 : Rd m s1 t_31.2.code := by rw [hk32]; exact h8
     obtain ⟨e_33, he_33, hj3⟩ := bindS hj3
     obtain ⟨vs34, at34, d34⟩ := h4.at he_33 2 rfl
     obtain rfl : vs34 = [(strV e_33.Name), (.int .i64 e_33.Levels)] := d34
     refine q_x (v := (elP s4 ((0 : Int).toNat * 2))) hF hS (ex_indexAddr Try.underlying27 sz58 rfl rfl (h4.idx he_33)) rfl rfl fun a hF => q_x (v := (elP s4 ((0 : Int).toNat * 2 + 0))) hF hS (ex_fieldAddrE Try.underlying58 rfl sz9 rfl (h4.idx he_33) rfl) rfl rfl fun a hF => ?_
     have hS : St _ _ _ _ [q4, [⟨b_p_c, [s1.v, (.int .i64 t_31.2.at_), (.int .u64 t_31.2.seed.v)], 65⟩], q29] := hS.sel [2, 0, 1] (by decide)
     refine q_do rfl fun _ hK => wp_storeE (e' := (impl_Variable.mk t_31.1 e_33.Levels)) (us := [(strV t_31.1)]) (vs := [(strV e_33.Name), (.int .i64 e_33.Levels)]) 0 hF hS h4 sz9 rfl rfl rfl rfl rfl rfl rfl he_33 at34 rfl rfl rfl fun w q35 hS h35 => hK _ _ (q_end (n_jn ?_))
     obtain rfl := someI hj3
     exact ⟨q35, s4, _, _, rfl, hF.sub ⟨rfl, trivial⟩, hS.mask [true, true, false], h35, h32, (hk32.trans (hk8.trans hk5))⟩
   ·rintro a w ⟨q37, s37, s_36, p_c_38, rfl, hF, hS, h37, h39, h39k⟩
    refine n_jn ?_
    obtain rfl := someI hj1
    exact ⟨q37, s37, _, _, rfl, hF.sub ⟨rfl, trivial⟩, hS, h37, h39, h39k⟩
  ·have hj1 := cond_t hc2 hj1
   refine q_cond_t hF rfl hc2 (q_region (q_x (v := s4.v) hF hS (ex_move rfl) rfl rfl fun a hF => q_x (v := (.pointer (some ⟨b_p_c, 0, none⟩))) hF hS (ex_move rfl) rfl rfl fun a hF => q_do rfl fun _ hK => wp_buildSlice' (l := ([1, 8, 9] : List Int)) (cells := [(.int .i64 1), (.int .i64 8), (.int .i64 9)]) hF hS Try.underlying24 inf3 rfl rfl (by kernel_rfl) rfl rfl rfl ⟨rfl, rfl, rfl, rfl⟩ rfl rfl fun a w q40 s40 hF hS h40 _ => hK _ _ ?_))
   have hS : St _ _ _ _ [[⟨b_p_c, [s1.v, (.int .i64 t_7.2.at_), (.int .u64 t_7.2.seed.v)], 65⟩], q40, q4] := hS.sel [1, 0, 2] (by decide)
   have hS41 : St _ _ _ _ ([[⟨b_p_c, [s1.v, (.int .i64 t_7.2.at_), (.int .u64 t_7.2.seed.v)], 65⟩]] ++ [q40, q4]) := hS
   obtain ⟨m41, hl41, hE41, hz41⟩ := hS41.lendX
   obtain ⟨t_42, ht_42, hj1⟩ := bindS hj1
   refine q_do rfl fun _ hK => wp_callX (vs := [(.pointer (some ⟨b_p_c, 0, none⟩)), s40.v]) hF Try.func77 (by kernel_rfl) rfl rfl rfl (c_spec_l1Cur_among t_7.2 ([1, 8, 9] : List Int) t_42 ht_42 _ m41 b_p_c s1 (h8.mono hl41) s40 (h40.froz hl41 (hz41 0 _ rfl)) _ hE41) fun a w _ hR hF => hK _ _ ?_
   obtain ⟨rfl, hR41, hk43⟩ := hR
   have hS : St _ _ _ _ [[⟨b_p_c, [s1.v, (.int .i64 t_42.2.at_), (.int .u64 t_42.2.seed.v)], 65⟩], q40, q4] := hS41.leaveF hR41
   have h43 : Rd m s1 t_42.2.code := by rw [hk43]; exact h8
   obtain ⟨e_44, he_44, hj1⟩ := bindS hj1
   obtain ⟨vs45, at45, d45⟩ := h4.at he_44 2 rfl
   obtain rfl : vs45 = [(strV e_44.Name), (.int .i64 e_44.Levels)] := d45
   refine q_x (v := (elP s4 ((0 : Int).toNat * 2))) hF hS (ex_indexAddr Try.underlying27 sz58 rfl rfl (h4.idx he_44)) rfl rfl fun a hF => q_x (v := (elP s4 ((0 : Int).toNat * 2 + 1))) hF hS (ex_fieldAddrE Try.underlying58 rfl sz3 rfl (h4.idx he_44) rfl) rfl rfl fun a hF => ?_
   have hS : St _ _ _ _ [q4, [⟨b_p_c, [s1.v, (.int .i64 t_42.2.at_), (.int .u64 t_42.2.seed.v)], 65⟩], q40] := hS.sel [2, 0, 1] (by decide)
   refine q_do rfl fun _ hK => wp_storeE (e' := (impl_Variable.mk e_44.Name t_42.1)) (us := [(.int .i64 t_42.1)]) (vs := [(strV e_44.Name), (.int .i64 e_44.Levels)]) 1 hF hS h4 sz3 rfl rfl rfl rfl rfl rfl rfl he_44 at45 rfl rfl rfl fun w q46 hS h46 => hK _ _ (q_end (n_jn ?_))
   obtain rfl := someI hj1
   exact ⟨q46, s4, _, _, rfl, hF.sub ⟨rfl, trivial⟩, hS.mask [true, true, false], h46, h43, (hk43.trans (hk8.trans hk5))⟩
 ·rintro a w ⟨q48, s48, s_47, p_c_49, rfl, hF, hS, h48, h50, h50k⟩
  refine n_ib (n_sq ?_)
  refine q_seq (q_region (q_x (v := s48.v) hF hS (ex_move rfl) rfl rfl fun a hF => q_x (v := s48.v) hF hS (ex_assign rfl) rfl rfl fun a hF => q_end (n_sq (q_ret ?_))))
  obtain rfl := someI hr
  exact ret_ofX hF hS rfl (.tmp rfl .nil) ⟨q48, s48, rfl, hS.sel [1, 0] (by decide), h48, h50k⟩

theorem c_spec_l1Cur_anySurvey (p_c : spec_l1Cur) (r : impl_Geo × (List impl_Variable) × (List impl_Record) × spec_l1Cur) (hr : spec_l1Cur_anySurvey p_c = some r) (w0 : World) (m : Mem) (b_p_c : Nat) (s1 : Sl) (h1 : Rd m s1 p_c.code) (X : List Nat) (hS : St X w0 w0 m [[⟨b_p_c, [s1.v, (.int .i64 p_c.at_), (.int .u64 p_c.seed.v)], 65⟩]]) :
  RetX Try.prog 54 [(.pointer (some ⟨b_p_c, 0, none⟩))] w0 (fun v w => ∃ (m' : Mem) (q0' : Piece) (q2' : Piece) (s0' : Sl) (s1' : Sl) (s2' : Sl), v = (.tuple #[(.agg #[s0'.v]), s1'.v, s2'.v]) ∧ MLe X w0.heap.size m m' ∧ St X w0 w m' [[⟨b_p_c, [s1.v, (.int .i64 r.2.2.2.at_), (.int .u64 r.2.2.2.seed.v)], 65⟩], q0', q2'] ∧ OwnL m' 3 q0' s0' r.1.Parents ∧ Rd m' s1' r.2.1 ∧ OwnL m' 106 q2' s2' r.2.2.1 ∧ r.2.2.2.code = p_c.code) := by
 unfold spec_l1Cur_anySurvey at hr
 refine ret_startX Try.func54 rfl 43 rfl rfl fun a hF => q_seq (q_region (q_alloc (cs := [nilS.v]) hF hS rfl rfl rfl fun a w b2 hF hS => q_x (v := nilS.v) hF hS (ex_assign rfl) rfl rfl fun a hF => q_x (v := nilS.v) hF hS (ex_assign rfl) rfl rfl fun a hF => q_end (n_sq (q_seq (q_region (q_x (v := (.pointer (some ⟨b_p_c, 0, none⟩))) hF hS (ex_move rfl) rfl rfl fun a hF => ?_))))))
 have hS : St _ _ _ _ [[⟨b_p_c, [s1.v, (.int .i64 p_c.at_), (.int .u64 p_c.seed.v)], 65⟩], [⟨b2, [nilS.v], 26⟩]] := hS.sel [1, 0] (by decide)
 have hS3 : St _ _ _ _ ([[⟨b_p_c, [s1.v, (.int .i64 p_c.at_), (.int .u64 p_c.seed.v)], 65⟩]] ++ [[⟨b2, [nilS.v], 26⟩]]) := hS
 have hE3 := hS3.enter
 obtain ⟨t_4, ht_4, hr⟩ := bindS hr
 refine q_do rfl fun _ hK => wp_callX (vs := [(.pointer (some ⟨b_p_c, 0, none⟩))]) hF Try.func86 (by kernel_rfl) rfl rfl rfl (c_spec_l1Cur_survey p_c t_4 ht_4 _ m b_p_c s1 h1 _ hE3) fun a w _ hR hF => hK _ _ ?_
 obtain ⟨m3', q5, q7, s5, s6, s7, rfl, hm3, hR3, h5, h6, h7, hk8⟩ := hR
 have hS : St _ _ _ _ [[⟨b_p_c, [s1.v, (.int .i64 t_4.2.2.2.at_), (.int .u64 t_4.2.2.2.seed.v)], 65⟩], q5, q7, [⟨b2, [nilS.v], 26⟩]] := hS3.leave hR3 hm3
 have hm3 := MLe.weakX hS3 hm3
 have h8 : Rd m3' s1 t_4.2.2.2.code := by rw [hk8]; exact (h1.mono hm3.le)
 refine q_x (v := (.tuple #[(.agg #[s5.v]), s6.v, s7.v])) hF hS (ex_move rfl) rfl rfl fun a hF => q_x (v := (.agg #[s5.v])) hF hS (ex_extract rfl rfl) rfl rfl fun a hF => q_x (v := s6.v) hF hS (ex_extract rfl rfl) rfl rfl fun a hF => q_x (v := s7.v) hF hS (ex_extract rfl rfl) rfl rfl fun a hF => q_alloc (cs := [nilS.v]) hF hS rfl rfl rfl fun a w b9 hF hS => q_store (vs := [s5.v]) (cs' := [s5.v]) 0 0 hF hS sz26 rfl rfl rfl rfl rfl rfl rfl rfl fun a w hF hS => q_x (v := s6.v) hF hS (ex_assign rfl) rfl rfl fun a hF => q_x (v := s7.v) hF hS (ex_assign rfl) rfl rfl fun a hF => q_end (n_sq (q_seq (q_seq (q_region (q_x (v := (.pointer (some ⟨b_p_c, 0, none⟩))) hF hS (ex_move rfl) rfl rfl fun a hF => ?_)))))
 have hS : St _ _ _ _ [[⟨b_p_c, [s1.v, (.int .i64 t_4.2.2.2.at_), (.int .u64 t_4.2.2.2.seed.v)], 65⟩], [⟨b9, [s5.v], 26⟩], q5, q7, [⟨b2, [nilS.v], 26⟩]] := hS.sel [1, 0, 2, 3, 4] (by decide)
 have hS10 : St _ _ _ _ ([[⟨b_p_c, [s1.v, (.int .i64 t_4.2.2.2.at_), (.int .u64 t_4.2.2.2.seed.v)], 65⟩]] ++ [[⟨b9, [s5.v], 26⟩], q5, q7, [⟨b2, [nilS.v], 26⟩]]) := hS
 have hE10 := hS10.enter
 obtain ⟨t_11, ht_11, hr⟩ := bindS hr
 refine q_do rfl fun _ hK => wp_callX (vs := [(.pointer (some ⟨b_p_c, 0, none⟩)), (.int .i64 20)]) hF Try.func53 (by kernel_rfl) rfl rfl rfl (c_spec_l1Cur_pick t_4.2.2.2 20 t_11 ht_11 _ m3' b_p_c s1 h8 _ hE10) fun a w _ hR hF => hK _ _ ?_
 obtain ⟨rfl, hR10, hk12⟩ := hR
 have hS : St _ _ _ _ [[⟨b_p_c, [s1.v, (.int .i64 t_11.2.at_), (.int .u64 t_11.2.seed.v)], 65⟩], [⟨b9, [s5.v], 26⟩], q5, q7, [⟨b2, [nilS.v], 26⟩]] := hS10.leaveF hR10
 have h12 : Rd m3' s1 t_11.2.code := by rw [hk12]; exact h8
 refine q_end (n_sq (q_block (q_seq (q_region (q_x (v := (.bool (t_11.1 == 0))) hF hS (ex_ibin rfl rfl rfl) rfl rfl fun a hF => q_x (v := (.bool (t_11.1 == 0))) hF hS (ex_assign rfl) rfl rfl fun a hF => q_end (n_sq ?_))))))
 rcases bcase (t_11.1 == 0) with hc1 | hc1
 ·have hr := cond_f hc1 hr
  refine q_cond_f hF rfl hc1 (q_seq (q_region (q_x (v := (.bool (t_11.1 == 1))) hF hS (ex_ibin rfl rfl rfl) rfl rfl fun a hF => q_x (v := (.bool (t_11.1 == 1))) hF hS (ex_assign rfl) rfl rfl fun a hF => q_end (n_sq ?_))))
  rcases bcase (t_11.1 == 1) with hc2 | hc2
  ·have hr := cond_f hc2 hr
   refine q_cond_f hF rfl hc2 (q_seq (q_region (q_x (v := (.bool (t_11.1 == 2))) hF hS (ex_ibin rfl rfl rfl) rfl rfl fun a hF => q_x (v := (.bool (t_11.1 == 2))) hF hS (ex_assign rfl) rfl rfl fun a hF => q_end (n_sq ?_))))
   obtain ⟨j3, hj3, hr⟩ := bindS hr
   refine q_join (fun a w => ∃ (m29 : Mem), ∃ (q26 : Piece), ∃ (s26 : Sl), ∃ l_25, ∃ p_c_27, j3 = (l_25, p_c_27) ∧ Fr a 43 [(2, (.pointer (some ⟨b2, 0, none⟩))), (5, (.pointer (some ⟨b9, 0, none⟩))), (6, s6.v), (7, s26.v)] ∧ St X w0 w m29 [q26, q5, [⟨b_p_c, [s1.v, (.int .i64 p_c_27.at_), (.int .u64 p_c_27.seed.v)], 65⟩], [⟨b9, [s5.v], 26⟩], [⟨b2, [nilS.v], 26⟩]] ∧ MLe X w0.heap.size m3' m29 ∧ OwnL m29 106 q26 s26 l_25 ∧ Rd m29 s1 p_c_27.code ∧ p_c_27.code = p_c.code) ?_ ?_
   ·rcases bcase (t_11.1 == 2) with hc4 | hc4
    ·have hj3 := cond_f hc4 hj3
     refine q_cond_f hF rfl hc4 (q_skipc (n_jn ?_))
     obtain rfl := someI hj3
     exact ⟨m3', q7, s7, _, _, rfl, hF.sub ⟨rfl, rfl, rfl, rfl, trivial⟩, hS.sel [3, 2, 0, 1, 4] (by decide), (MLe.refl _ _), h7, h12, (hk12.trans hk8)⟩
    ·have hj3 := cond_t hc4 hj3
     refine q_cond_t hF rfl hc4 (q_region (q_x (v := s7.v) hF hS (ex_move rfl) rfl rfl fun a hF => q_x (v := (.pointer (some ⟨b_p_c, 0, none⟩))) hF hS (ex_move rfl) rfl rfl fun a hF => q_do rfl fun _ hK => wp_buildSlice' (l := ([0, 29, -1] : List Int)) (cells := [(.int .i64 0), (.int .i64 29), (.int .i64 (-1))]) hF hS Try.underlying24 inf3 rfl rfl (by kernel_rfl) rfl rfl rfl ⟨rfl, rfl, rfl, rfl⟩ rfl rfl fun a w q13 s13 hF hS h13 _ => hK _ _ ?_))
     have hS : St _ _ _ _ [[⟨b_p_c, [s1.v, (.int .i64 t_11.2.at_), (.int .u64 t_11.2.seed.v)], 65⟩], q13, [⟨b9, [s5.v], 26⟩], q5, q7, [⟨b2, [nilS.v], 26⟩]] := hS.sel [1, 0, 2, 3, 4, 5] (by decide)
     have hS14 : St _ _ _ _ ([[⟨b_p_c, [s1.v, (.int .i64 t_11.2.at_), (.int .u64 t_11.2.seed.v)], 65⟩]] ++ [q13, [⟨b9, [s5.v], 26⟩], q5, q7, [⟨b2, [nilS.v], 26⟩]]) := hS
     obtain ⟨m14, hl14, hE14, hz14⟩ := hS14.lendX
     obtain ⟨t_15, ht_15, hj3⟩ := bindS hj3
     refine q_do rfl fun _ hK => wp_callX (vs := [(.pointer (some ⟨b_p_c, 0, none⟩)), s13.v]) hF Try.func77 (by kernel_rfl) rfl rfl rfl (c_spec_l1Cur_among t_11.2 ([0, 29, -1] : List Int) t_15 ht_15 _ m14 b_p_c s1 (h12.mono hl14) s13 (h13.froz hl14 (hz14 0 _ rfl)) _ hE14) fun a w _ hR hF => hK _ _ ?_
     obtain ⟨rfl, hR14, hk16⟩ := hR
     have hS : St _ _ _ _ [[⟨b_p_c, [s1.v, (.int .i64 t_15.2.at_), (.int .u64 t_15.2.seed.v)], 65⟩], q13, [⟨b9, [s5.v], 26⟩], q5, q7, [⟨b2, [nilS.v], 26⟩]] := hS14.leaveF hR14
     have h16 : Rd m3' s1 t_15.2.code := by rw [hk16]; exact h12
     refine q_x (v := (.pointer (some ⟨b_p_c, 0, none⟩))) hF hS (ex_move rfl) rfl rfl fun a hF => q_x (v := s6.v) hF hS (ex_move rfl) rfl rfl fun a hF => ?_
     have hS17 : St _ _ _ _ ([[⟨b_p_c, [s1.v, (.int .i64 t_15.2.at_), (.int .u64 t_15.2.seed.v)], 65⟩]] ++ [q13, [⟨b9, [s5.v], 26⟩], q5, q7, [⟨b2, [nilS.v], 26⟩]]) := hS
     have hE17 := hS17.enter
     obtain ⟨t_18, ht_18, hj3⟩ := bindS hj3
     refine q_do rfl fun _ hK => wp_callX (vs := [(.pointer (some ⟨b_p_c, 0, none⟩)), s6.v]) hF Try.func89 (by kernel_rfl) rfl rfl rfl (c_spec_l1Cur_values t_15.2 t_4.2.1 t_18 ht_18 _ m3' b_p_c s1 h16 s6 h6 _ hE17) fun a w _ hR hF => hK _ _ ?_
     obtain ⟨q19, s19, rfl, hR17, h19, hk20⟩ := hR
     have hS : St _ _ _ _ [[⟨b_p_c, [s1.v, (.int .i64 t_18.2.at_), (.int .u64 t_18.2.seed.v)], 65⟩], q19, q13, [⟨b9, [s5.v], 26⟩], q5, q7, [⟨b2, [nilS.v], 26⟩]] := hS17.leaveF hR17
     have h20 : Rd m3' s1 t_18.2.code := by rw [hk20]; exact h16
     refine q_x (v := (.agg #[(.int .i64 t_15.1), (.int .i64 0), s19.v])) hF hS (ex_build (cells := [(.int .i64 t_15.1), (.int .i64 0), s19.v]) rfl (by kernel_rfl)) rfl rfl fun a hF => ?_
     have hS : St _ _ _ _ [q19, [⟨b_p_c, [s1.v, (.int .i64 t_18.2.at_), (.int .u64 t_18.2.seed.v)], 65⟩], q13, [⟨b9, [s5.v], 26⟩], q5, q7, [⟨b2, [nilS.v], 26⟩]] := hS.sel [1, 0, 2, 3, 4, 5, 6] (by decide)
     obtain ⟨m22, hm22, hS, hz22⟩ := hS.freeze
     have h22 := h19.froz hm22.le hz22
     refine q_do rfl fun _ hK => wp_buildSlice' (l := ([(impl_Record.mk t_15.1 0 t_18.1)] : List impl_Record)) (cells := [(.int .i64 t_15.1), (.int .i64 0), s19.v]) hF hS Try.underlying78 inf106 rfl rfl (by kernel_rfl) rfl rfl rfl ⟨⟨s19, rfl, h22⟩, rfl⟩ rfl rfl fun a w q21 s21 hF hS h21 _ => hK _ _ ?_
     have hS : St _ _ _ _ [q7, q21, [⟨b_p_c, [s1.v, (.int .i64 t_18.2.at_), (.int .u64 t_18.2.seed.v)], 65⟩], q13, [⟨b9, [s5.v], 26⟩], q5, [⟨b2, [nilS.v], 26⟩]] := hS.sel [5, 0, 1, 2, 3, 4, 6] (by decide)
     obtain ⟨l_23, hl_23, hj3⟩ := bindS hj3
     refine q_do rfl fun _ hK => wp_append hF hS (h7.mono hm22.le) Try.underlying78 inf106 rfl rfl rfl rfl (h21.vw hS (j := 1) rfl) rfl (by decide) hl_23 rfl fun a w q24 s24 hF hS h24 => hK _ _ (q_x (v := s24.v) hF hS (ex_assign rfl) rfl rfl fun a hF => q_end (n_jn ?_))
     obtain rfl := someI hj3
     exact ⟨m22, q24, s24, _, _, rfl, hF.sub ⟨rfl, rfl, rfl, rfl, trivial⟩, hS.sel [0, 5, 2, 4, 6] (by decide), hm22, h24, (h20.mono hm22.le), (hk20.trans (hk16.trans (hk12.trans hk8)))⟩
   ·rintro a w ⟨m29, q26, s26, l_25, p_c_27, rfl, hF, hS, hm29, h26, h28, h28k⟩
    refine n_ib (n_sq ?_)
    refine q_seq (q_region (q_x (v := (.agg #[s5.v])) hF hS (ex_loadA (vs := [s5.v]) 3 0 Try.underlying26 rfl sz26 rfl rfl rfl rfl) rfl rfl fun a hF => q_x (v := s6.v) hF hS (ex_move rfl) rfl rfl fun a hF => q_x (v := s26.v) hF hS (ex_move rfl) rfl rfl fun a hF => q_store (vs := [s5.v]) (cs' := [s5.v]) 4 0 hF hS sz26 rfl rfl rfl rfl rfl rfl rfl rfl fun a w hF hS => q_x (v := s6.v) hF hS (ex_assign rfl) rfl rfl fun a hF => q_x (v := s26.v) hF hS (ex_assign rfl) rfl rfl fun a hF => q_end (n_sq (q_ret ?_))))
    obtain rfl := someI hr
    exact ret_ofX hF hS rfl (.cellA (us := [s5.v]) 4 0 Try.underlying26 rfl sz26 rfl rfl rfl rfl (.tmp rfl (.tmp rfl .nil))) ⟨m29, q5, q26, s5, s6, s26, rfl, (hm3.trans hm29), hS.sel [2, 1, 0] (by decide), (h5.mono hm29.le), (h6.mono hm29.le), h26, h28k⟩
  ·have hr := cond_t hc2 hr
   refine q_cond_t hF rfl hc2 (q_seq (e_region ⟨[2, 4], [b9]⟩ mixed fun w' hw' => ?_))
   have hS := hS.below hw'
   refine e_xb (v := (.agg #[s5.v])) 0 1 hF hS (.head _) rfl rfl (ex_loadA (vs := [s5.v]) 0 0 Try.underlying26 rfl sz26 rfl rfl rfl rfl) rfl rfl (by kernel_rfl) (by kernel_rfl) (by kernel_rfl) fun a hF => e_p (v := (.pointer (some ⟨b_p_c, 0, none⟩))) 1 hF rfl (ex_move rfl) rfl rfl (by kernel_rfl) (by kernel_rfl) (by kernel_rfl) fun a hF => e_p (v := s7.v) 3 hF rfl (ex_move rfl) rfl rfl (by kernel_rfl) (by kernel_rfl) (by kernel_rfl) fun a hF => e_one 2 (by kernel_rfl) ?_
   have hS34 : St _ _ _ _ ([[⟨b_p_c, [s1.v, (.int .i64 t_11.2.at_), (.int .u64 t_11.2.seed.v)], 65⟩]] ++ [[⟨b9, [s5.v], 26⟩], q5, q7, [⟨b2, [nilS.v], 26⟩]]) := hS
   have hE34 := hS34.enter
   obtain ⟨t_35, ht_35, hr⟩ := bindS hr
   have hSo := hS
   refine e_opl rfl rfl rfl fun _ hK => wp_callX (vs := [(.pointer (some ⟨b_p_c, 0, none⟩))]) hF Try.func88 (by kernel_rfl) rfl rfl rfl (c_spec_l1Cur_anySchema t_11.2 t_35 ht_35 _ m3' b_p_c s1 h12 _ hE34) fun a w _ hR hF => hK _ _ ?_
   obtain ⟨q36, s36, rfl, hR34, h36, hk37⟩ := hR
   have hS : St _ _ _ _ [[⟨b_p_c, [s1.v, (.int .i64 t_35.2.at_), (.int .u64 t_35.2.seed.v)], 65⟩], q36, [⟨b9, [s5.v], 26⟩], q5, q7, [⟨b2, [nilS.v], 26⟩]] := hS34.leaveF hR34
   have h37 : Rd m3' s1 t_35.2.code := by rw [hk37]; exact h12
   refine ⟨kpC hSo hS 1 2 rfl rfl kpN, ?_⟩
   refine e_one 4 (by kernel_rfl) ?_
   have hSo := hS
   refine e_store (vs := [s5.v]) (cs' := [s5.v]) 5 0 hF hS rfl rfl sz26 rfl rfl rfl rfl rfl rfl rfl rfl fun a w hF hS => ⟨kpC hSo hS 2 2 rfl rfl kpN, ?_⟩
   refine e_p (v := s36.v) 5 hF rfl (ex_assign rfl) rfl rfl (by kernel_rfl) (by kernel_rfl) (by kernel_rfl) fun a hF => e_p (v := s7.v) 6 hF rfl (ex_assign rfl) rfl rfl (by kernel_rfl) (by kernel_rfl) (by kernel_rfl) fun a hF => e_end (by kernel_rfl) (n_sq (q_ret (r_ib (r_sq ?_)))) _
   obtain rfl := someI hr
   have hS : St _ _ _ _ [q36, [⟨b_p_c, [s1.v, (.int .i64 t_35.2.at_), (.int .u64 t_35.2.seed.v)], 65⟩], [⟨b9, [s5.v], 26⟩], q5, q7, [⟨b2, [s5.v], 26⟩]] := hS.sel [1, 0, 2, 3, 4, 5] (by decide)
   obtain ⟨m38, hm38, hS, hz38⟩ := hS.freeze
   have h38 := h36.froz hm38.le hz38
   exact ret_ofX hF hS rfl (.cellA (us := [s5.v]) 4 0 Try.underlying26 rfl sz26 rfl rfl rfl rfl (.tmp rfl (.tmp rfl .nil))) ⟨m38, q5, q7, s5, s36, s7, rfl, (hm3.trans hm38), hS.sel [0, 2, 3] (by decide), (h5.mono hm38.le), h38, (h7.mono hm38.le), (hk37.trans (hk12.trans hk8))⟩
 ·have hr := cond_t hc1 hr
  refine q_cond_t hF rfl hc1 (q_seq (q_region (q_x (v := (.pointer (some ⟨b_p_c, 0, none⟩))) hF hS (ex_move rfl) rfl rfl fun a hF => ?_)))
  have hS39 : St _ _ _ _ ([[⟨b_p_c, [s1.v, (.int .i64 t_11.2.at_), (.int .u64 t_11.2.seed.v)], 65⟩]] ++ [[⟨b9, [s5.v], 26⟩], q5, q7, [⟨b2, [nilS.v], 26⟩]]) := hS
  have hE39 := hS39.enter
  obtain ⟨t_40, ht_40, hr⟩ := bindS hr
  refine q_do rfl fun _ hK => wp_callX (vs := [(.pointer (some ⟨b_p_c, 0, none⟩))]) hF Try.func87 (by kernel_rfl) rfl rfl rfl (c_spec_l1Cur_anyGeo t_11.2 t_40 ht_40 _ m3' b_p_c s1 h12 _ hE39) fun a w _ hR hF => hK _ _ ?_
  obtain ⟨m39', q41, s41, rfl, hm39, hR39, h41, hk42⟩ := hR
  have hS : St _ _ _ _ [[⟨b_p_c, [s1.v, (.int .i64 t_40.2.at_), (.int .u64 t_40.2.seed.v)], 65⟩], q41, [⟨b9, [s5.v], 26⟩], q5, q7, [⟨b2, [nilS.v], 26⟩]] := hS39.leave hR39 hm39
  have hm39 := MLe.weakX hS39 hm39
  have h42 : Rd m39' s1 t_40.2.code := by rw [hk42]; exact (h12.mono hm39.le)
  refine q_x (v := s6.v) hF hS (ex_move rfl) rfl rfl fun a hF => q_x (v := s7.v) hF hS (ex_move rfl) rfl rfl fun a hF => q_store (vs := [s41.v]) (cs' := [s41.v]) 5 0 hF hS sz26 rfl rfl rfl rfl rfl rfl rfl rfl fun a w hF hS => q_x (v := s6.v) hF hS (ex_assign rfl) rfl rfl fun a hF => q_x (v := s7.v) hF hS (ex_assign rfl) rfl rfl fun a hF => q_end (n_sq (q_ret (r_ib (r_sq ?_))))
  obtain rfl := someI hr
  exact ret_ofX hF hS rfl (.cellA (us := [s41.v]) 5 0 Try.underlying26 rfl sz26 rfl rfl rfl rfl (.tmp rfl (.tmp rfl .nil))) ⟨m39', q41, q7, s41, s6, s7, rfl, (hm3.trans hm39), hS.sel [0, 1, 4] (by decide), h41, (h6.mono hm39.le), (h7.mono hm39.le), (hk42.trans (hk12.trans hk8))⟩

theorem c_spec_l1Cur_where (p_c : spec_l1Cur) (p_s : List impl_Variable) (r : (List Int) × spec_l1Cur) (hr : spec_l1Cur_where p_c p_s = some r) (w0 : World) (m : Mem) (b_p_c : Nat) (s1 : Sl) (h1 : Rd m s1 p_c.code) (s2 : Sl) (h2 : Rd m s2 p_s) (X : List Nat) (hS : St X w0 w0 m [[⟨b_p_c, [s1.v, (.int .i64 p_c.at_), (.int .u64 p_c.seed.v)], 65⟩]]) :
  RetX Try.prog 99 [(.pointer (some ⟨b_p_c, 0, none⟩)), s2.v] w0 (fun v w => ∃ (q0' : Piece) (s0' : Sl), v = s0'.v ∧ St X w0 w m [[⟨b_p_c, [s1.v, (.int .i64 r.2.at_), (.int .u64 r.2.seed.v)], 65⟩], q0'] ∧ OwnL m 3 q0' s0' r.1 ∧ r.2.code = p_c.code) := by
 unfold spec_l1Cur_where at hr
 refine ret_startX Try.func99 rfl 31 rfl rfl fun a hF => q_seq (q_region (q_x (v := nilS.v) hF hS (ex_assign rfl) rfl rfl fun a hF => q_end (n_sq (q_seq (q_region (q_x (v := nilS.v) hF hS (ex_assign rfl) rfl rfl fun a hF => q_end (n_sq (q_seq (q_seq (q_region (q_x (v := s2.v) hF hS (ex_move rfl) rfl rfl fun a hF => q_x (v := (.int .i64 (goLen p_s))) hF hS (ex_len Try.underlying27 rfl h2.len) rfl rfl fun a hF => q_x (v := (.int .i64 0)) hF hS (ex_move rfl) rfl rfl fun a hF => q_end (n_sq (q_block ?_)))))))))))))
 obtain ⟨o1, hl1, hr⟩ := bindS hr
 refine q_loop (fun (s : (List Int) × Int × spec_l1Cur) a w => ∃ (q4 : Piece), ∃ (s4 : Sl), ∃ out_3, ∃ t_5, ∃ p_c_6, s = (out_3, t_5, p_c_6) ∧ Fr a 31 [(0, (.pointer (some ⟨b_p_c, 0, none⟩))), (5, s4.v), (9, s2.v), (10, (.int .i64 (goLen p_s))), (11, (.int .i64 t_5))] ∧ St X w0 w m [q4, [⟨b_p_c, [s1.v, (.int .i64 p_c_6.at_), (.int .u64 p_c_6.seed.v)], 65⟩]] ∧ OwnL m 3 q4 s4 out_3 ∧ Rd m s1 p_c_6.code ∧ p_c_6.code = p_c.code) (fun (o : (List Int) × spec_l1Cur) e a w => ∃ (q25 : Piece), ∃ (s25 : Sl), ∃ out_24, ∃ p_c_26, o = (out_24, p_c_26) ∧ e = .exit 0 ∧ Fr a 31 [(5, s25.v)] ∧ St X w0 w m [q25, [⟨b_p_c, [s1.v, (.int .i64 p_c_26.at_), (.int .u64 p_c_26.seed.v)], 65⟩]] ∧ OwnL m 3 q25 s25 out_24 ∧ Rd m s1 p_c_26.code ∧ p_c_26.code = p_c.code) hl1 ⟨[], nilS, _, _, _, rfl, hF.sub ⟨rfl, rfl, rfl, rfl, rfl, trivial⟩, hS.sel [1, 0] (by decide), (OwnL.nil (α := Int) m 3), h1, rfl⟩ ?_ ?_
 ·clear hF hS
  rintro s a w st ⟨q4, s4, out_3, t_5, p_c_6, rfl, hF, hS, h4, h7, h7k⟩ hb1
  unfold spec_l1Cur_where_l1 at hb1
  refine q_seq (q_region (q_x (v := (.bool (decide (t_5 < (goLen p_s))))) hF hS (ex_ibin rfl rfl rfl) rfl rfl fun a hF => q_end (n_sq (q_seq ?_))))
  rcases bcase (decide (t_5 < (goLen p_s))) with hc2 | hc2
  ·have hb1 := cond_f hc2 hb1
   refine q_cond_f hF rfl hc2 (q_exit (x_sq ?_))
   obtain rfl := someI hb1
   exact ⟨nofun, .inl ⟨q4, s4, _, _, rfl, rfl, hF.sub ⟨rfl, trivial⟩, hS, h4, h7, h7k⟩⟩
  ·have hb1 := cond_t hc2 hb1
   refine q_cond_t hF rfl hc2 (q_skipc (n_sq (q_seq (q_block (q_seq (q_region ?_))))))
   obtain ⟨e_8, he_8, hb1⟩ := bindS hb1
   obtain ⟨vs9, at9, d9⟩ := h2.at he_8 2 rfl
   obtain rfl : vs9 = [(strV e_8.Name), (.int .i64 e_8.Levels)] := d9
   refine q_x (v := (elP s2 (t_5.toNat * 2))) hF hS (ex_indexAddr Try.underlying27 sz58 rfl rfl (h2.idx he_8)) rfl rfl fun a hF => q_x (v := (.agg #[(strV e_8.Name), (.int .i64 e_8.Levels)])) hF hS (ex_loadEA (us := [(strV e_8.Name), (.int .i64 e_8.Levels)]) 0 Try.underlying58 rfl sz58 rfl ((at9).at) rfl rfl rfl) rfl rfl fun a hF => q_alloc (cs := [(strV ([] : List UInt8)), (.int .i64 0)]) hF hS rfl rfl rfl fun a w b10 hF hS => q_store (vs := [(strV e_8.Name), (.int .i64 e_8.Levels)]) (cs' := [(strV e_8.Name), (.int .i64 e_8.Levels)]) 0 0 hF hS sz58 rfl rfl rfl rfl rfl rfl rfl rfl fun a w hF hS => q_end (n_sq (q_seq (q_region (q_x (v := (.int .i64 0)) hF hS (ex_assign rfl) rfl rfl fun a hF => q_end (n_sq (q_seq (q_seq (q_region (q_x (v := (.pointer (some ⟨b_p_c, 0, none⟩))) hF hS (ex_move rfl) rfl rfl fun a hF => ?_)))))))))
   have hS : St _ _ _ _ [[⟨b_p_c, [s1.v, (.int .i64 p_c_6.at_), (.int .u64 p_c_6.seed.v)], 65⟩], [⟨b10, [(strV e_8.Name), (.int .i64 e_8.Levels)], 58⟩], q4] := hS.sel [2, 0, 1] (by decide)
   have hS11 : St _ _ _ _ ([[⟨b_p_c, [s1.v, (.int .i64 p_c_6.at_), (.int .u64 p_c_6.seed.v)], 65⟩]] ++ [[⟨b10, [(strV e_8.Name), (.int .i64 e_8.Levels)], 58⟩], q4]) := hS
   have hE11 := hS11.enter
   obtain ⟨t_12, ht_12, hb1⟩ := bindS hb1
   refine q_do rfl fun _ hK => wp_callX (vs := [(.pointer (some ⟨b_p_c, 0, none⟩)), (.int .i64 3)]) hF Try.func39 (by kernel_rfl) rfl rfl rfl (c_spec_l1Cur_one p_c_6 3 t_12 ht_12 _ m b_p_c s1 h7 _ hE11) fun a w _ hR hF => hK _ _ ?_
   obtain ⟨rfl, hR11, hk13⟩ := hR
   have hS : St _ _ _ _ [[⟨b_p_c, [s1.v, (.int .i64 t_12.2.at_), (.int .u64 t_12.2.seed.v)], 65⟩], [⟨b10, [(strV e_8.Name), (.int .i64 e_8.Levels)], 58⟩], q4] := hS11.leaveF hR11
   have h13 : Rd m s1 t_12.2.code := by rw [hk13]; exact h7
   refine q_end (n_sq ?_)
   obtain ⟨j3, hj3, hb1⟩ := bindS hb1
   refine q_join (fun a w => ∃ set_18, ∃ p_c_19, j3 = (set_18, p_c_19) ∧ Fr a 31 [(0, (.pointer (some ⟨b_p_c, 0, none⟩))), (5, s4.v), (8, (.int .i64 set_18)), (9, s2.v), (10, (.int .i64 (goLen p_s))), (11, (.int .i64 t_5))] ∧ St X w0 w m [q4, [⟨b_p_c, [s1.v, (.int .i64 p_c_19.at_), (.int .u64 p_c_19.seed.v)], 65⟩]] ∧ Rd m s1 p_c_19.code ∧ p_c_19.code = p_c.code) ?_ ?_
   ·rcases bcase (t_12.1) with hc4 | hc4
    ·have hj3 := cond_f hc4 hj3
     refine q_cond_f hF rfl hc4 (q_skipc (n_jn ?_))
     obtain rfl := someI hj3
     exact ⟨_, _, rfl, hF.sub ⟨rfl, rfl, rfl, rfl, rfl, rfl, trivial⟩, hS.sel [2, 0] (by decide), h13, (hk13.trans h7k)⟩
    ·have hj3 := cond_t hc4 hj3
     refine q_cond_t hF rfl hc4 (q_region (q_x (v := (.pointer (some ⟨b_p_c, 0, none⟩))) hF hS (ex_move rfl) rfl rfl fun a hF => q_x (v := (.pointer (some ⟨b10, 1, none⟩))) hF hS (ex_fieldAddr Try.underlying58 rfl sz3 rfl rfl) rfl rfl fun a hF => q_x (v := (.int .i64 e_8.Levels)) hF hS (ex_load1 1 0 Try.underlying3 rfl rfl rfl rfl) rfl rfl fun a hF => q_x (v := (.int .u64 (IntKind.wrap .u64 e_8.Levels))) hF hS (ex_conv Try.underlying3 Try.underlying94 rfl) rfl rfl fun a hF => ?_))
     obtain ⟨t_14, ht_14, hj3⟩ := bindS hj3
     refine q_x (v := (.int .i64 t_14)) hF hS (ex_shl rfl rfl ht_14) rfl rfl fun a hF => q_x (v := (.int .i64 (w64 (t_14 - 1)))) hF hS (ex_ibin rfl rfl rfl) rfl rfl fun a hF => ?_
     have hS15 : St _ _ _ _ ([[⟨b_p_c, [s1.v, (.int .i64 t_12.2.at_), (.int .u64 t_12.2.seed.v)], 65⟩]] ++ [[⟨b10, [(strV e_8.Name), (.int .i64 e_8.Levels)], 58⟩], q4]) := hS
     have hE15 := hS15.enter
     obtain ⟨t_16, ht_16, hj3⟩ := bindS hj3
     refine q_do rfl fun _ hK => wp_callX (vs := [(.pointer (some ⟨b_p_c, 0, none⟩)), (.int .i64 (w64 (t_14 - 1)))]) hF Try.func53 (by kernel_rfl) rfl rfl rfl (c_spec_l1Cur_pick t_12.2 (w64 (t_14 - 1)) t_16 ht_16 _ m b_p_c s1 h13 _ hE15) fun a w _ hR hF => hK _ _ ?_
     obtain ⟨rfl, hR15, hk17⟩ := hR
     have hS : St _ _ _ _ [[⟨b_p_c, [s1.v, (.int .i64 t_16.2.at_), (.int .u64 t_16.2.seed.v)], 65⟩], [⟨b10, [(strV e_8.Name), (.int .i64 e_8.Levels)], 58⟩], q4] := hS15.leaveF hR15
     have h17 : Rd m s1 t_16.2.code := by rw [hk17]; exact h13
     refine q_x (v := (.int .i64 (w64 (1 + t_16.1)))) hF hS (ex_ibin rfl rfl rfl) rfl rfl fun a hF => q_x (v := (.int .i64 (w64 (1 + t_16.1)))) hF hS (ex_assign rfl) rfl rfl fun a hF => q_end (n_jn ?_)
     obtain rfl := someI hj3
     exact ⟨_, _, rfl, hF.sub ⟨rfl, rfl, rfl, rfl, rfl, rfl, trivial⟩, hS.sel [2, 0] (by decide), h17, (hk17.trans (hk13.trans h7k))⟩
   ·rintro a w ⟨set_18, p_c_19, rfl, hF, hS, h20, h20k⟩
    refine n_sq ?_
    refine q_region (q_x (v := s4.v) hF hS (ex_move rfl) rfl rfl fun a hF => q_x (v := (.int .i64 set_18)) hF hS (ex_move rfl) rfl rfl fun a hF => q_do rfl fun _ hK => wp_buildSlice' (l := ([set_18] : List Int)) (cells := [(.int .i64 set_18)]) hF hS Try.underlying24 inf3 rfl rfl (by kernel_rfl) rfl rfl rfl ⟨rfl, rfl⟩ rfl rfl fun a w q21 s21 hF hS h21 _ => hK _ _ ?_)
    have hS : St _ _ _ _ [q4, q21, [⟨b_p_c, [s1.v, (.int .i64 p_c_19.at_), (.int .u64 p_c_19.seed.v)], 65⟩]] := hS.sel [1, 0, 2] (by decide)
    obtain ⟨l_22, hl_22, hb1⟩ := bindS hb1
    refine q_do rfl fun _ hK => wp_append hF hS h4 Try.underlying24 inf3 rfl rfl rfl rfl (h21.vw hS (j := 1) rfl) rfl (by decide) hl_22 rfl fun a w q23 s23 hF hS h23 => hK _ _ (q_x (v := s23.v) hF hS (ex_assign rfl) rfl rfl fun a hF => q_end (n_ib (n_sq (q_region (q_x (v := (.int .i64 (w64 (t_5 + 1)))) hF hS (ex_ibin rfl rfl rfl) rfl rfl fun a hF => q_x (v := (.int .i64 (w64 (t_5 + 1)))) hF hS (ex_move rfl) rfl rfl fun a hF => q_end ?_)))))
    obtain rfl := someI hb1
    exact ⟨rfl, q23, s23, _, _, _, rfl, hF.sub ⟨rfl, rfl, rfl, rfl, rfl, trivial⟩, hS.mask [true, false, true], h23, h20, h20k⟩
 ·rintro e a w ⟨q25, s25, out_24, p_c_26, rfl, rfl, hF, hS, h25, h27, h27k⟩
  refine x_ib (n_sq ?_)
  refine q_seq (q_region (q_x (v := s25.v) hF hS (ex_move rfl) rfl rfl fun a hF => q_x (v := s25.v) hF hS (ex_assign rfl) rfl rfl fun a hF => q_end (n_sq (q_ret ?_))))
  obtain rfl := someI hr
  exact ret_ofX hF hS rfl (.tmp rfl .nil) ⟨q25, s25, rfl, hS.sel [1, 0] (by decide), h25, h27k⟩

theorem c_spec_l1In (p_n : Int) (p_lo : Int) (p_hi : Int) (r : Bool) (hr : spec_l1In p_n p_lo p_hi = some r) (w0 : World) (m : Mem) (hv : Vis m w0) :
  Ret Try.prog 67 [(.int .i64 p_n), (.int .i64 p_lo), (.int .i64 p_hi)] w0 (fun v _ => v = (.bool r)) := by
 unfold spec_l1In at hr
 refine ret_start Try.func67 rfl 15 rfl rfl m hv fun a hF hS => q_seq (q_region (q_x (v := (.bool false)) hF hS (ex_assign rfl) rfl rfl fun a hF => q_end (n_sq (q_seq ?_))))
 obtain ⟨t_1, hj1, hr⟩ := bindS hr
 refine q_join (fun a w => Fr a 15 [(6, (.bool t_1))] ∧ St [] w0 w m []) ?_ ?_
 ·refine q_region (q_x (v := (.int .i64 p_n)) hF hS (ex_move rfl) rfl rfl fun a hF => q_x (v := (.int .i64 p_lo)) hF hS (ex_move rfl) rfl rfl fun a hF => q_x (v := (.bool (decide (p_lo ≤ p_n)))) hF hS (ex_ibin rfl rfl rfl) rfl rfl fun a hF => q_x (v := (.bool (decide (p_lo ≤ p_n)))) hF hS (ex_move rfl) rfl rfl fun a hF => ?_)
  rcases bcase (decide (p_lo ≤ p_n)) with hc2 | hc2
  ·have hj1 := cond_f hc2 hj1
   refine q_skip hF (wanted_f hF rfl rfl rfl hc2 rfl) rfl fun a hF => q_skip hF (wanted_f hF rfl rfl rfl hc2 rfl) rfl fun a hF => q_skip hF (wanted_f hF rfl rfl rfl hc2 rfl) rfl fun a hF => q_x (v := (.bool false)) hF hS (ex_pick_f rfl rfl hc2) rfl rfl fun a hF => q_x (v := (.bool false)) hF hS (ex_assign rfl) rfl rfl fun a hF => q_end (n_jn ?_)
   obtain rfl := someI hj1
   exact ⟨hF.sub ⟨rfl, trivial⟩, hS⟩
  ·have hj1 := cond_t hc2 hj1
   refine q_xg (v := (.int .i64 p_n)) hF hS (ex_move rfl) (wanted_t hF rfl rfl rfl hc2) rfl fun a hF => q_xg (v := (.int .i64 p_hi)) hF hS (ex_move rfl) (wanted_t hF rfl rfl rfl hc2) rfl fun a hF => q_xg (v := (.bool (decide (p_n ≤ p_hi)))) hF hS (ex_ibin rfl rfl rfl) (wanted_t hF rfl rfl rfl hc2) rfl fun a hF => q_x (v := (.bool (decide (p_n ≤ p_hi)))) hF hS (ex_pick_t rfl rfl hc2) rfl rfl fun a hF => q_x (v := (.bool (decide (p_n ≤ p_hi)))) hF hS (ex_assign rfl) rfl rfl fun a hF => q_end (n_jn ?_)
   obtain rfl := someI hj1
   exact ⟨hF.sub ⟨rfl, trivial⟩, hS⟩
 ·rintro a w ⟨hF, hS⟩
  refine n_sq (q_ret ?_)
  obtain rfl := someI hr
  exact ret_of hF hS rfl (.tmp rfl .nil) rfl

theorem c_spec_gGood (p_g : impl_Geo) (r : Bool) (hr : spec_gGood p_g = some r) (w0 : World) (m : Mem) (hv : Vis m w0) (s1 : Sl) (h1 : Rd m s1 p_g.Parents) :
  Ret Try.prog 62 [(.agg #[s1.v])] w0 (fun v _ => v = (.bool r)) := by
 unfold spec_gGood at hr
 refine ret_start Try.func62 rfl 35 rfl rfl m hv fun a hF hS => q_seq (q_region (q_box (cs := [s1.v]) hF hS rfl rfl rfl fun a w b2 hF hS => q_x (v := (.bool false)) hF hS (ex_assign rfl) rfl rfl fun a hF => q_end (n_sq (q_seq (q_seq ?_)))))
 obtain ⟨t_6, hj1, hr⟩ := bindS hr
 refine q_join (fun a w => Fr a 35 [(1, (.pointer (some ⟨b2, 0, none⟩))), (16, (.bool t_6))] ∧ St [] w0 w m [[⟨b2, [s1.v], 26⟩]]) ?_ ?_
 ·refine q_region (q_x (v := (.pointer (some ⟨b2, 0, none⟩))) hF hS (ex_fieldAddr Try.underlying26 rfl sz24 rfl rfl) rfl rfl fun a hF => q_x (v := s1.v) hF hS (ex_load1 0 0 Try.underlying24 rfl rfl rfl rfl) rfl rfl fun a hF => q_x (v := (.int .i64 (goLen p_g.Parents))) hF hS (ex_len Try.underlying24 rfl h1.len) rfl rfl fun a hF => ?_)
  obtain ⟨t_3, ht_3, hj1⟩ := bindS hj1
  refine q_call (vs := [(.int .i64 (goLen p_g.Parents)), (.int .i64 1), (.int .i64 30)]) hF hS Try.func67 (by kernel_rfl) rfl rfl rfl (c_spec_l1In (goLen p_g.Parents) 1 30 t_3 ht_3 _ m hS.vis) ?_
  rintro a w _ rfl hF hS
  refine q_x (v := (.bool (!t_3))) hF hS (ex_not rfl) rfl rfl fun a hF => q_x (v := (.bool (!t_3))) hF hS (ex_move rfl) rfl rfl fun a hF => ?_
  rcases bcase (!t_3) with hc2 | hc2
  ·have hj1 := cond_f hc2 hj1
   refine q_xg (v := (.pointer (some ⟨b2, 0, none⟩))) hF hS (ex_fieldAddr Try.underlying26 rfl sz24 rfl rfl) (wanted_t hF rfl rfl rfl hc2) rfl fun a hF => q_xg (v := s1.v) hF hS (ex_load1 0 0 Try.underlying24 rfl rfl rfl rfl) (wanted_t hF rfl rfl rfl hc2) rfl fun a hF => ?_
   obtain ⟨e_4, he_4, hj1⟩ := bindS hj1
   obtain ⟨vs5, at5, d5⟩ := h1.at he_4 1 rfl
   obtain rfl : vs5 = [(.int .i64 e_4)] := d5
   refine q_xg (v := (elP s1 ((0 : Int).toNat * 1))) hF hS (ex_indexAddr Try.underlying24 sz3 rfl rfl (h1.idx he_4)) (wanted_t hF rfl rfl rfl hc2) rfl fun a hF => q_xg (v := (.int .i64 e_4)) hF hS (ex_loadE1 0 Try.underlying3 rfl rfl ((at5).at) rfl rfl) (wanted_t hF rfl rfl rfl hc2) rfl fun a hF => q_xg (v := (.bool (e_4 != (-1)))) hF hS (ex_ibin rfl rfl rfl) (wanted_t hF rfl rfl rfl hc2) rfl fun a hF => q_x (v := (.bool (e_4 != (-1)))) hF hS (ex_pick_f rfl rfl hc2) rfl rfl fun a hF => q_end (n_jn ?_)
   obtain rfl := someI hj1
   exact ⟨hF.sub ⟨rfl, rfl, trivial⟩, hS⟩
  ·have hj1 := cond_t hc2 hj1
   refine q_skip hF (wanted_f hF rfl rfl rfl hc2 rfl) rfl fun a hF => q_skip hF (wanted_f hF rfl rfl rfl hc2 rfl) rfl fun a hF => q_skip hF (wanted_f hF rfl rfl rfl hc2 rfl) rfl fun a hF => q_skip hF (wanted_f hF rfl rfl rfl hc2 rfl) rfl fun a hF => q_skip hF (wanted_f hF rfl rfl rfl hc2 rfl) rfl fun a hF => q_x (v := (.bool true)) hF hS (ex_pick_t rfl rfl hc2) rfl rfl fun a hF => q_end (n_jn ?_)
   obtain rfl := someI hj1
   exact ⟨hF.sub ⟨rfl, rfl, trivial⟩, hS⟩
 ·rintro a w ⟨hF, hS⟩
  refine n_sq ?_
  rcases bcase (t_6) with hc3 | hc3
  ·have hr := cond_f hc3 hr
   refine q_cond_f hF rfl hc3 (q_skipc (n_sq (q_seq (q_seq (q_region (q_x (v := (.pointer (some ⟨b2, 0, none⟩))) hF hS (ex_fieldAddr Try.underlying26 rfl sz24 rfl rfl) rfl rfl fun a hF => q_x (v := s1.v) hF hS (ex_load1 0 0 Try.underlying24 rfl rfl rfl rfl) rfl rfl fun a hF => q_x (v := (.int .i64 (goLen p_g.Parents))) hF hS (ex_len Try.underlying24 rfl h1.len) rfl rfl fun a hF => q_x (v := (.int .i64 0)) hF hS (ex_move rfl) rfl rfl fun a hF => q_end (n_sq (q_block ?_))))))))
   obtain ⟨o4, hl4, hr⟩ := bindS hr
   refine q_loop (fun (t_7 : Int) a w => Fr a 35 [(18, s1.v), (19, (.int .i64 (goLen p_g.Parents))), (20, (.int .i64 t_7))] ∧ St [] w0 w m []) (fun (o : (Unit) ⊕ (Bool)) e a w => o = .inl () ∧ e = .exit 0 ∧ Fr a 35 [] ∧ St [] w0 w m []) hl4 ⟨hF.sub ⟨rfl, rfl, rfl, trivial⟩, hS.mask [false]⟩ ?_ ?_
   ·clear hF hS
    rintro t_7 a w st ⟨hF, hS⟩ hb4
    unfold spec_gGood_l1 at hb4
    refine q_seq (q_region (q_x (v := (.bool (decide (t_7 < (goLen p_g.Parents))))) hF hS (ex_ibin rfl rfl rfl) rfl rfl fun a hF => q_end (n_sq (q_seq ?_))))
    rcases bcase (decide (t_7 < (goLen p_g.Parents))) with hc5 | hc5
    ·have hb4 := cond_f hc5 hb4
     refine q_cond_f hF rfl hc5 (q_exit (x_sq ?_))
     obtain rfl := someI hb4
     exact ⟨nofun, .inl ⟨rfl, rfl, hF.sub trivial, hS⟩⟩
    ·have hb4 := cond_t hc5 hb4
     refine q_cond_t hF rfl hc5 (q_skipc (n_sq (q_seq (q_block (q_seq (q_region (q_x (v := (.int .i64 t_7)) hF hS (ex_move rfl) rfl rfl fun a hF => ?_)))))))
     obtain ⟨e_8, he_8, hb4⟩ := bindS hb4
     obtain ⟨vs9, at9, d9⟩ := h1.at he_8 1 rfl
     obtain rfl : vs9 = [(.int .i64 e_8)] := d9
     refine q_x (v := (elP s1 (t_7.toNat * 1))) hF hS (ex_indexAddr Try.underlying24 sz3 rfl rfl (h1.idx he_8)) rfl rfl fun a hF => q_x (v := (.int .i64 e_8)) hF hS (ex_loadE1 0 Try.underlying3 rfl rfl ((at9).at) rfl rfl) rfl rfl fun a hF => q_x (v := (.int .i64 t_7)) hF hS (ex_assign rfl) rfl rfl fun a hF => q_x (v := (.int .i64 e_8)) hF hS (ex_assign rfl) rfl rfl fun a hF => q_end (n_sq (q_seq ?_))
     obtain ⟨t_11, hj6, hb4⟩ := bindS hb4
     refine q_join (fun a w => Fr a 35 [(18, s1.v), (19, (.int .i64 (goLen p_g.Parents))), (20, (.int .i64 t_7)), (33, (.bool t_11))] ∧ St [] w0 w m []) ?_ ?_
     ·refine q_region (q_x (v := (.int .i64 t_7)) hF hS (ex_move rfl) rfl rfl fun a hF => q_x (v := (.bool (decide (0 < t_7)))) hF hS (ex_ibin rfl rfl rfl) rfl rfl fun a hF => q_x (v := (.bool (decide (0 < t_7)))) hF hS (ex_move rfl) rfl rfl fun a hF => ?_)
      rcases bcase (decide (0 < t_7)) with hc7 | hc7
      ·have hj6 := cond_f hc7 hj6
       refine q_skip hF (wanted_f hF rfl rfl rfl hc7 rfl) rfl fun a hF => q_skip hF (wanted_f hF rfl rfl rfl hc7 rfl) rfl fun a hF => q_skip hF (wanted_f hF rfl rfl rfl hc7 rfl) rfl fun a hF => q_skip hF (wanted_f hF rfl rfl rfl hc7 rfl) rfl fun a hF => q_skip hF (wanted_f hF rfl rfl rfl hc7 rfl) rfl fun a hF => q_x (v := (.bool false)) hF hS (ex_pick_f rfl rfl hc7) rfl rfl fun a hF => q_end (n_jn ?_)
       obtain rfl := someI hj6
       exact ⟨hF.sub ⟨rfl, rfl, rfl, rfl, trivial⟩, hS⟩
      ·have hj6 := cond_t hc7 hj6
       refine q_xg (v := (.int .i64 e_8)) hF hS (ex_move rfl) (wanted_t hF rfl rfl rfl hc7) rfl fun a hF => q_xg (v := (.int .i64 t_7)) hF hS (ex_move rfl) (wanted_t hF rfl rfl rfl hc7) rfl fun a hF => q_xg (v := (.int .i64 (w64 (t_7 - 1)))) hF hS (ex_ibin rfl rfl rfl) (wanted_t hF rfl rfl rfl hc7) rfl fun a hF => ?_
       obtain ⟨t_10, ht_10, hj6⟩ := bindS hj6
       refine q_callg (vs := [(.int .i64 e_8), (.int .i64 0), (.int .i64 (w64 (t_7 - 1)))]) hF hS (wanted_t hF rfl rfl rfl hc7) Try.func67 (by kernel_rfl) rfl rfl rfl (c_spec_l1In e_8 0 (w64 (t_7 - 1)) t_10 ht_10 _ m hS.vis) ?_
       rintro a w _ rfl hF hS
       refine q_xg (v := (.bool (!t_10))) hF hS (ex_not rfl) (wanted_t hF rfl rfl rfl hc7) rfl fun a hF => q_x (v := (.bool (!t_10))) hF hS (ex_pick_t rfl rfl hc7) rfl rfl fun a hF => q_end (n_jn ?_)
       obtain rfl := someI hj6
       exact ⟨hF.sub ⟨rfl, rfl, rfl, rfl, trivial⟩, hS⟩
     ·rintro a w ⟨hF, hS⟩
      refine n_sq ?_
      rcases bcase (t_11) with hc8 | hc8
      ·have hb4 := cond_f hc8 hb4
       refine q_cond_f hF rfl hc8 (q_skipc (n_ib (n_sq (q_region (q_x (v := (.int .i64 (w64 (t_7 + 1)))) hF hS (ex_ibin rfl rfl rfl) rfl rfl fun a hF => q_x (v := (.int .i64 (w64 (t_7 + 1)))) hF hS (ex_move rfl) rfl rfl fun a hF => q_end ?_)))))
       obtain rfl := someI hb4
       exact ⟨rfl, hF.sub ⟨rfl, rfl, rfl, trivial⟩, hS⟩
      ·have hb4 := cond_t hc8 hb4
       refine q_cond_t hF rfl hc8 (q_seq (q_region (q_x (v := (.bool false)) hF hS (ex_assign rfl) rfl rfl fun a hF => q_end (n_sq (q_ret (r_ib (r_sq ?_)))))))
       obtain rfl := someI hb4
       refine ⟨nofun, .inr fun ho => ?_⟩
       subst ho
       refine r_ib (r_sq ?_)
       obtain rfl := someI hr
       exact ret_of hF hS rfl (.tmp rfl .nil) rfl
   ·rintro e a w ⟨rfl, rfl, hF, hS⟩
    refine x_ib (n_sq ?_)
    refine q_seq (q_region (q_x (v := (.bool true)) hF hS (ex_assign rfl) rfl rfl fun a hF => q_end (n_sq (q_ret ?_))))
    obtain rfl := someI hr
    exact ret_of hF hS rfl (.tmp rfl .nil) rfl
  ·have hr := cond_t hc3 hr
   refine q_cond_t hF rfl hc3 (q_seq (q_region (q_x (v := (.bool false)) hF hS (ex_assign rfl) rfl rfl fun a hF => q_end (n_sq (q_ret (r_sq ?_))))))
   obtain rfl := someI hr
   exact ret_of hF hS rfl (.tmp rfl .nil) rfl

theorem c_spec_gDepth (p_g : impl_Geo) (p_i : Int) (r : Int) (hr : spec_gDepth p_g p_i = some r) (w0 : World) (m : Mem) (hv : Vis m w0) (s1 : Sl) (h1 : Rd m s1 p_g.Parents) :
  Ret Try.prog 94 [(.agg #[s1.v]), (.int .i64 p_i)] w0 (fun v _ => v = (.int .i64 r)) := by
 unfold spec_gDepth at hr
 refine ret_start Try.func94 rfl 20 rfl rfl m hv fun a hF hS => q_seq (q_region (q_box (cs := [s1.v]) hF hS rfl rfl rfl fun a w b2 hF hS => q_x (v := (.int .i64 0)) hF hS (ex_assign rfl) rfl rfl fun a hF => q_end (n_sq (q_seq (q_region (q_x (v := (.int .i64 0)) hF hS (ex_assign rfl) rfl rfl fun a hF => q_end (n_sq (q_seq (q_block ?_)))))))))
 obtain ⟨n_9, hl1, hr⟩ := bindS hr
 refine q_loop (fun (s : Int × Int) a w => ∃ i_3, ∃ n_4, s = (i_3, n_4) ∧ Fr a 20 [(1, (.int .i64 i_3)), (2, (.pointer (some ⟨b2, 0, none⟩))), (5, (.int .i64 n_4))] ∧ St [] w0 w m [[⟨b2, [s1.v], 26⟩]]) (fun (n_9 : Int) e a w => e = .exit 0 ∧ Fr a 20 [(5, (.int .i64 n_9))] ∧ St [] w0 w m []) hl1 ⟨_, _, rfl, hF.sub ⟨rfl, rfl, rfl, trivial⟩, hS⟩ ?_ ?_
 ·clear hF hS
  rintro s a w st ⟨i_3, n_4, rfl, hF, hS⟩ hb1
  unfold spec_gDepth_l1 at hb1
  refine q_seq (q_seq (q_region (q_x (v := (.pointer (some ⟨b2, 0, none⟩))) hF hS (ex_fieldAddr Try.underlying26 rfl sz24 rfl rfl) rfl rfl fun a hF => q_x (v := s1.v) hF hS (ex_load1 0 0 Try.underlying24 rfl rfl rfl rfl) rfl rfl fun a hF => q_x (v := (.int .i64 i_3)) hF hS (ex_move rfl) rfl rfl fun a hF => ?_)))
  obtain ⟨e_5, he_5, hb1⟩ := bindS hb1
  obtain ⟨vs6, at6, d6⟩ := h1.at he_5 1 rfl
  obtain rfl : vs6 = [(.int .i64 e_5)] := d6
  refine q_x (v := (elP s1 (i_3.toNat * 1))) hF hS (ex_indexAddr Try.underlying24 sz3 rfl rfl (h1.idx he_5)) rfl rfl fun a hF => q_x (v := (.int .i64 e_5)) hF hS (ex_loadE1 0 Try.underlying3 rfl rfl ((at6).at) rfl rfl) rfl rfl fun a hF => q_x (v := (.bool (decide (0 ≤ e_5)))) hF hS (ex_ibin rfl rfl rfl) rfl rfl fun a hF => q_end (n_sq ?_)
  rcases bcase (decide (0 ≤ e_5)) with hc2 | hc2
  ·have hb1 := cond_f hc2 hb1
   refine q_cond_f hF rfl hc2 (q_exit (x_sq ?_))
   obtain rfl := someI hb1
   exact ⟨nofun, .inl ⟨rfl, hF.sub ⟨rfl, trivial⟩, hS.mask [false]⟩⟩
  ·have hb1 := cond_t hc2 hb1
   refine q_cond_t hF rfl hc2 (q_skipc (n_sq (q_block (q_seq (q_region (q_x (v := (.pointer (some ⟨b2, 0, none⟩))) hF hS (ex_fieldAddr Try.underlying26 rfl sz24 rfl rfl) rfl rfl fun a hF => q_x (v := s1.v) hF hS (ex_load1 0 0 Try.underlying24 rfl rfl rfl rfl) rfl rfl fun a hF => q_x (v := (.int .i64 i_3)) hF hS (ex_move rfl) rfl rfl fun a hF => ?_))))))
   obtain ⟨e_7, he_7, hb1⟩ := bindS hb1
   obtain ⟨vs8, at8, d8⟩ := h1.at he_7 1 rfl
   obtain rfl : vs8 = [(.int .i64 e_7)] := d8
   refine q_x (v := (elP s1 (i_3.toNat * 1))) hF hS (ex_indexAddr Try.underlying24 sz3 rfl rfl (h1.idx he_7)) rfl rfl fun a hF => q_x (v := (.int .i64 e_7)) hF hS (ex_loadE1 0 Try.underlying3 rfl rfl ((at8).at) rfl rfl) rfl rfl fun a hF => q_x (v := (.int .i64 e_7)) hF hS (ex_assign rfl) rfl rfl fun a hF => q_end (n_sq (q_region (q_x (v := (.int .i64 n_4)) hF hS (ex_move rfl) rfl rfl fun a hF => q_x (v := (.int .i64 (w64 (n_4 + 1)))) hF hS (ex_ibin rfl rfl rfl) rfl rfl fun a hF => q_x (v := (.int .i64 (w64 (n_4 + 1)))) hF hS (ex_assign rfl) rfl rfl fun a hF => q_end (n_ib ?_))))
   obtain rfl := someI hb1
   exact ⟨rfl, _, _, rfl, hF.sub ⟨rfl, rfl, rfl, trivial⟩, hS⟩
 ·rintro e a w ⟨rfl, hF, hS⟩
  refine x_ib (n_sq ?_)
  refine q_seq (q_region (q_x (v := (.int .i64 n_9)) hF hS (ex_move rfl) rfl rfl fun a hF => q_x (v := (.int .i64 n_9)) hF hS (ex_assign rfl) rfl rfl fun a hF => q_end (n_sq (q_ret ?_))))
  obtain rfl := someI hr
  exact ret_of hF hS rfl (.tmp rfl .nil) rfl

theorem c_spec_gLevel (p_g : impl_Geo) (p_level : Int) (r : (List Int)) (hr : spec_gLevel p_g p_level = some r) (w0 : World) (m : Mem) (hv : Vis m w0) (s1 : Sl) (h1 : Rd m s1 p_g.Parents) :
  Ret Try.prog 64 [(.agg #[s1.v]), (.int .i64 p_level)] w0 (fun v w => ∃ (q0' : Piece) (s0' : Sl), v = s0'.v ∧ St [] w0 w m [q0'] ∧ OwnL m 3 q0' s0' r) := by
 unfold spec_gLevel at hr
 refine ret_start Try.func64 rfl 24 rfl rfl m hv fun a hF hS => q_seq (q_region (q_box (cs := [s1.v]) hF hS rfl rfl rfl fun a w b2 hF hS => q_x (v := nilS.v) hF hS (ex_assign rfl) rfl rfl fun a hF => q_end (n_sq (q_seq (q_region (q_x (v := nilS.v) hF hS (ex_assign rfl) rfl rfl fun a hF => q_end (n_sq (q_seq (q_seq (q_region (q_x (v := (.pointer (some ⟨b2, 0, none⟩))) hF hS (ex_fieldAddr Try.underlying26 rfl sz24 rfl rfl) rfl rfl fun a hF => q_x (v := s1.v) hF hS (ex_load1 0 0 Try.underlying24 rfl rfl rfl rfl) rfl rfl fun a hF => q_x (v := (.int .i64 (goLen p_g.Parents))) hF hS (ex_len Try.underlying24 rfl h1.len) rfl rfl fun a hF => q_x (v := (.int .i64 0)) hF hS (ex_move rfl) rfl rfl fun a hF => q_end (n_sq (q_block ?_)))))))))))))
 obtain ⟨out_12, hl1, hr⟩ := bindS hr
 refine q_loop (fun (s : (List Int) × Int) a w => ∃ (q4 : Piece), ∃ (s4 : Sl), ∃ out_3, ∃ t_5, s = (out_3, t_5) ∧ Fr a 24 [(1, (.int .i64 p_level)), (2, (.pointer (some ⟨b2, 0, none⟩))), (5, s4.v), (9, (.int .i64 (goLen p_g.Parents))), (10, (.int .i64 t_5))] ∧ St [] w0 w m [q4, [⟨b2, [s1.v], 26⟩]] ∧ OwnL m 3 q4 s4 out_3) (fun (out_12 : (List Int)) e a w => ∃ (q13 : Piece), ∃ (s13 : Sl), e = .exit 0 ∧ Fr a 24 [(5, s13.v)] ∧ St [] w0 w m [q13] ∧ OwnL m 3 q13 s13 out_12) hl1 ⟨[], nilS, _, _, rfl, hF.sub ⟨rfl, rfl, rfl, rfl, rfl, trivial⟩, hS.sel [1, 0] (by decide), (OwnL.nil (α := Int) m 3)⟩ ?_ ?_
 ·clear hF hS
  rintro s a w st ⟨q4, s4, out_3, t_5, rfl, hF, hS, h4⟩ hb1
  unfold spec_gLevel_l1 at hb1
  refine q_seq (q_region (q_x (v := (.bool (decide (t_5 < (goLen p_g.Parents))))) hF hS (ex_ibin rfl rfl rfl) rfl rfl fun a hF => q_end (n_sq (q_seq ?_))))
  rcases bcase (decide (t_5 < (goLen p_g.Parents))) with hc2 | hc2
  ·have hb1 := cond_f hc2 hb1
   refine q_cond_f hF rfl hc2 (q_exit (x_sq ?_))
   obtain rfl := someI hb1
   exact ⟨nofun, .inl ⟨q4, s4, rfl, hF.sub ⟨rfl, trivial⟩, hS.mask [true, false], h4⟩⟩
  ·have hb1 := cond_t hc2 hb1
   refine q_cond_t hF rfl hc2 (q_skipc (n_sq (q_seq (q_block (q_seq (q_region (q_x (v := (.int .i64 t_5)) hF hS (ex_move rfl) rfl rfl fun a hF => q_x (v := (.int .i64 t_5)) hF hS (ex_assign rfl) rfl rfl fun a hF => q_end (n_sq (q_seq (q_region (q_x (v := (.agg #[s1.v])) hF hS (ex_loadA (vs := [s1.v]) 1 0 Try.underlying26 rfl sz26 rfl rfl rfl rfl) rfl rfl fun a hF => q_x (v := (.int .i64 t_5)) hF hS (ex_move rfl) rfl rfl fun a hF => ?_)))))))))))
   obtain ⟨t_6, ht_6, hb1⟩ := bindS hb1
   refine q_call (vs := [(.agg #[s1.v]), (.int .i64 t_5)]) hF hS Try.func94 (by kernel_rfl) rfl rfl rfl (c_spec_gDepth p_g t_5 t_6 ht_6 _ m hS.vis s1 h1) ?_
   rintro a w _ rfl hF hS
   refine q_x (v := (.int .i64 p_level)) hF hS (ex_move rfl) rfl rfl fun a hF => q_x (v := (.bool (t_6 == p_level))) hF hS (ex_ibin rfl rfl rfl) rfl rfl fun a hF => q_end (n_sq ?_)
   obtain ⟨out_10, hj3, hb1⟩ := bindS hb1
   refine q_join (fun a w => ∃ (q11 : Piece), ∃ (s11 : Sl), Fr a 24 [(1, (.int .i64 p_level)), (2, (.pointer (some ⟨b2, 0, none⟩))), (5, s11.v), (9, (.int .i64 (goLen p_g.Parents))), (10, (.int .i64 t_5))] ∧ St [] w0 w m [q11, [⟨b2, [s1.v], 26⟩]] ∧ OwnL m 3 q11 s11 out_10) ?_ ?_
   ·rcases bcase (t_6 == p_level) with hc4 | hc4
    ·have hj3 := cond_f hc4 hj3
     refine q_cond_f hF rfl hc4 (q_skipc (n_jn ?_))
     obtain rfl := someI hj3
     exact ⟨q4, s4, hF.sub ⟨rfl, rfl, rfl, rfl, rfl, trivial⟩, hS, h4⟩
    ·have hj3 := cond_t hc4 hj3
     refine q_cond_t hF rfl hc4 (q_region (q_x (v := s4.v) hF hS (ex_move rfl) rfl rfl fun a hF => q_x (v := (.int .i64 t_5)) hF hS (ex_move rfl) rfl rfl fun a hF => q_do rfl fun _ hK => wp_buildSlice' (l := ([t_5] : List Int)) (cells := [(.int .i64 t_5)]) hF hS Try.underlying24 inf3 rfl rfl (by kernel_rfl) rfl rfl rfl ⟨rfl, rfl⟩ rfl rfl fun a w q7 s7 hF hS h7 _ => hK _ _ ?_))
     have hS : St _ _ _ _ [q4, q7, [⟨b2, [s1.v], 26⟩]] := hS.sel [1, 0, 2] (by decide)
     obtain ⟨l_8, hl_8, hj3⟩ := bindS hj3
     refine q_do rfl fun _ hK => wp_append hF hS h4 Try.underlying24 inf3 rfl rfl rfl rfl (h7.vw hS (j := 1) rfl) rfl (by decide) hl_8 rfl fun a w q9 s9 hF hS h9 => hK _ _ (q_x (v := s9.v) hF hS (ex_assign rfl) rfl rfl fun a hF => q_end (n_jn ?_))
     obtain rfl := someI hj3
     exact ⟨q9, s9, hF.sub ⟨rfl, rfl, rfl, rfl, rfl, trivial⟩, hS.mask [true, false, true], h9⟩
   ·rintro a w ⟨q11, s11, hF, hS, h11⟩
    refine n_ib (n_sq ?_)
    refine q_region (q_x (v := (.int .i64 (w64 (t_5 + 1)))) hF hS (ex_ibin rfl rfl rfl) rfl rfl fun a hF => q_x (v := (.int .i64 (w64 (t_5 + 1)))) hF hS (ex_move rfl) rfl rfl fun a hF => q_end ?_)
    obtain rfl := someI hb1
    exact ⟨rfl, q11, s11, _, _, rfl, hF.sub ⟨rfl, rfl, rfl, rfl, rfl, trivial⟩, hS, h11⟩
 ·rintro e a w ⟨q13, s13, rfl, hF, hS, h13⟩
  refine x_ib (n_sq ?_)
  refine q_seq (q_region (q_x (v := s13.v) hF hS (ex_move rfl) rfl rfl fun a hF => q_x (v := s13.v) hF hS (ex_assign rfl) rfl rfl fun a hF => q_end (n_sq (q_ret ?_))))
  obtain rfl := someI hr
  exact ret_of hF hS rfl (.tmp rfl .nil) ⟨q13, s13, rfl, hS.sel [0] (by decide), h13⟩

theorem c_spec_l1Cur_table (p_c : spec_l1Cur) (p_g : impl_Geo) (p_s : List impl_Variable) (r : impl_Table × spec_l1Cur) (hr : spec_l1Cur_table p_c p_g p_s = some r) (w0 : World) (m : Mem) (b_p_c : Nat) (s1 : Sl) (h1 : Rd m s1 p_c.code) (s2 : Sl) (h2 : Rd m s2 p_g.Parents) (s3 : Sl) (h3 : Rd m s3 p_s) (X : List Nat) (hS : St X w0 w0 m [[⟨b_p_c, [s1.v, (.int .i64 p_c.at_), (.int .u64 p_c.seed.v)], 65⟩]]) :
  RetX Try.prog 76 [(.pointer (some ⟨b_p_c, 0, none⟩)), (.agg #[s2.v]), s3.v] w0 (fun v w => ∃ (q0' : Piece) (q1' : Piece) (s0' : Sl) (s1' : Sl), v = (.agg #[(.int .i64 r.1.Level), s0'.v, s1'.v, (.int .i64 r.1.Sum)]) ∧ St X w0 w m [[⟨b_p_c, [s1.v, (.int .i64 r.2.at_), (.int .u64 r.2.seed.v)], 65⟩], q0', q1'] ∧ OwnL m 3 q0' s0' r.1.Vars ∧ OwnL m 3 q1' s1' r.1.Where ∧ r.2.code = p_c.code) := by
 unfold spec_l1Cur_table at hr
 refine ret_startX Try.func76 rfl 52 rfl rfl fun a hF => q_seq (q_region (q_box (cs := [s2.v]) hF hS rfl rfl rfl fun a w b4 hF hS => q_alloc (cs := [(.int .i64 0), nilS.v, nilS.v, (.int .i64 0)]) hF hS rfl rfl rfl fun a w b5 hF hS => q_end (n_sq (q_seq (q_region (q_x (v := (.pointer (some ⟨b_p_c, 0, none⟩))) hF hS (ex_move rfl) rfl rfl fun a hF => q_x (v := s3.v) hF hS (ex_move rfl) rfl rfl fun a hF => ?_))))))
 have hS : St _ _ _ _ [[⟨b_p_c, [s1.v, (.int .i64 p_c.at_), (.int .u64 p_c.seed.v)], 65⟩], [⟨b5, [(.int .i64 0), nilS.v, nilS.v, (.int .i64 0)], 29⟩], [⟨b4, [s2.v], 26⟩]] := hS.sel [2, 0, 1] (by decide)
 have hS6 : St _ _ _ _ ([[⟨b_p_c, [s1.v, (.int .i64 p_c.at_), (.int .u64 p_c.seed.v)], 65⟩]] ++ [[⟨b5, [(.int .i64 0), nilS.v, nilS.v, (.int .i64 0)], 29⟩], [⟨b4, [s2.v], 26⟩]]) := hS
 have hE6 := hS6.enter
 obtain ⟨t_7, ht_7, hr⟩ := bindS hr
 refine q_do rfl fun _ hK => wp_callX (vs := [(.pointer (some ⟨b_p_c, 0, none⟩)), s3.v]) hF Try.func99 (by kernel_rfl) rfl rfl rfl (c_spec_l1Cur_where p_c p_s t_7 ht_7 _ m b_p_c s1 h1 s3 h3 _ hE6) fun a w _ hR hF => hK _ _ ?_
 obtain ⟨q8, s8, rfl, hR6, h8, hk9⟩ := hR
 have hS : St _ _ _ _ [[⟨b_p_c, [s1.v, (.int .i64 t_7.2.at_), (.int .u64 t_7.2.seed.v)], 65⟩], q8, [⟨b5, [(.int .i64 0), nilS.v, nilS.v, (.int .i64 0)], 29⟩], [⟨b4, [s2.v], 26⟩]] := hS6.leaveF hR6
 have h9 : Rd m s1 t_7.2.code := by rw [hk9]; exact h1
 refine q_x (v := (.agg #[(.int .i64 0), nilS.v, s8.v, (.int .i64 (-1))])) hF hS (ex_build (cells := [(.int .i64 0), nilS.v, s8.v, (.int .i64 (-1))]) rfl (by kernel_rfl)) rfl rfl fun a hF => q_alloc (cs := [(.int .i64 0), nilS.v, nilS.v, (.int .i64 0)]) hF hS rfl rfl rfl fun a w b10 hF hS => q_store (vs := [(.int .i64 0), nilS.v, s8.v, (.int .i64 (-1))]) (cs' := [(.int .i64 0), nilS.v, s8.v, (.int .i64 (-1))]) 0 0 hF hS sz29 rfl rfl rfl rfl rfl rfl rfl rfl fun a w hF hS => q_end (n_sq (q_seq (q_seq (q_region (q_x (v := s3.v) hF hS (ex_move rfl) rfl rfl fun a hF => q_x (v := (.int .i64 (goLen p_s))) hF hS (ex_len Try.underlying27 rfl h3.len) rfl rfl fun a hF => q_x (v := (.int .i64 0)) hF hS (ex_move rfl) rfl rfl fun a hF => q_end (n_sq (q_block ?_)))))))
 obtain ⟨o1, hl1, hr⟩ := bindS hr
 refine q_loop (fun (s : Int × impl_Table × spec_l1Cur) a w => ∃ (q13 : Piece), ∃ (s13 : Sl), ∃ t_11, ∃ t_12, ∃ p_c_15, s = (t_11, t_12, p_c_15) ∧ Fr a 52 [(0, (.pointer (some ⟨b_p_c, 0, none⟩))), (2, s3.v), (4, (.pointer (some ⟨b4, 0, none⟩))), (6, (.pointer (some ⟨b5, 0, none⟩))), (7, (.pointer (some ⟨b10, 0, none⟩))), (14, (.int .i64 (goLen p_s))), (15, (.int .i64 t_11))] ∧ St X w0 w m [q13, [⟨b10, [(.int .i64 t_12.Level), s13.v, s8.v, (.int .i64 t_12.Sum)], 29⟩], [⟨b_p_c, [s1.v, (.int .i64 p_c_15.at_), (.int .u64 p_c_15.seed.v)], 65⟩], q8, [⟨b5, [(.int .i64 0), nilS.v, nilS.v, (.int .i64 0)], 29⟩], [⟨b4, [s2.v], 26⟩]] ∧ OwnL m 3 q13 s13 t_12.Vars ∧ OwnL m 3 q8 s8 t_12.Where ∧ t_12.Where = t_7.1 ∧ Rd m s1 p_c_15.code ∧ p_c_15.code = p_c.code) (fun (o : impl_Table × spec_l1Cur) e a w => ∃ (q27 : Piece), ∃ (s27 : Sl), ∃ t_26, ∃ p_c_29, o = (t_26, p_c_29) ∧ e = .exit 0 ∧ Fr a 52 [(0, (.pointer (some ⟨b_p_c, 0, none⟩))), (2, s3.v), (4, (.pointer (some ⟨b4, 0, none⟩))), (6, (.pointer (some ⟨b5, 0, none⟩))), (7, (.pointer (some ⟨b10, 0, none⟩)))] ∧ St X w0 w m [q27, q8, [⟨b10, [(.int .i64 t_26.Level), s27.v, s8.v, (.int .i64 t_26.Sum)], 29⟩], [⟨b_p_c, [s1.v, (.int .i64 p_c_29.at_), (.int .u64 p_c_29.seed.v)], 65⟩], [⟨b5, [(.int .i64 0), nilS.v, nilS.v, (.int .i64 0)], 29⟩], [⟨b4, [s2.v], 26⟩]] ∧ OwnL m 3 q27 s27 t_26.Vars ∧ OwnL m 3 q8 s8 t_26.Where ∧ t_26.Where = t_7.1 ∧ Rd m s1 p_c_29.code ∧ p_c_29.code = p_c.code) hl1 ⟨[], nilS, _, _, _, rfl, hF.sub ⟨rfl, rfl, rfl, rfl, rfl, rfl, rfl, trivial⟩, hS.sel [5, 0, 1, 2, 3, 4] (by decide), (OwnL.nil (α := Int) m 3), h8, rfl, h9, hk9⟩ ?_ ?_
 ·clear hF hS
  rintro s a w st ⟨q13, s13, t_11, t_12, p_c_15, rfl, hF, hS, h13, h14, h14k, h16, h16k⟩ hb1
  unfold spec_l1Cur_table_l1 at hb1
  refine q_seq (q_region (q_x (v := (.bool (decide (t_11 < (goLen p_s))))) hF hS (ex_ibin rfl rfl rfl) rfl rfl fun a hF => q_end (n_sq (q_seq ?_))))
  rcases bcase (decide (t_11 < (goLen p_s))) with hc2 | hc2
  ·have hb1 := cond_f hc2 hb1
   refine q_cond_f hF rfl hc2 (q_exit (x_sq ?_))
   obtain rfl := someI hb1
   exact ⟨nofun, .inl ⟨q13, s13, _, _, rfl, rfl, hF.sub ⟨rfl, rfl, rfl, rfl, rfl, trivial⟩, hS.sel [0, 3, 1, 2, 4, 5] (by decide), h13, h14, h14k, h16, h16k⟩⟩
  ·have hb1 := cond_t hc2 hb1
   refine q_cond_t hF rfl hc2 (q_skipc (n_sq (q_seq (q_block (q_seq (q_region (q_x (v := (.int .i64 t_11)) hF hS (ex_move rfl) rfl rfl fun a hF => q_x (v := (.int .i64 t_11)) hF hS (ex_assign rfl) rfl rfl fun a hF => q_end (n_sq (q_seq (q_region (q_x (v := (.pointer (some ⟨b_p_c, 0, none⟩))) hF hS (ex_move rfl) rfl rfl fun a hF => ?_)))))))))))
   have hS : St _ _ _ _ [[⟨b_p_c, [s1.v, (.int .i64 p_c_15.at_), (.int .u64 p_c_15.seed.v)], 65⟩], q13, [⟨b10, [(.int .i64 t_12.Level), s13.v, s8.v, (.int .i64 t_12.Sum)], 29⟩], q8, [⟨b5, [(.int .i64 0), nilS.v, nilS.v, (.int .i64 0)], 29⟩], [⟨b4, [s2.v], 26⟩]] := hS.sel [2, 0, 1, 3, 4, 5] (by decide)
   have hS17 : St _ _ _ _ ([[⟨b_p_c, [s1.v, (.int .i64 p_c_15.at_), (.int .u64 p_c_15.seed.v)], 65⟩]] ++ [q13, [⟨b10, [(.int .i64 t_12.Level), s13.v, s8.v, (.int .i64 t_12.Sum)], 29⟩], q8, [⟨b5, [(.int .i64 0), nilS.v, nilS.v, (.int .i64 0)], 29⟩], [⟨b4, [s2.v], 26⟩]]) := hS
   have hE17 := hS17.enter
   obtain ⟨t_18, ht_18, hb1⟩ := bindS hb1
   refine q_do rfl fun _ hK => wp_callX (vs := [(.pointer (some ⟨b_p_c, 0, none⟩)), (.int .i64 2)]) hF Try.func39 (by kernel_rfl) rfl rfl rfl (c_spec_l1Cur_one p_c_15 2 t_18 ht_18 _ m b_p_c s1 h16 _ hE17) fun a w _ hR hF => hK _ _ ?_
   obtain ⟨rfl, hR17, hk19⟩ := hR
   have hS : St _ _ _ _ [[⟨b_p_c, [s1.v, (.int .i64 t_18.2.at_), (.int .u64 t_18.2.seed.v)], 65⟩], q13, [⟨b10, [(.int .i64 t_12.Level), s13.v, s8.v, (.int .i64 t_12.Sum)], 29⟩], q8, [⟨b5, [(.int .i64 0), nilS.v, nilS.v, (.int .i64 0)], 29⟩], [⟨b4, [s2.v], 26⟩]] := hS17.leaveF hR17
   have h19 : Rd m s1 t_18.2.code := by rw [hk19]; exact h16
   refine q_end (n_sq ?_)
   obtain ⟨t_23, hj3, hb1⟩ := bindS hb1
   refine q_join (fun a w => ∃ (q24 : Piece), ∃ (s24 : Sl), Fr a 52 [(0, (.pointer (some ⟨b_p_c, 0, none⟩))), (2, s3.v), (4, (.pointer (some ⟨b4, 0, none⟩))), (6, (.pointer (some ⟨b5, 0, none⟩))), (7, (.pointer (some ⟨b10, 0, none⟩))), (14, (.int .i64 (goLen p_s))), (15, (.int .i64 t_11))] ∧ St X w0 w m [q24, q8, [⟨b_p_c, [s1.v, (.int .i64 t_18.2.at_), (.int .u64 t_18.2.seed.v)], 65⟩], [⟨b10, [(.int .i64 t_23.Level), s24.v, s8.v, (.int .i64 t_23.Sum)], 29⟩], [⟨b5, [(.int .i64 0), nilS.v, nilS.v, (.int .i64 0)], 29⟩], [⟨b4, [s2.v], 26⟩]] ∧ OwnL m 3 q24 s24 t_23.Vars ∧ OwnL m 3 q8 s8 t_23.Where ∧ t_23.Where = t_7.1) ?_ ?_
   ·rcases bcase (t_18.1) with hc4 | hc4
    ·have hj3 := cond_f hc4 hj3
     refine q_cond_f hF rfl hc4 (q_skipc (n_jn ?_))
     obtain rfl := someI hj3
     exact ⟨q13, s13, hF.sub ⟨rfl, rfl, rfl, rfl, rfl, rfl, rfl, trivial⟩, hS.sel [1, 3, 0, 2, 4, 5] (by decide), h13, h14, h14k⟩
    ·have hj3 := cond_t hc4 hj3
     refine q_cond_t hF rfl hc4 (q_region (q_x (v := (.pointer (some ⟨b10, 1, none⟩))) hF hS (ex_fieldAddr Try.underlying29 rfl sz24 rfl rfl) rfl rfl fun a hF => q_x (v := s13.v) hF hS (ex_load1 2 0 Try.underlying24 rfl rfl rfl rfl) rfl rfl fun a hF => q_x (v := (.int .i64 t_11)) hF hS (ex_move rfl) rfl rfl fun a hF => q_do rfl fun _ hK => wp_buildSlice' (l := ([t_11] : List Int)) (cells := [(.int .i64 t_11)]) hF hS Try.underlying24 inf3 rfl rfl (by kernel_rfl) rfl rfl rfl ⟨rfl, rfl⟩ rfl rfl fun a w q20 s20 hF hS h20 _ => hK _ _ ?_))
     have hS : St _ _ _ _ [q13, q20, [⟨b_p_c, [s1.v, (.int .i64 t_18.2.at_), (.int .u64 t_18.2.seed.v)], 65⟩], [⟨b10, [(.int .i64 t_12.Level), s13.v, s8.v, (.int .i64 t_12.Sum)], 29⟩], q8, [⟨b5, [(.int .i64 0), nilS.v, nilS.v, (.int .i64 0)], 29⟩], [⟨b4, [s2.v], 26⟩]] := hS.sel [2, 0, 1, 3, 4, 5, 6] (by decide)
     obtain ⟨l_21, hl_21, hj3⟩ := bindS hj3
     refine q_do rfl fun _ hK => wp_append hF hS h13 Try.underlying24 inf3 rfl rfl rfl rfl (h20.vw hS (j := 1) rfl) rfl (by decide) hl_21 rfl fun a w q22 s22 hF hS h22 => hK _ _ (q_x (v := (.pointer (some ⟨b10, 1, none⟩))) hF hS (ex_fieldAddr Try.underlying29 rfl sz24 rfl rfl) rfl rfl fun a hF => q_store (vs := [s22.v]) (cs' := [(.int .i64 t_12.Level), s22.v, s8.v, (.int .i64 t_12.Sum)]) 3 0 hF hS sz24 rfl rfl rfl rfl rfl rfl rfl rfl fun a w hF hS => q_end (n_jn ?_))
     obtain rfl := someI hj3
     exact ⟨q22, s22, hF.sub ⟨rfl, rfl, rfl, rfl, rfl, rfl, rfl, trivial⟩, hS.sel [0, 4, 2, 3, 5, 6] (by decide), h22, h14, h14k⟩
   ·rintro a w ⟨q24, s24, hF, hS, h24, h25, h25k⟩
    refine n_ib (n_sq ?_)
    refine q_region (q_x (v := (.int .i64 (w64 (t_11 + 1)))) hF hS (ex_ibin rfl rfl rfl) rfl rfl fun a hF => q_x (v := (.int .i64 (w64 (t_11 + 1)))) hF hS (ex_move rfl) rfl rfl fun a hF => q_end ?_)
    obtain rfl := someI hb1
    exact ⟨rfl, q24, s24, _, _, _, rfl, hF.sub ⟨rfl, rfl, rfl, rfl, rfl, rfl, rfl, trivial⟩, hS.sel [0, 3, 2, 1, 4, 5] (by decide), h24, h25, h25k, h19, (hk19.trans h16k)⟩
 ·rintro e a w ⟨q27, s27, t_26, p_c_29, rfl, rfl, hF, hS, h27, h28, h28k, h30, h30k⟩
  refine x_ib (n_sq ?_)
  refine q_seq (q_seq (q_region (q_x (v := (.agg #[s2.v])) hF hS (ex_loadA (vs := [s2.v]) 5 0 Try.underlying26 rfl sz26 rfl rfl rfl rfl) rfl rfl fun a hF => ?_)))
  obtain ⟨t_31, ht_31, hr⟩ := bindS hr
  refine q_call (vs := [(.agg #[s2.v])]) hF hS Try.func62 (by kernel_rfl) rfl rfl rfl (c_spec_gGood p_g t_31 ht_31 _ m hS.vis s2 h2) ?_
  rintro a w _ rfl hF hS
  refine q_end (n_sq ?_)
  obtain ⟨j5, hj5, hr⟩ := bindS hr
  refine q_join (fun a w => ∃ t_41, ∃ p_c_44, j5 = (t_41, p_c_44) ∧ Fr a 52 [(0, (.pointer (some ⟨b_p_c, 0, none⟩))), (2, s3.v), (6, (.pointer (some ⟨b5, 0, none⟩))), (7, (.pointer (some ⟨b10, 0, none⟩)))] ∧ St X w0 w m [q27, q8, [⟨b10, [(.int .i64 t_41.Level), s27.v, s8.v, (.int .i64 t_41.Sum)], 29⟩], [⟨b_p_c, [s1.v, (.int .i64 p_c_44.at_), (.int .u64 p_c_44.seed.v)], 65⟩], [⟨b5, [(.int .i64 0), nilS.v, nilS.v, (.int .i64 0)], 29⟩]] ∧ OwnL m 3 q27 s27 t_41.Vars ∧ OwnL m 3 q8 s8 t_41.Where ∧ t_41.Where = t_7.1 ∧ Rd m s1 p_c_44.code ∧ p_c_44.code = p_c.code) ?_ ?_
  ·rcases bcase (t_31) with hc6 | hc6
   ·have hj5 := cond_f hc6 hj5
    refine q_cond_f hF rfl hc6 (q_skipc (n_jn ?_))
    obtain rfl := someI hj5
    exact ⟨_, _, rfl, hF.sub ⟨rfl, rfl, rfl, rfl, trivial⟩, hS.mask [true, true, true, true, true, false], h27, h28, h28k, h30, h30k⟩
   ·have hj5 := cond_t hc6 hj5
    refine q_cond_t hF rfl hc6 (q_seq (q_region (q_x (v := (.pointer (some ⟨b_p_c, 0, none⟩))) hF hS (ex_move rfl) rfl rfl fun a hF => ?_)))
    have hS : St _ _ _ _ [[⟨b_p_c, [s1.v, (.int .i64 p_c_29.at_), (.int .u64 p_c_29.seed.v)], 65⟩], q27, q8, [⟨b10, [(.int .i64 t_26.Level), s27.v, s8.v, (.int .i64 t_26.Sum)], 29⟩], [⟨b5, [(.int .i64 0), nilS.v, nilS.v, (.int .i64 0)], 29⟩], [⟨b4, [s2.v], 26⟩]] := hS.sel [3, 0, 1, 2, 4, 5] (by decide)
    have hS32 : St _ _ _ _ ([[⟨b_p_c, [s1.v, (.int .i64 p_c_29.at_), (.int .u64 p_c_29.seed.v)], 65⟩]] ++ [q27, q8, [⟨b10, [(.int .i64 t_26.Level), s27.v, s8.v, (.int .i64 t_26.Sum)], 29⟩], [⟨b5, [(.int .i64 0), nilS.v, nilS.v, (.int .i64 0)], 29⟩], [⟨b4, [s2.v], 26⟩]]) := hS
    have hE32 := hS32.enter
    obtain ⟨t_33, ht_33, hj5⟩ := bindS hj5
    refine q_do rfl fun _ hK => wp_callX (vs := [(.pointer (some ⟨b_p_c, 0, none⟩)), (.int .i64 3)]) hF Try.func53 (by kernel_rfl) rfl rfl rfl (c_spec_l1Cur_pick p_c_29 3 t_33 ht_33 _ m b_p_c s1 h30 _ hE32) fun a w _ hR hF => hK _ _ ?_
    obtain ⟨rfl, hR32, hk34⟩ := hR
    have hS : St _ _ _ _ [[⟨b_p_c, [s1.v, (.int .i64 t_33.2.at_), (.int .u64 t_33.2.seed.v)], 65⟩], q27, q8, [⟨b10, [(.int .i64 t_26.Level), s27.v, s8.v, (.int .i64 t_26.Sum)], 29⟩], [⟨b5, [(.int .i64 0), nilS.v, nilS.v, (.int .i64 0)], 29⟩], [⟨b4, [s2.v], 26⟩]] := hS32.leaveF hR32
    have h34 : Rd m s1 t_33.2.code := by rw [hk34]; exact h30
    refine q_x (v := (.pointer (some ⟨b10, 0, none⟩))) hF hS (ex_fieldAddr Try.underlying29 rfl sz3 rfl rfl) rfl rfl fun a hF => q_store (vs := [(.int .i64 t_33.1)]) (cs' := [(.int .i64 t_33.1), s27.v, s8.v, (.int .i64 t_26.Sum)]) 3 0 hF hS sz3 rfl rfl rfl rfl rfl rfl rfl rfl fun a w hF hS => q_end (n_sq (q_seq (q_region (q_x (v := (.agg #[s2.v])) hF hS (ex_loadA (vs := [s2.v]) 5 0 Try.underlying26 rfl sz26 rfl rfl rfl rfl) rfl rfl fun a hF => q_x (v := (.pointer (some ⟨b10, 0, none⟩))) hF hS (ex_fieldAddr Try.underlying29 rfl sz3 rfl rfl) rfl rfl fun a hF => q_x (v := (.int .i64 t_33.1)) hF hS (ex_load1 3 0 Try.underlying3 rfl rfl rfl rfl) rfl rfl fun a hF => ?_))))
    obtain ⟨t_35, ht_35, hj5⟩ := bindS hj5
    refine q_call (vs := [(.agg #[s2.v]), (.int .i64 t_33.1)]) hF hS Try.func64 (by kernel_rfl) rfl rfl rfl (c_spec_gLevel p_g t_33.1 t_35 ht_35 _ m hS.vis s2 h2) ?_
    rintro a w _ ⟨q37, s37, rfl, hR36, h37⟩ hF hS2
    have hS : St _ _ _ _ [q37, [⟨b_p_c, [s1.v, (.int .i64 t_33.2.at_), (.int .u64 t_33.2.seed.v)], 65⟩], q27, q8, [⟨b10, [(.int .i64 t_33.1), s27.v, s8.v, (.int .i64 t_26.Sum)], 29⟩], [⟨b5, [(.int .i64 0), nilS.v, nilS.v, (.int .i64 0)], 29⟩], [⟨b4, [s2.v], 26⟩]] := hS.joinF hR36
    refine q_x (v := (.int .i64 (goLen t_35))) hF hS (ex_len Try.underlying24 rfl h37.len) rfl rfl fun a hF => q_x (v := (.bool ((goLen t_35) == 0))) hF hS (ex_ibin rfl rfl rfl) rfl rfl fun a hF => q_end (n_sq ?_)
    obtain ⟨t_38, hj7, hj5⟩ := bindS hj5
    refine q_join (fun a w => Fr a 52 [(0, (.pointer (some ⟨b_p_c, 0, none⟩))), (2, s3.v), (6, (.pointer (some ⟨b5, 0, none⟩))), (7, (.pointer (some ⟨b10, 0, none⟩)))] ∧ St X w0 w m [q27, q8, [⟨b_p_c, [s1.v, (.int .i64 t_33.2.at_), (.int .u64 t_33.2.seed.v)], 65⟩], [⟨b10, [(.int .i64 t_38.Level), s27.v, s8.v, (.int .i64 t_38.Sum)], 29⟩], [⟨b5, [(.int .i64 0), nilS.v, nilS.v, (.int .i64 0)], 29⟩]] ∧ OwnL m 3 q27 s27 t_38.Vars ∧ OwnL m 3 q8 s8 t_38.Where ∧ t_38.Where = t_7.1) ?_ ?_
    ·rcases bcase ((goLen t_35) == 0) with hc8 | hc8
     ·have hj7 := cond_f hc8 hj7
      refine q_cond_f hF rfl hc8 (q_skipc (n_jn ?_))
      obtain rfl := someI hj7
      exact ⟨hF.sub ⟨rfl, rfl, rfl, rfl, trivial⟩, hS.sel [2, 3, 1, 4, 5] (by decide), h27, h28, h28k⟩
     ·have hj7 := cond_t hc8 hj7
      refine q_cond_t hF rfl hc8 (q_region (q_x (v := (.pointer (some ⟨b10, 0, none⟩))) hF hS (ex_fieldAddr Try.underlying29 rfl sz3 rfl rfl) rfl rfl fun a hF => q_store (vs := [(.int .i64 0)]) (cs' := [(.int .i64 0), s27.v, s8.v, (.int .i64 t_26.Sum)]) 4 0 hF hS sz3 rfl rfl rfl rfl rfl rfl rfl rfl fun a w hF hS => q_end (n_jn ?_)))
      obtain rfl := someI hj7
      exact ⟨hF.sub ⟨rfl, rfl, rfl, rfl, trivial⟩, hS.sel [2, 3, 1, 4, 5] (by decide), h27, h28, h28k⟩
    ·rintro a w ⟨hF, hS, h39, h40, h40k⟩
     refine n_jn ?_
     obtain rfl := someI hj5
     exact ⟨_, _, rfl, hF.sub ⟨rfl, rfl, rfl, rfl, trivial⟩, hS.sel [0, 1, 3, 2, 4] (by decide), h39, h40, h40k, h34, (hk34.trans h30k)⟩
  ·rintro a w ⟨t_41, p_c_44, rfl, hF, hS, h42, h43, h43k, h45, h45k⟩
   refine n_sq ?_
   refine q_seq (q_seq ?_)
   obtain ⟨j9, hj9, hr⟩ := bindS hr
   refine q_join (fun a w => ∃ t_49, ∃ p_c_50, j9 = (t_49, p_c_50) ∧ Fr a 52 [(0, (.pointer (some ⟨b_p_c, 0, none⟩))), (2, s3.v), (6, (.pointer (some ⟨b5, 0, none⟩))), (7, (.pointer (some ⟨b10, 0, none⟩))), (45, (.bool t_49))] ∧ St X w0 w m [q27, q8, [⟨b_p_c, [s1.v, (.int .i64 p_c_50.at_), (.int .u64 p_c_50.seed.v)], 65⟩], [⟨b10, [(.int .i64 t_41.Level), s27.v, s8.v, (.int .i64 t_41.Sum)], 29⟩], [⟨b5, [(.int .i64 0), nilS.v, nilS.v, (.int .i64 0)], 29⟩]] ∧ Rd m s1 p_c_50.code ∧ p_c_50.code = p_c.code) ?_ ?_
   ·refine q_region (q_x (v := (.pointer (some ⟨b_p_c, 0, none⟩))) hF hS (ex_move rfl) rfl rfl fun a hF => ?_)
    have hS : St _ _ _ _ [[⟨b_p_c, [s1.v, (.int .i64 p_c_44.at_), (.int .u64 p_c_44.seed.v)], 65⟩], q27, q8, [⟨b10, [(.int .i64 t_41.Level), s27.v, s8.v, (.int .i64 t_41.Sum)], 29⟩], [⟨b5, [(.int .i64 0), nilS.v, nilS.v, (.int .i64 0)], 29⟩]] := hS.sel [3, 0, 1, 2, 4] (by decide)
    have hS46 : St _ _ _ _ ([[⟨b_p_c, [s1.v, (.int .i64 p_c_44.at_), (.int .u64 p_c_44.seed.v)], 65⟩]] ++ [q27, q8, [⟨b10, [(.int .i64 t_41.Level), s27.v, s8.v, (.int .i64 t_41.Sum)], 29⟩], [⟨b5, [(.int .i64 0), nilS.v, nilS.v, (.int .i64 0)], 29⟩]]) := hS
    have hE46 := hS46.enter
    obtain ⟨t_47, ht_47, hj9⟩ := bindS hj9
    refine q_do rfl fun _ hK => wp_callX (vs := [(.pointer (some ⟨b_p_c, 0, none⟩)), (.int .i64 3)]) hF Try.func39 (by kernel_rfl) rfl rfl rfl (c_spec_l1Cur_one p_c_44 3 t_47 ht_47 _ m b_p_c s1 h45 _ hE46) fun a w _ hR hF => hK _ _ ?_
    obtain ⟨rfl, hR46, hk48⟩ := hR
    have hS : St _ _ _ _ [[⟨b_p_c, [s1.v, (.int .i64 t_47.2.at_), (.int .u64 t_47.2.seed.v)], 65⟩], q27, q8, [⟨b10, [(.int .i64 t_41.Level), s27.v, s8.v, (.int .i64 t_41.Sum)], 29⟩], [⟨b5, [(.int .i64 0), nilS.v, nilS.v, (.int .i64 0)], 29⟩]] := hS46.leaveF hR46
    have h48 : Rd m s1 t_47.2.code := by rw [hk48]; exact h45
    refine q_x (v := (.bool t_47.1)) hF hS (ex_move rfl) rfl rfl fun a hF => ?_
    rcases bcase (t_47.1) with hc10 | hc10
    ·have hj9 := cond_f hc10 hj9
     refine q_skip hF (wanted_f hF rfl rfl rfl hc10 rfl) rfl fun a hF => q_skip hF (wanted_f hF rfl rfl rfl hc10 rfl) rfl fun a hF => q_skip hF (wanted_f hF rfl rfl rfl hc10 rfl) rfl fun a hF => q_x (v := (.bool false)) hF hS (ex_pick_f rfl rfl hc10) rfl rfl fun a hF => q_end (n_jn ?_)
     obtain rfl := someI hj9
     exact ⟨_, _, rfl, hF.sub ⟨rfl, rfl, rfl, rfl, rfl, trivial⟩, hS.sel [1, 2, 0, 3, 4] (by decide), h48, (hk48.trans h45k)⟩
    ·have hj9 := cond_t hc10 hj9
     refine q_xg (v := s3.v) hF hS (ex_move rfl) (wanted_t hF rfl rfl rfl hc10) rfl fun a hF => q_xg (v := (.int .i64 (goLen p_s))) hF hS (ex_len Try.underlying27 rfl h3.len) (wanted_t hF rfl rfl rfl hc10) rfl fun a hF => q_xg (v := (.bool (decide (0 < (goLen p_s))))) hF hS (ex_ibin rfl rfl rfl) (wanted_t hF rfl rfl rfl hc10) rfl fun a hF => q_x (v := (.bool (decide (0 < (goLen p_s))))) hF hS (ex_pick_t rfl rfl hc10) rfl rfl fun a hF => q_end (n_jn ?_)
     obtain rfl := someI hj9
     exact ⟨_, _, rfl, hF.sub ⟨rfl, rfl, rfl, rfl, rfl, trivial⟩, hS.sel [1, 2, 0, 3, 4] (by decide), h48, (hk48.trans h45k)⟩
   ·rintro a w ⟨t_49, p_c_50, rfl, hF, hS, h51, h51k⟩
    refine n_sq ?_
    obtain ⟨j11, hj11, hr⟩ := bindS hr
    refine q_join (fun a w => ∃ p_c_55, ∃ t_57, j11 = (p_c_55, t_57) ∧ Fr a 52 [(6, (.pointer (some ⟨b5, 0, none⟩))), (7, (.pointer (some ⟨b10, 0, none⟩)))] ∧ St X w0 w m [q27, q8, [⟨b_p_c, [s1.v, (.int .i64 p_c_55.at_), (.int .u64 p_c_55.seed.v)], 65⟩], [⟨b10, [(.int .i64 t_57.Level), s27.v, s8.v, (.int .i64 t_57.Sum)], 29⟩], [⟨b5, [(.int .i64 0), nilS.v, nilS.v, (.int .i64 0)], 29⟩]] ∧ Rd m s1 p_c_55.code ∧ p_c_55.code = p_c.code ∧ OwnL m 3 q27 s27 t_57.Vars ∧ OwnL m 3 q8 s8 t_57.Where ∧ t_57.Where = t_7.1) ?_ ?_
    ·rcases bcase (t_49) with hc12 | hc12
     ·have hj11 := cond_f hc12 hj11
      refine q_cond_f hF rfl hc12 (q_skipc (n_jn ?_))
      obtain rfl := someI hj11
      exact ⟨_, _, rfl, hF.sub ⟨rfl, rfl, trivial⟩, hS, h51, h51k, h42, h43, h43k⟩
     ·have hj11 := cond_t hc12 hj11
      refine q_cond_t hF rfl hc12 (q_region (q_x (v := (.pointer (some ⟨b_p_c, 0, none⟩))) hF hS (ex_move rfl) rfl rfl fun a hF => q_x (v := s3.v) hF hS (ex_move rfl) rfl rfl fun a hF => q_x (v := (.int .i64 (goLen p_s))) hF hS (ex_len Try.underlying27 rfl h3.len) rfl rfl fun a hF => ?_))
      have hS : St _ _ _ _ [[⟨b_p_c, [s1.v, (.int .i64 p_c_50.at_), (.int .u64 p_c_50.seed.v)], 65⟩], q27, q8, [⟨b10, [(.int .i64 t_41.Level), s27.v, s8.v, (.int .i64 t_41.Sum)], 29⟩], [⟨b5, [(.int .i64 0), nilS.v, nilS.v, (.int .i64 0)], 29⟩]] := hS.sel [2, 0, 1, 3, 4] (by decide)
      have hS52 : St _ _ _ _ ([[⟨b_p_c, [s1.v, (.int .i64 p_c_50.at_), (.int .u64 p_c_50.seed.v)], 65⟩]] ++ [q27, q8, [⟨b10, [(.int .i64 t_41.Level), s27.v, s8.v, (.int .i64 t_41.Sum)], 29⟩], [⟨b5, [(.int .i64 0), nilS.v, nilS.v, (.int .i64 0)], 29⟩]]) := hS
      have hE52 := hS52.enter
      obtain ⟨t_53, ht_53, hj11⟩ := bindS hj11
      refine q_do rfl fun _ hK => wp_callX (vs := [(.pointer (some ⟨b_p_c, 0, none⟩)), (.int .i64 (goLen p_s))]) hF Try.func53 (by kernel_rfl) rfl rfl rfl (c_spec_l1Cur_pick p_c_50 (goLen p_s) t_53 ht_53 _ m b_p_c s1 h51 _ hE52) fun a w _ hR hF => hK _ _ ?_
      obtain ⟨rfl, hR52, hk54⟩ := hR
      have hS : St _ _ _ _ [[⟨b_p_c, [s1.v, (.int .i64 t_53.2.at_), (.int .u64 t_53.2.seed.v)], 65⟩], q27, q8, [⟨b10, [(.int .i64 t_41.Level), s27.v, s8.v, (.int .i64 t_41.Sum)], 29⟩], [⟨b5, [(.int .i64 0), nilS.v, nilS.v, (.int .i64 0)], 29⟩]] := hS52.leaveF hR52
      have h54 : Rd m s1 t_53.2.code := by rw [hk54]; exact h51
      refine q_x (v := (.pointer (some ⟨b10, 3, none⟩))) hF hS (ex_fieldAddr Try.underlying29 rfl sz3 rfl rfl) rfl rfl fun a hF => q_store (vs := [(.int .i64 t_53.1)]) (cs' := [(.int .i64 t_41.Level), s27.v, s8.v, (.int .i64 t_53.1)]) 3 0 hF hS sz3 rfl rfl rfl rfl rfl rfl rfl rfl fun a w hF hS => q_end (n_jn ?_)
      obtain rfl := someI hj11
      exact ⟨_, _, rfl, hF.sub ⟨rfl, rfl, trivial⟩, hS.sel [1, 2, 0, 3, 4] (by decide), h54, (hk54.trans h51k), h42, h43, h43k⟩
    ·rintro a w ⟨p_c_55, t_57, rfl, hF, hS, h56, h56k, h58, h59, h59k⟩
     refine n_sq ?_
     refine q_seq (q_region (q_x (v := (.agg #[(.int .i64 t_57.Level), s27.v, s8.v, (.int .i64 t_57.Sum)])) hF hS (ex_loadA (vs := [(.int .i64 t_57.Level), s27.v, s8.v, (.int .i64 t_57.Sum)]) 3 0 Try.underlying29 rfl sz29 rfl rfl rfl rfl) rfl rfl fun a hF => q_store (vs := [(.int .i64 t_57.Level), s27.v, s8.v, (.int .i64 t_57.Sum)]) (cs' := [(.int .i64 t_57.Level), s27.v, s8.v, (.int .i64 t_57.Sum)]) 4 0 hF hS sz29 rfl rfl rfl rfl rfl rfl rfl rfl fun a w hF hS => q_end (n_sq (q_ret ?_))))
     obtain rfl := someI hr
     exact ret_ofX hF hS rfl (.cellA (us := [(.int .i64 t_57.Level), s27.v, s8.v, (.int .i64 t_57.Sum)]) 4 0 Try.underlying29 rfl sz29 rfl rfl rfl rfl .nil) ⟨q27, q8, s27, s8, rfl, hS.sel [2, 0, 1] (by decide), h58, h59, h56k⟩

end Go.Proofs.Ytnmimeojimfogaa
