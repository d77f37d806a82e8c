/- The walks of the functions: each returns what its plain function says. -/
import Derived.Test.YtebjhiflnemkhaaPDefs
import Derived.Test.YtebjhiflnemkhaaRows
namespace Go.Proofs.Ytebjhiflnemkhaa
open Go.Gx Go.Gx.F Go.RowKit
set_option linter.all false
set_option maxRecDepth 10000

theorem mixed : Try.prog.follows .mixedOrders = true := by kernel_rfl
theorem inf3 : inf Try.prog 3 = some (1, 8, [(.int .i64 0)]) := by kernel_rfl
theorem inf5 : inf Try.prog 5 = some (1, 1, [(.int .u8 0)]) := by kernel_rfl
theorem inf9 : inf Try.prog 9 = some (1, 16, [(strV ([] : List UInt8))]) := by kernel_rfl
theorem inf36 : inf Try.prog 36 = some (3, 40, [(.int .i64 0), (.int .i64 0), nilS.v]) := by kernel_rfl
theorem inf85 : inf Try.prog 85 = some (2, 24, [(strV ([] : List UInt8)), (.int .i64 0)]) := by kernel_rfl
theorem inf93 : inf Try.prog 93 = some (1, 24, [nilS.v]) := by kernel_rfl
theorem sz3 : szOf Try.prog 3 = some 1 := by kernel_rfl
theorem sz5 : szOf Try.prog 5 = some 1 := by kernel_rfl
theorem sz9 : szOf Try.prog 9 = some 1 := by kernel_rfl
theorem sz22 : szOf Try.prog 22 = some 1 := by kernel_rfl
theorem sz24 : szOf Try.prog 24 = some 1 := by kernel_rfl
theorem sz36 : szOf Try.prog 36 = some 3 := by kernel_rfl
theorem sz62 : szOf Try.prog 62 = some 1 := by kernel_rfl
theorem sz85 : szOf Try.prog 85 = some 2 := by kernel_rfl
theorem sz93 : szOf Try.prog 93 = some 1 := by kernel_rfl

theorem c_laws_big (p_code : List (K .u8)) (p_more : List (K .u8)) (r : Bool) (hr : laws_big p_code p_more = some r) (w0 : World) (m : Mem) (hv : Vis m w0) (s1 : Sl) (h1 : Rd m s1 p_code) (s2 : Sl) (h2 : Rd m s2 p_more) :
  Ret Try.prog 18 [s1.v, s2.v] w0 (fun v _ => v = (.bool r)) := by
 unfold laws_big at hr
 refine ret_start Try.func18 rfl 16 rfl rfl m hv fun a hF hS => q_seq (q_region (q_x (v := (.bool false)) hF hS (ex_assign rfl) rfl rfl fun a hF => q_end (n_sq (q_seq ?_))))
 obtain ⟨t_3, hj1, hr⟩ := bindS hr
 refine q_join (fun a w => Fr a 16 [(4, (.bool t_3))] ∧ St [] w0 w m []) ?_ ?_
 ·refine q_region (q_x (v := s1.v) hF hS (ex_move rfl) rfl rfl fun a hF => q_x (v := (.int .i64 (goLen p_code))) hF hS (ex_len Try.underlying22 rfl h1.len) rfl rfl fun a hF => q_x (v := (.bool (decide (1048576 < (goLen p_code))))) hF hS (ex_ibin rfl rfl rfl) rfl rfl fun a hF => q_x (v := (.bool (decide (1048576 < (goLen p_code))))) hF hS (ex_move rfl) rfl rfl fun a hF => ?_)
  rcases bcase (decide (1048576 < (goLen p_code))) with hc2 | hc2
  ·have hj1 := cond_f hc2 hj1
   refine q_xg (v := s2.v) hF hS (ex_move rfl) (wanted_t hF rfl rfl rfl hc2) rfl fun a hF => q_xg (v := (.int .i64 (goLen p_more))) hF hS (ex_len Try.underlying22 rfl h2.len) (wanted_t hF rfl rfl rfl hc2) rfl fun a hF => q_xg (v := s1.v) hF hS (ex_move rfl) (wanted_t hF rfl rfl rfl hc2) rfl fun a hF => q_xg (v := (.int .i64 (goLen p_code))) hF hS (ex_len Try.underlying22 rfl h1.len) (wanted_t hF rfl rfl rfl hc2) rfl fun a hF => q_xg (v := (.int .i64 (w64 (1048576 - (goLen p_code))))) hF hS (ex_ibin rfl rfl rfl) (wanted_t hF rfl rfl rfl hc2) rfl fun a hF => q_xg (v := (.bool (decide ((w64 (1048576 - (goLen p_code))) < (goLen p_more))))) hF hS (ex_ibin rfl rfl rfl) (wanted_t hF rfl rfl rfl hc2) rfl fun a hF => q_x (v := (.bool (decide ((w64 (1048576 - (goLen p_code))) < (goLen p_more))))) hF hS (ex_pick_f rfl rfl hc2) rfl rfl fun a hF => q_x (v := (.bool (decide ((w64 (1048576 - (goLen p_code))) < (goLen p_more))))) hF hS (ex_assign rfl) rfl rfl fun a hF => q_end (n_jn ?_)
   obtain rfl := someI hj1
   exact ⟨hF.sub ⟨rfl, trivial⟩, hS⟩
  ·have hj1 := cond_t hc2 hj1
   refine q_skip hF (wanted_f hF rfl rfl rfl hc2 rfl) rfl fun a hF => q_skip hF (wanted_f hF rfl rfl rfl hc2 rfl) rfl fun a hF => q_skip hF (wanted_f hF rfl rfl rfl hc2 rfl) rfl fun a hF => q_skip hF (wanted_f hF rfl rfl rfl hc2 rfl) rfl fun a hF => q_skip hF (wanted_f hF rfl rfl rfl hc2 rfl) rfl fun a hF => q_skip hF (wanted_f hF rfl rfl rfl hc2 rfl) rfl fun a hF => q_x (v := (.bool true)) hF hS (ex_pick_t rfl rfl hc2) rfl rfl fun a hF => q_x (v := (.bool true)) hF hS (ex_assign rfl) rfl rfl fun a hF => q_end (n_jn ?_)
   obtain rfl := someI hj1
   exact ⟨hF.sub ⟨rfl, trivial⟩, hS⟩
 ·rintro a w ⟨hF, hS⟩
  refine n_sq (q_ret ?_)
  obtain rfl := someI hr
  exact ret_of hF hS rfl (.tmp rfl .nil) rfl

theorem c_spec_l1Cur_next (p_c : spec_l1Cur) (r : Int × spec_l1Cur) (hr : spec_l1Cur_next p_c = some r) (w0 : World) (m : Mem) (b_p_c : Nat) (s1 : Sl) (h1 : Rd m s1 p_c.code) (X : List Nat) (hS : St X w0 w0 m [[⟨b_p_c, [s1.v, (.int .i64 p_c.at_), (.int .u64 p_c.seed.v)], 64⟩]]) :
  RetX Try.prog 78 [(.pointer (some ⟨b_p_c, 0, none⟩))] w0 (fun v w => v = (.int .i64 r.1) ∧ St X w0 w m [[⟨b_p_c, [s1.v, (.int .i64 r.2.at_), (.int .u64 r.2.seed.v)], 64⟩]] ∧ r.2.code = p_c.code) := by
 unfold spec_l1Cur_next at hr
 refine ret_startX Try.func78 rfl 62 rfl rfl fun a hF => q_seq (q_region (q_x (v := (.int .i64 0)) hF hS (ex_assign rfl) rfl rfl fun a hF => q_end (n_sq (q_seq (q_region (q_x (v := (.int .i64 0)) hF hS (ex_assign rfl) rfl rfl fun a hF => q_end (n_sq (q_seq (q_seq (e_region ⟨[], []⟩ mixed fun w' hw' => ?_))))))))))
 have hS := hS.below hw'
 refine e_p (v := (.pointer (some ⟨b_p_c, 0, none⟩))) 0 hF rfl (ex_move rfl) rfl rfl (by kernel_rfl) (by kernel_rfl) (by kernel_rfl) fun a hF => e_p (v := (.pointer (some ⟨b_p_c, 0, none⟩))) 1 hF rfl (ex_nilCheck rfl) rfl rfl (by kernel_rfl) (by kernel_rfl) (by kernel_rfl) fun a hF => e_p (v := (.pointer (some ⟨b_p_c, 1, none⟩))) 2 hF rfl (ex_fieldAddr Try.underlying64 rfl sz3 rfl rfl) rfl rfl (by kernel_rfl) (by kernel_rfl) (by kernel_rfl) fun a hF => e_x (v := (.int .i64 p_c.at_)) 3 hF hS rfl (ex_load1 0 0 Try.underlying3 rfl rfl rfl rfl) rfl rfl (by kernel_rfl) (by kernel_rfl) (by kernel_rfl) (by kernel_rfl) fun a hF => e_p (v := (.pointer (some ⟨b_p_c, 0, none⟩))) 4 hF rfl (ex_move rfl) rfl rfl (by kernel_rfl) (by kernel_rfl) (by kernel_rfl) fun a hF => e_p (v := (.pointer (some ⟨b_p_c, 0, none⟩))) 5 hF rfl (ex_nilCheck rfl) rfl rfl (by kernel_rfl) (by kernel_rfl) (by kernel_rfl) fun a hF => e_p (v := (.pointer (some ⟨b_p_c, 0, none⟩))) 6 hF rfl (ex_fieldAddr Try.underlying64 rfl sz22 rfl rfl) rfl rfl (by kernel_rfl) (by kernel_rfl) (by kernel_rfl) fun a hF => e_x (v := s1.v) 7 hF hS rfl (ex_load1 0 0 Try.underlying22 rfl rfl rfl rfl) rfl rfl (by kernel_rfl) (by kernel_rfl) (by kernel_rfl) (by kernel_rfl) fun a hF => e_p (v := (.int .i64 (goLen p_c.code))) 8 hF rfl (ex_len Try.underlying22 rfl h1.len) rfl rfl (by kernel_rfl) (by kernel_rfl) (by kernel_rfl) fun a hF => e_p (v := (.bool (decide (p_c.at_ < (goLen p_c.code))))) 9 hF rfl (ex_ibin rfl rfl rfl) rfl rfl (by kernel_rfl) (by kernel_rfl) (by kernel_rfl) fun a hF => e_end (by kernel_rfl) (n_sq ?_) _
 obtain ⟨b_4, hj1, hr⟩ := bindS hr
 refine q_join (fun a w => Fr a 62 [(0, (.pointer (some ⟨b_p_c, 0, none⟩))), (3, (.int .i64 b_4))] ∧ St X w0 w m [[⟨b_p_c, [s1.v, (.int .i64 p_c.at_), (.int .u64 p_c.seed.v)], 64⟩]]) ?_ ?_
 ·rcases bcase (decide (p_c.at_ < (goLen p_c.code))) with hc2 | hc2
  ·have hj1 := cond_f hc2 hj1
   refine q_cond_f hF rfl hc2 (q_skipc (n_jn ?_))
   obtain rfl := someI hj1
   exact ⟨hF.sub ⟨rfl, rfl, trivial⟩, hS⟩
  ·have hj1 := cond_t hc2 hj1
   refine q_cond_t hF rfl hc2 (e_region ⟨[], []⟩ mixed fun w' hw' => ?_)
   have hS := hS.below hw'
   refine e_p (v := (.pointer (some ⟨b_p_c, 0, none⟩))) 0 hF rfl (ex_move rfl) rfl rfl (by kernel_rfl) (by kernel_rfl) (by kernel_rfl) fun a hF => e_p (v := (.pointer (some ⟨b_p_c, 0, none⟩))) 1 hF rfl (ex_nilCheck rfl) rfl rfl (by kernel_rfl) (by kernel_rfl) (by kernel_rfl) fun a hF => e_p (v := (.pointer (some ⟨b_p_c, 0, none⟩))) 2 hF rfl (ex_fieldAddr Try.underlying64 rfl sz22 rfl rfl) rfl rfl (by kernel_rfl) (by kernel_rfl) (by kernel_rfl) fun a hF => e_x (v := s1.v) 3 hF hS rfl (ex_load1 0 0 Try.underlying22 rfl rfl rfl rfl) rfl rfl (by kernel_rfl) (by kernel_rfl) (by kernel_rfl) (by kernel_rfl) fun a hF => e_p (v := (.pointer (some ⟨b_p_c, 0, none⟩))) 4 hF rfl (ex_move rfl) rfl rfl (by kernel_rfl) (by kernel_rfl) (by kernel_rfl) fun a hF => e_p (v := (.pointer (some ⟨b_p_c, 0, none⟩))) 5 hF rfl (ex_nilCheck rfl) rfl rfl (by kernel_rfl) (by kernel_rfl) (by kernel_rfl) fun a hF => e_p (v := (.pointer (some ⟨b_p_c, 1, none⟩))) 6 hF rfl (ex_fieldAddr Try.underlying64 rfl sz3 rfl rfl) rfl rfl (by kernel_rfl) (by kernel_rfl) (by kernel_rfl) fun a hF => e_x (v := (.int .i64 p_c.at_)) 7 hF hS rfl (ex_load1 0 0 Try.underlying3 rfl rfl rfl rfl) rfl rfl (by kernel_rfl) (by kernel_rfl) (by kernel_rfl) (by kernel_rfl) fun a hF => ?_
   obtain ⟨e_2, he_2, hj1⟩ := bindS hj1
   obtain ⟨vs3, at3, d3⟩ := h1.at he_2 1 rfl
   obtain rfl : vs3 = [(.int .u8 e_2.v)] := d3
   refine e_p (v := (elP s1 (p_c.at_.toNat * 1))) 8 hF rfl (ex_indexAddr Try.underlying22 sz5 rfl rfl (h1.idx he_2)) rfl rfl (by kernel_rfl) (by kernel_rfl) (by kernel_rfl) fun a hF => e_x (v := (.int .u8 e_2.v)) 9 hF hS rfl (ex_loadE1 0 Try.underlying5 rfl rfl ((at3).at) rfl rfl) rfl rfl (by kernel_rfl) (by kernel_rfl) (by kernel_rfl) (by kernel_rfl) fun a hF => e_p (v := (.int .i64 (w64 e_2.v))) 10 hF rfl (ex_conv Try.underlying5 Try.underlying3 rfl) rfl rfl (by kernel_rfl) (by kernel_rfl) (by kernel_rfl) fun a hF => e_p (v := (.int .i64 (w64 e_2.v))) 11 hF rfl (ex_assign rfl) rfl rfl (by kernel_rfl) (by kernel_rfl) (by kernel_rfl) fun a hF => e_end (by kernel_rfl) (n_jn ?_) _
   obtain rfl := someI hj1
   exact ⟨hF.sub ⟨rfl, rfl, trivial⟩, hS⟩
 ·rintro a w ⟨hF, hS⟩
  refine n_sq ?_
  refine q_seq (q_region (q_x (v := (.pointer (some ⟨b_p_c, 0, none⟩))) hF hS (ex_move rfl) rfl rfl fun a hF => q_x (v := (.pointer (some ⟨b_p_c, 0, none⟩))) hF hS (ex_nilCheck rfl) rfl rfl fun a hF => q_x (v := (.pointer (some ⟨b_p_c, 1, none⟩))) hF hS (ex_fieldAddr Try.underlying64 rfl sz3 rfl rfl) rfl rfl fun a hF => q_x (v := (.int .i64 p_c.at_)) hF hS (ex_load1 0 0 Try.underlying3 rfl rfl rfl rfl) rfl rfl fun a hF => q_x (v := (.int .i64 (w64 (p_c.at_ + 1)))) hF hS (ex_ibin rfl rfl rfl) rfl rfl fun a hF => q_x (v := (.pointer (some ⟨b_p_c, 0, none⟩))) hF hS (ex_nilCheck rfl) rfl rfl fun a hF => q_x (v := (.pointer (some ⟨b_p_c, 1, none⟩))) hF hS (ex_fieldAddr Try.underlying64 rfl sz3 rfl rfl) rfl rfl fun a hF => q_store (vs := [(.int .i64 (w64 (p_c.at_ + 1)))]) (cs' := [s1.v, (.int .i64 (w64 (p_c.at_ + 1))), (.int .u64 p_c.seed.v)]) 0 0 hF hS sz3 rfl rfl rfl rfl rfl rfl rfl rfl fun a w hF hS => q_end (n_sq (q_seq (q_region (q_x (v := (.pointer (some ⟨b_p_c, 0, none⟩))) hF hS (ex_move rfl) rfl rfl fun a hF => q_x (v := (.pointer (some ⟨b_p_c, 0, none⟩))) hF hS (ex_move rfl) rfl rfl fun a hF => q_x (v := (.pointer (some ⟨b_p_c, 0, none⟩))) hF hS (ex_nilCheck rfl) rfl rfl fun a hF => q_x (v := (.pointer (some ⟨b_p_c, 2, none⟩))) hF hS (ex_fieldAddr Try.underlying64 rfl sz62 rfl rfl) rfl rfl fun a hF => q_x (v := (.int .u64 p_c.seed.v)) hF hS (ex_load1 0 0 Try.underlying62 rfl rfl rfl rfl) rfl rfl fun a hF => q_x (v := (.int .u64 (IntKind.wrap .u64 (p_c.seed.v * 6364136223846793005)))) hF hS (ex_ibin rfl rfl rfl) rfl rfl fun a hF => q_x (v := (.int .i64 b_4)) hF hS (ex_move rfl) rfl rfl fun a hF => q_x (v := (.int .u64 (IntKind.wrap .u64 b_4))) hF hS (ex_conv Try.underlying3 Try.underlying62 rfl) rfl rfl fun a hF => q_x (v := (.int .u64 (IntKind.wrap .u64 ((IntKind.wrap .u64 (p_c.seed.v * 6364136223846793005)) + (IntKind.wrap .u64 b_4))))) hF hS (ex_ibin rfl rfl rfl) rfl rfl fun a hF => q_x (v := (.int .u64 (IntKind.wrap .u64 ((IntKind.wrap .u64 ((IntKind.wrap .u64 (p_c.seed.v * 6364136223846793005)) + (IntKind.wrap .u64 b_4))) + 1442695040888963407)))) hF hS (ex_ibin rfl rfl rfl) rfl rfl fun a hF => q_x (v := (.pointer (some ⟨b_p_c, 0, none⟩))) hF hS (ex_nilCheck rfl) rfl rfl fun a hF => q_x (v := (.pointer (some ⟨b_p_c, 2, none⟩))) hF hS (ex_fieldAddr Try.underlying64 rfl sz62 rfl rfl) rfl rfl fun a hF => ?_))))))
  refine q_store (vs := [(.int .u64 (IntKind.wrap .u64 ((IntKind.wrap .u64 ((IntKind.wrap .u64 (p_c.seed.v * 6364136223846793005)) + (IntKind.wrap .u64 b_4))) + 1442695040888963407)))]) (cs' := [s1.v, (.int .i64 (w64 (p_c.at_ + 1))), (.int .u64 (IntKind.wrap .u64 ((IntKind.wrap .u64 ((IntKind.wrap .u64 (p_c.seed.v * 6364136223846793005)) + (IntKind.wrap .u64 b_4))) + 1442695040888963407)))]) 0 0 hF hS sz62 rfl rfl rfl rfl rfl rfl rfl rfl fun a w hF hS => q_end (n_sq (q_seq (q_seq (e_region ⟨[], []⟩ mixed fun w' hw' => ?_))))
  have hS := hS.below hw'
  refine e_p (v := (.pointer (some ⟨b_p_c, 0, none⟩))) 0 hF rfl (ex_move rfl) rfl rfl (by kernel_rfl) (by kernel_rfl) (by kernel_rfl) fun a hF => e_p (v := (.pointer (some ⟨b_p_c, 0, none⟩))) 1 hF rfl (ex_nilCheck rfl) rfl rfl (by kernel_rfl) (by kernel_rfl) (by kernel_rfl) fun a hF => e_p (v := (.pointer (some ⟨b_p_c, 1, none⟩))) 2 hF rfl (ex_fieldAddr Try.underlying64 rfl sz3 rfl rfl) rfl rfl (by kernel_rfl) (by kernel_rfl) (by kernel_rfl) fun a hF => e_x (v := (.int .i64 (w64 (p_c.at_ + 1)))) 3 hF hS rfl (ex_load1 0 0 Try.underlying3 rfl rfl rfl rfl) rfl rfl (by kernel_rfl) (by kernel_rfl) (by kernel_rfl) (by kernel_rfl) fun a hF => e_p (v := (.pointer (some ⟨b_p_c, 0, none⟩))) 4 hF rfl (ex_move rfl) rfl rfl (by kernel_rfl) (by kernel_rfl) (by kernel_rfl) fun a hF => e_p (v := (.pointer (some ⟨b_p_c, 0, none⟩))) 5 hF rfl (ex_nilCheck rfl) rfl rfl (by kernel_rfl) (by kernel_rfl) (by kernel_rfl) fun a hF => e_p (v := (.pointer (some ⟨b_p_c, 0, none⟩))) 6 hF rfl (ex_fieldAddr Try.underlying64 rfl sz22 rfl rfl) rfl rfl (by kernel_rfl) (by kernel_rfl) (by kernel_rfl) fun a hF => e_x (v := s1.v) 7 hF hS rfl (ex_load1 0 0 Try.underlying22 rfl rfl rfl rfl) rfl rfl (by kernel_rfl) (by kernel_rfl) (by kernel_rfl) (by kernel_rfl) fun a hF => e_p (v := (.int .i64 (goLen p_c.code))) 8 hF rfl (ex_len Try.underlying22 rfl h1.len) rfl rfl (by kernel_rfl) (by kernel_rfl) (by kernel_rfl) fun a hF => e_p (v := (.bool (decide ((w64 (p_c.at_ + 1)) ≤ (goLen p_c.code))))) 9 hF rfl (ex_ibin rfl rfl rfl) rfl rfl (by kernel_rfl) (by kernel_rfl) (by kernel_rfl) fun a hF => e_end (by kernel_rfl) (n_sq ?_) _
  rcases bcase (decide ((w64 (p_c.at_ + 1)) ≤ (goLen p_c.code))) with hc3 | hc3
  ·have hr := cond_f hc3 hr
   refine q_cond_f hF rfl hc3 (q_skipc (n_sq (q_seq (q_region (q_x (v := (.pointer (some ⟨b_p_c, 0, none⟩))) hF hS (ex_move rfl) rfl rfl fun a hF => q_x (v := (.pointer (some ⟨b_p_c, 0, none⟩))) hF hS (ex_nilCheck rfl) rfl rfl fun a hF => q_x (v := (.pointer (some ⟨b_p_c, 2, none⟩))) hF hS (ex_fieldAddr Try.underlying64 rfl sz62 rfl rfl) rfl rfl fun a hF => q_x (v := (.int .u64 (IntKind.wrap .u64 ((IntKind.wrap .u64 ((IntKind.wrap .u64 (p_c.seed.v * 6364136223846793005)) + (IntKind.wrap .u64 b_4))) + 1442695040888963407)))) hF hS (ex_load1 0 0 Try.underlying62 rfl rfl rfl rfl) rfl rfl fun a hF => ?_)))))
   obtain ⟨t_5, ht_5, hr⟩ := bindS hr
   refine q_x (v := (.int .u64 t_5)) hF hS (ex_shr rfl rfl ht_5) rfl rfl fun a hF => q_x (v := (.int .u64 (goBits .and .u64 t_5 255))) hF hS (ex_bits rfl rfl rfl) rfl rfl fun a hF => q_x (v := (.int .i64 (w64 (goBits .and .u64 t_5 255)))) hF hS (ex_conv Try.underlying62 Try.underlying3 rfl) rfl rfl fun a hF => q_x (v := (.int .i64 (w64 (goBits .and .u64 t_5 255)))) hF hS (ex_assign rfl) rfl rfl fun a hF => q_end (n_sq (q_ret ?_))
   obtain rfl := someI hr
   exact ret_ofX hF hS rfl (.tmp rfl .nil) ⟨rfl, hS.sel [0] (by decide), rfl⟩
  ·have hr := cond_t hc3 hr
   refine q_cond_t hF rfl hc3 (q_seq (q_region (q_x (v := (.int .i64 b_4)) hF hS (ex_move rfl) rfl rfl fun a hF => q_x (v := (.int .i64 b_4)) hF hS (ex_assign rfl) rfl rfl fun a hF => q_end (n_sq (q_ret (r_sq ?_))))))
   obtain rfl := someI hr
   exact ret_ofX hF hS rfl (.tmp rfl .nil) ⟨rfl, hS.sel [0] (by decide), rfl⟩

theorem c_spec_l1Cur_pick (p_c : spec_l1Cur) (p_n : Int) (r : Int × spec_l1Cur) (hr : spec_l1Cur_pick p_c p_n = some r) (w0 : World) (m : Mem) (b_p_c : Nat) (s1 : Sl) (h1 : Rd m s1 p_c.code) (X : List Nat) (hS : St X w0 w0 m [[⟨b_p_c, [s1.v, (.int .i64 p_c.at_), (.int .u64 p_c.seed.v)], 64⟩]]) :
  RetX Try.prog 40 [(.pointer (some ⟨b_p_c, 0, none⟩)), (.int .i64 p_n)] w0 (fun v w => v = (.int .i64 r.1) ∧ St X w0 w m [[⟨b_p_c, [s1.v, (.int .i64 r.2.at_), (.int .u64 r.2.seed.v)], 64⟩]] ∧ r.2.code = p_c.code) := by
 unfold spec_l1Cur_pick at hr
 refine ret_startX Try.func40 rfl 20 rfl rfl fun a hF => q_seq (q_region (q_x (v := (.int .i64 0)) hF hS (ex_assign rfl) rfl rfl fun a hF => q_end (n_sq (q_seq (q_seq (q_region (q_x (v := (.int .i64 p_n)) hF hS (ex_move rfl) rfl rfl fun a hF => q_x (v := (.bool (decide (p_n ≤ 1)))) hF hS (ex_ibin rfl rfl rfl) rfl rfl fun a hF => q_end (n_sq ?_))))))))
 rcases bcase (decide (p_n ≤ 1)) with hc1 | hc1
 ·have hr := cond_f hc1 hr
  refine q_cond_f hF rfl hc1 (q_skipc (n_sq (q_seq (q_region (q_x (v := (.pointer (some ⟨b_p_c, 0, none⟩))) hF hS (ex_move rfl) rfl rfl fun a hF => ?_)))))
  have hS2 : St _ _ _ _ ([[⟨b_p_c, [s1.v, (.int .i64 p_c.at_), (.int .u64 p_c.seed.v)], 64⟩]] ++ []) := hS
  have hE2 := hS2.enter
  obtain ⟨t_3, ht_3, hr⟩ := bindS hr
  refine q_do rfl fun _ hK => wp_callX (vs := [(.pointer (some ⟨b_p_c, 0, none⟩))]) hF Try.func78 (by kernel_rfl) rfl rfl rfl (c_spec_l1Cur_next p_c t_3 ht_3 _ m b_p_c s1 h1 _ hE2) fun a w _ hR hF => hK _ _ ?_
  obtain ⟨rfl, hR2, hk4⟩ := hR
  have hS : St _ _ _ _ [[⟨b_p_c, [s1.v, (.int .i64 t_3.2.at_), (.int .u64 t_3.2.seed.v)], 64⟩]] := hS2.leaveF hR2
  have h4 : Rd m s1 t_3.2.code := by rw [hk4]; exact h1
  refine q_x (v := (.int .i64 t_3.1)) hF hS (ex_assign rfl) rfl rfl fun a hF => q_end (n_sq (q_seq (q_seq (q_region (q_x (v := (.int .i64 p_n)) hF hS (ex_move rfl) rfl rfl fun a hF => q_x (v := (.bool (decide (200 < p_n)))) hF hS (ex_ibin rfl rfl rfl) rfl rfl fun a hF => q_end (n_sq ?_))))))
  obtain ⟨j2, hj2, hr⟩ := bindS hr
  refine q_join (fun a w => ∃ x_8, ∃ p_c_9, j2 = (x_8, p_c_9) ∧ Fr a 20 [(1, (.int .i64 p_n)), (5, (.int .i64 x_8))] ∧ St X w0 w m [[⟨b_p_c, [s1.v, (.int .i64 p_c_9.at_), (.int .u64 p_c_9.seed.v)], 64⟩]] ∧ Rd m s1 p_c_9.code ∧ p_c_9.code = p_c.code) ?_ ?_
  ·rcases bcase (decide (200 < p_n)) with hc3 | hc3
   ·have hj2 := cond_f hc3 hj2
    refine q_cond_f hF rfl hc3 (q_skipc (n_jn ?_))
    obtain rfl := someI hj2
    exact ⟨_, _, rfl, hF.sub ⟨rfl, rfl, trivial⟩, hS, h4, hk4⟩
   ·have hj2 := cond_t hc3 hj2
    refine q_cond_t hF rfl hc3 (q_region (q_x (v := (.int .i64 t_3.1)) hF hS (ex_move rfl) rfl rfl fun a hF => q_x (v := (.int .i64 (w64 (t_3.1 * 256)))) hF hS (ex_ibin rfl rfl rfl) rfl rfl fun a hF => q_x (v := (.pointer (some ⟨b_p_c, 0, none⟩))) hF hS (ex_move rfl) rfl rfl fun a hF => ?_))
    have hS5 : St _ _ _ _ ([[⟨b_p_c, [s1.v, (.int .i64 t_3.2.at_), (.int .u64 t_3.2.seed.v)], 64⟩]] ++ []) := hS
    have hE5 := hS5.enter
    obtain ⟨t_6, ht_6, hj2⟩ := bindS hj2
    refine q_do rfl fun _ hK => wp_callX (vs := [(.pointer (some ⟨b_p_c, 0, none⟩))]) hF Try.func78 (by kernel_rfl) rfl rfl rfl (c_spec_l1Cur_next t_3.2 t_6 ht_6 _ m b_p_c s1 h4 _ hE5) fun a w _ hR hF => hK _ _ ?_
    obtain ⟨rfl, hR5, hk7⟩ := hR
    have hS : St _ _ _ _ [[⟨b_p_c, [s1.v, (.int .i64 t_6.2.at_), (.int .u64 t_6.2.seed.v)], 64⟩]] := hS5.leaveF hR5
    have h7 : Rd m s1 t_6.2.code := by rw [hk7]; exact h4
    refine q_x (v := (.int .i64 (w64 ((w64 (t_3.1 * 256)) + t_6.1)))) hF hS (ex_ibin rfl rfl rfl) rfl rfl fun a hF => q_x (v := (.int .i64 (w64 ((w64 (t_3.1 * 256)) + t_6.1)))) hF hS (ex_assign rfl) rfl rfl fun a hF => q_end (n_jn ?_)
    obtain rfl := someI hj2
    exact ⟨_, _, rfl, hF.sub ⟨rfl, rfl, trivial⟩, hS, h7, (hk7.trans hk4)⟩
  ·rintro a w ⟨x_8, p_c_9, rfl, hF, hS, h10, h10k⟩
   refine n_sq ?_
   refine q_seq (q_region (q_x (v := (.int .i64 x_8)) hF hS (ex_move rfl) rfl rfl fun a hF => q_x (v := (.int .i64 p_n)) hF hS (ex_move rfl) rfl rfl fun a hF => ?_))
   obtain ⟨t_11, ht_11, hr⟩ := bindS hr
   refine q_x (v := (.int .i64 t_11)) hF hS (ex_rem rfl rfl ht_11) rfl rfl fun a hF => q_x (v := (.int .i64 t_11)) hF hS (ex_assign rfl) rfl rfl fun a hF => q_end (n_sq (q_ret ?_))
   obtain rfl := someI hr
   exact ret_ofX hF hS rfl (.tmp rfl .nil) ⟨rfl, hS.sel [0] (by decide), h10k⟩
 ·have hr := cond_t hc1 hr
  refine q_cond_t hF rfl hc1 (q_seq (q_region (q_x (v := (.int .i64 0)) hF hS (ex_assign rfl) rfl rfl fun a hF => q_end (n_sq (q_ret (r_sq ?_))))))
  obtain rfl := someI hr
  exact ret_ofX hF hS rfl (.tmp rfl .nil) ⟨rfl, hS.sel [0] (by decide), rfl⟩

theorem c_spec_l1Cur_schema (p_c : spec_l1Cur) (r : (List impl_Variable) × spec_l1Cur) (hr : spec_l1Cur_schema p_c = some r) (w0 : World) (m : Mem) (b_p_c : Nat) (s1 : Sl) (h1 : Rd m s1 p_c.code) (X : List Nat) (hS : St X w0 w0 m [[⟨b_p_c, [s1.v, (.int .i64 p_c.at_), (.int .u64 p_c.seed.v)], 64⟩]]) :
  RetX Try.prog 68 [(.pointer (some ⟨b_p_c, 0, none⟩))] w0 (fun v w => ∃ (q0' : Piece) (s0' : Sl), v = s0'.v ∧ St X w0 w m [[⟨b_p_c, [s1.v, (.int .i64 r.2.at_), (.int .u64 r.2.seed.v)], 64⟩], q0'] ∧ OwnL m 85 q0' s0' r.1 ∧ r.2.code = p_c.code) := by
 unfold spec_l1Cur_schema at hr
 refine ret_startX Try.func68 rfl 26 rfl rfl fun a hF => q_seq (q_region (q_x (v := nilS.v) hF hS (ex_assign rfl) rfl rfl fun a hF => q_end (n_sq (q_seq (q_region (q_do rfl fun _ hK => wp_buildSlice' (l := ([([115, 101, 120] : List UInt8), ([97, 103, 101] : List UInt8), ([106, 111, 98] : List UInt8), ([104, 111, 109, 101] : List UInt8), ([115, 105, 122, 101] : List UInt8), ([108, 97, 110, 103] : List UInt8)] : List (List UInt8))) (cells := [(strV ([115, 101, 120] : List UInt8)), (strV ([97, 103, 101] : List UInt8)), (strV ([106, 111, 98] : List UInt8)), (strV ([104, 111, 109, 101] : List UInt8)), (strV ([115, 105, 122, 101] : List UInt8)), (strV ([108, 97, 110, 103] : List UInt8))]) hF hS Try.underlying98 inf9 rfl rfl (by kernel_rfl) rfl rfl rfl ⟨rfl, rfl, rfl, rfl, rfl, rfl, rfl⟩ rfl rfl fun a w q2 s2 hF hS h2 _ => hK _ _ (q_x (v := s2.v) hF hS (ex_assign rfl) rfl rfl fun a hF => q_end (n_sq (q_seq (q_region (q_x (v := nilS.v) hF hS (ex_assign rfl) rfl rfl fun a hF => q_end (n_sq (q_seq (q_seq (q_region (q_x (v := (.int .i64 0)) hF hS (ex_assign rfl) rfl rfl fun a hF => q_end (n_sq (q_block ?_))))))))))))))))))
 obtain ⟨o1, hl1, hr⟩ := bindS hr
 refine q_loop (fun (s : (List impl_Variable) × Int × spec_l1Cur) a w => ∃ (q4 : Piece), ∃ (s4 : Sl), ∃ out_3, ∃ k_5, ∃ p_c_6, s = (out_3, k_5, p_c_6) ∧ Fr a 26 [(0, (.pointer (some ⟨b_p_c, 0, none⟩))), (3, s2.v), (4, s4.v), (5, (.int .i64 k_5))] ∧ St X w0 w m [q4, q2, [⟨b_p_c, [s1.v, (.int .i64 p_c_6.at_), (.int .u64 p_c_6.seed.v)], 64⟩]] ∧ OwnL m 85 q4 s4 out_3 ∧ Rd m s1 p_c_6.code ∧ p_c_6.code = p_c.code) (fun (o : (List impl_Variable) × spec_l1Cur) e a w => ∃ (q27 : Piece), ∃ (s27 : Sl), ∃ out_26, ∃ p_c_28, o = (out_26, p_c_28) ∧ e = .exit 0 ∧ Fr a 26 [(4, s27.v)] ∧ St X w0 w m [q27, [⟨b_p_c, [s1.v, (.int .i64 p_c_28.at_), (.int .u64 p_c_28.seed.v)], 64⟩]] ∧ OwnL m 85 q27 s27 out_26 ∧ Rd m s1 p_c_28.code ∧ p_c_28.code = p_c.code) hl1 ⟨[], nilS, _, _, _, rfl, hF.sub ⟨rfl, rfl, rfl, rfl, trivial⟩, hS.sel [2, 0, 1] (by decide), (OwnL.nil (α := impl_Variable) m 85), h1, rfl⟩ ?_ ?_
 ·clear hF hS
  rintro s a w st ⟨q4, s4, out_3, k_5, p_c_6, rfl, hF, hS, h4, h7, h7k⟩ hb1
  unfold spec_l1Cur_schema_l1 at hb1
  refine q_seq (q_seq (q_region (q_x (v := (.int .i64 k_5)) hF hS (ex_move rfl) rfl rfl fun a hF => q_x (v := (.pointer (some ⟨b_p_c, 0, none⟩))) hF hS (ex_move rfl) rfl rfl fun a hF => ?_)))
  have hS : St _ _ _ _ [[⟨b_p_c, [s1.v, (.int .i64 p_c_6.at_), (.int .u64 p_c_6.seed.v)], 64⟩], q4, q2] := hS.sel [2, 0, 1] (by decide)
  have hS8 : St _ _ _ _ ([[⟨b_p_c, [s1.v, (.int .i64 p_c_6.at_), (.int .u64 p_c_6.seed.v)], 64⟩]] ++ [q4, q2]) := hS
  have hE8 := hS8.enter
  obtain ⟨t_9, ht_9, hb1⟩ := bindS hb1
  refine q_do rfl fun _ hK => wp_callX (vs := [(.pointer (some ⟨b_p_c, 0, none⟩)), (.int .i64 3)]) hF Try.func40 (by kernel_rfl) rfl rfl rfl (c_spec_l1Cur_pick p_c_6 3 t_9 ht_9 _ m b_p_c s1 h7 _ hE8) fun a w _ hR hF => hK _ _ ?_
  obtain ⟨rfl, hR8, hk10⟩ := hR
  have hS : St _ _ _ _ [[⟨b_p_c, [s1.v, (.int .i64 t_9.2.at_), (.int .u64 t_9.2.seed.v)], 64⟩], q4, q2] := hS8.leaveF hR8
  have h10 : Rd m s1 t_9.2.code := by rw [hk10]; exact h7
  refine q_x (v := (.int .i64 (w64 (1 + t_9.1)))) hF hS (ex_ibin rfl rfl rfl) rfl rfl fun a hF => q_x (v := (.bool (decide (k_5 < (w64 (1 + t_9.1)))))) hF hS (ex_ibin rfl rfl rfl) rfl rfl fun a hF => q_end (n_sq ?_)
  rcases bcase (decide (k_5 < (w64 (1 + t_9.1)))) with hc2 | hc2
  ·have hb1 := cond_f hc2 hb1
   refine q_cond_f hF rfl hc2 (q_exit (x_sq ?_))
   obtain rfl := someI hb1
   exact ⟨nofun, .inl ⟨q4, s4, _, _, rfl, rfl, hF.sub ⟨rfl, trivial⟩, hS.sel [1, 0] (by decide), h4, h10, (hk10.trans h7k)⟩⟩
  ·have hb1 := cond_t hc2 hb1
   refine q_cond_t hF rfl hc2 (q_skipc (n_sq (q_seq (q_block ?_))))
   obtain ⟨j3, hj3, hb1⟩ := bindS hb1
   refine q_join (fun a w => ∃ (q23 : Piece), ∃ (s23 : Sl), ∃ out_22, ∃ p_c_24, j3 = (out_22, p_c_24) ∧ Fr a 26 [(0, (.pointer (some ⟨b_p_c, 0, none⟩))), (3, s2.v), (4, s23.v), (5, (.int .i64 k_5))] ∧ St X w0 w m [q2, q23, [⟨b_p_c, [s1.v, (.int .i64 p_c_24.at_), (.int .u64 p_c_24.seed.v)], 64⟩]] ∧ OwnL m 85 q23 s23 out_22 ∧ Rd m s1 p_c_24.code ∧ p_c_24.code = p_c.code) ?_ ?_
   ·refine e_region ⟨[6, 10], []⟩ mixed fun w' hw' => ?_
    have hS := hS.below hw'
    refine e_p (v := s4.v) 0 hF rfl (ex_move rfl) rfl rfl (by kernel_rfl) (by kernel_rfl) (by kernel_rfl) fun a hF => e_p (v := s2.v) 1 hF rfl (ex_move rfl) rfl rfl (by kernel_rfl) (by kernel_rfl) (by kernel_rfl) fun a hF => e_p (v := (.int .i64 k_5)) 2 hF rfl (ex_move rfl) rfl rfl (by kernel_rfl) (by kernel_rfl) (by kernel_rfl) fun a hF => ?_
    obtain ⟨e_11, he_11, hj3⟩ := bindS hj3
    obtain ⟨vs12, at12, d12⟩ := h2.at he_11 1 rfl
    obtain rfl : vs12 = [(strV e_11)] := d12
    refine e_p (v := (elP s2 (k_5.toNat * 1))) 3 hF rfl (ex_indexAddr Try.underlying98 sz9 rfl rfl (h2.idx he_11)) rfl rfl (by kernel_rfl) (by kernel_rfl) (by kernel_rfl) fun a hF => e_p (v := (.pointer (some ⟨b_p_c, 0, none⟩))) 5 hF rfl (ex_move rfl) rfl rfl (by kernel_rfl) (by kernel_rfl) (by kernel_rfl) fun a hF => ?_
    obtain ⟨t_17, ht_17, hj3⟩ := bindS hj3
    obtain ⟨l_20, hl_20, hj3⟩ := bindS hj3
    refine e_all [4, 6] (by kernel_rfl) rfl ⟨?_, ?_, trivial⟩
    ·refine e_lx (v := (strV e_11)) hF hS rfl (ex_loadE1 0 Try.underlying9 rfl rfl (at12.at 2 rfl) rfl rfl) rfl rfl fun a hF => e_one 6 (by kernel_rfl) ?_
     have hS16 : St _ _ _ _ ([[⟨b_p_c, [s1.v, (.int .i64 t_9.2.at_), (.int .u64 t_9.2.seed.v)], 64⟩]] ++ [q4, q2]) := hS
     have hE16 := hS16.enter
     refine e_opl rfl rfl rfl fun _ hK => wp_callX (vs := [(.pointer (some ⟨b_p_c, 0, none⟩)), (.int .i64 3)]) hF Try.func40 (by kernel_rfl) rfl rfl rfl (c_spec_l1Cur_pick t_9.2 3 t_17 ht_17 _ m b_p_c s1 h10 _ hE16) fun a w _ hR hF => hK _ _ ?_
     obtain ⟨rfl, hR16, hk18⟩ := hR
     have hS : St _ _ _ _ [[⟨b_p_c, [s1.v, (.int .i64 t_17.2.at_), (.int .u64 t_17.2.seed.v)], 64⟩], q4, q2] := hS16.leaveF hR16
     have h18 : Rd m s1 t_17.2.code := by rw [hk18]; exact h10
     refine ⟨kpN, ?_⟩
     refine e_p (v := (.int .i64 (w64 (2 + t_17.1)))) 7 hF rfl (ex_ibin rfl rfl rfl) rfl rfl (by kernel_rfl) (by kernel_rfl) (by kernel_rfl) fun a hF => e_p (v := (.agg #[(strV e_11), (.int .i64 (w64 (2 + t_17.1)))])) 8 hF rfl (ex_build (cells := [(strV e_11), (.int .i64 (w64 (2 + t_17.1)))]) rfl (by kernel_rfl)) rfl rfl (by kernel_rfl) (by kernel_rfl) (by kernel_rfl) fun a hF => e_one 9 (by kernel_rfl) (e_op rfl rfl fun _ hK => wp_buildSlice' (l := ([(impl_Variable.mk e_11 (w64 (2 + t_17.1)))] : List impl_Variable)) (cells := [(strV e_11), (.int .i64 (w64 (2 + t_17.1)))]) hF hS Try.underlying23 inf85 rfl rfl (by kernel_rfl) rfl rfl rfl ⟨rfl, rfl⟩ rfl rfl fun a w q19 s19 hF hS h19 hb => hK _ _ hb (e_one 10 (by kernel_rfl) ?_))
     have hS : St _ _ _ _ [q4, q19, [⟨b_p_c, [s1.v, (.int .i64 t_17.2.at_), (.int .u64 t_17.2.seed.v)], 64⟩], q2] := hS.sel [2, 0, 1, 3] (by decide)
     refine e_opl rfl rfl rfl fun _ hK => wp_append hF hS h4 Try.underlying23 inf85 rfl rfl rfl rfl (h19.vw hS (j := 1) rfl) rfl (by decide) hl_20 rfl fun a w q21 s21 hF hS h21 => hK _ _ (⟨kpN, ?_⟩)
     refine e_p (v := s21.v) 11 hF rfl (ex_assign rfl) rfl rfl (by kernel_rfl) (by kernel_rfl) (by kernel_rfl) fun a hF => e_end (by kernel_rfl) (n_jn ?_) _
     obtain rfl := someI hj3
     exact ⟨q21, s21, _, _, rfl, hF.sub ⟨rfl, rfl, rfl, rfl, trivial⟩, hS.sel [3, 0, 2] (by decide), h21, h18, (hk18.trans (hk10.trans h7k))⟩
    ·have hS16 : St _ _ _ _ ([[⟨b_p_c, [s1.v, (.int .i64 t_9.2.at_), (.int .u64 t_9.2.seed.v)], 64⟩]] ++ [q4, q2]) := hS
     have hE16 := hS16.enter
     refine e_opl rfl rfl rfl fun _ hK => wp_callX (vs := [(.pointer (some ⟨b_p_c, 0, none⟩)), (.int .i64 3)]) hF Try.func40 (by kernel_rfl) rfl rfl rfl (c_spec_l1Cur_pick t_9.2 3 t_17 ht_17 _ m b_p_c s1 h10 _ hE16) fun a w _ hR hF => hK _ _ ?_
     obtain ⟨rfl, hR16, hk18⟩ := hR
     have hS : St _ _ _ _ [[⟨b_p_c, [s1.v, (.int .i64 t_17.2.at_), (.int .u64 t_17.2.seed.v)], 64⟩], q4, q2] := hS16.leaveF hR16
     have h18 : Rd m s1 t_17.2.code := by rw [hk18]; exact h10
     refine ⟨kpN, ?_⟩
     refine e_p (v := (.int .i64 (w64 (2 + t_17.1)))) 7 hF rfl (ex_ibin rfl rfl rfl) rfl rfl (by kernel_rfl) (by kernel_rfl) (by kernel_rfl) fun a hF => e_one 4 (by kernel_rfl) (e_lx (v := (strV e_11)) hF hS rfl (ex_loadE1 0 Try.underlying9 rfl rfl (at12.at 2 rfl) rfl rfl) rfl rfl fun a hF => e_p (v := (.agg #[(strV e_11), (.int .i64 (w64 (2 + t_17.1)))])) 8 hF rfl (ex_build (cells := [(strV e_11), (.int .i64 (w64 (2 + t_17.1)))]) rfl (by kernel_rfl)) rfl rfl (by kernel_rfl) (by kernel_rfl) (by kernel_rfl) fun a hF => e_one 9 (by kernel_rfl) (e_op rfl rfl fun _ hK => wp_buildSlice' (l := ([(impl_Variable.mk e_11 (w64 (2 + t_17.1)))] : List impl_Variable)) (cells := [(strV e_11), (.int .i64 (w64 (2 + t_17.1)))]) hF hS Try.underlying23 inf85 rfl rfl (by kernel_rfl) rfl rfl rfl ⟨rfl, rfl⟩ rfl rfl fun a w q19 s19 hF hS h19 hb => hK _ _ hb (e_one 10 (by kernel_rfl) ?_)))
     have hS : St _ _ _ _ [q4, q19, [⟨b_p_c, [s1.v, (.int .i64 t_17.2.at_), (.int .u64 t_17.2.seed.v)], 64⟩], q2] := hS.sel [2, 0, 1, 3] (by decide)
     refine e_opl rfl rfl rfl fun _ hK => wp_append hF hS h4 Try.underlying23 inf85 rfl rfl rfl rfl (h19.vw hS (j := 1) rfl) rfl (by decide) hl_20 rfl fun a w q21 s21 hF hS h21 => hK _ _ (⟨kpN, ?_⟩)
     refine e_p (v := s21.v) 11 hF rfl (ex_assign rfl) rfl rfl (by kernel_rfl) (by kernel_rfl) (by kernel_rfl) fun a hF => e_end (by kernel_rfl) (n_jn ?_) _
     obtain rfl := someI hj3
     exact ⟨q21, s21, _, _, rfl, hF.sub ⟨rfl, rfl, rfl, rfl, trivial⟩, hS.sel [3, 0, 2] (by decide), h21, h18, (hk18.trans (hk10.trans h7k))⟩
   ·rintro a w ⟨q23, s23, out_22, p_c_24, rfl, hF, hS, h23, h25, h25k⟩
    refine n_ib (n_sq ?_)
    refine q_region (q_x (v := (.int .i64 k_5)) hF hS (ex_move rfl) rfl rfl fun a hF => q_x (v := (.int .i64 (w64 (k_5 + 1)))) hF hS (ex_ibin rfl rfl rfl) rfl rfl fun a hF => q_x (v := (.int .i64 (w64 (k_5 + 1)))) hF hS (ex_assign rfl) rfl rfl fun a hF => q_end ?_)
    obtain rfl := someI hb1
    exact ⟨rfl, q23, s23, _, _, _, rfl, hF.sub ⟨rfl, rfl, rfl, rfl, trivial⟩, hS.sel [1, 0, 2] (by decide), h23, h25, h25k⟩
 ·rintro e a w ⟨q27, s27, out_26, p_c_28, rfl, rfl, hF, hS, h27, h29, h29k⟩
  refine x_ib (n_sq ?_)
  refine q_seq (q_region (q_x (v := s27.v) hF hS (ex_move rfl) rfl rfl fun a hF => q_x (v := s27.v) hF hS (ex_assign rfl) rfl rfl fun a hF => q_end (n_sq (q_ret ?_))))
  obtain rfl := someI hr
  exact ret_ofX hF hS rfl (.tmp rfl .nil) ⟨q27, s27, rfl, hS.sel [1, 0] (by decide), h27, h29k⟩

theorem c_spec_l1Cur_among (p_c : spec_l1Cur) (p_list : List Int) (r : Int × spec_l1Cur) (hr : spec_l1Cur_among p_c p_list = some r) (w0 : World) (m : Mem) (b_p_c : Nat) (s1 : Sl) (h1 : Rd m s1 p_c.code) (s2 : Sl) (h2 : Rd m s2 p_list) (X : List Nat) (hS : St X w0 w0 m [[⟨b_p_c, [s1.v, (.int .i64 p_c.at_), (.int .u64 p_c.seed.v)], 64⟩]]) :
  RetX Try.prog 69 [(.pointer (some ⟨b_p_c, 0, none⟩)), s2.v] w0 (fun v w => v = (.int .i64 r.1) ∧ St X w0 w m [[⟨b_p_c, [s1.v, (.int .i64 r.2.at_), (.int .u64 r.2.seed.v)], 64⟩]] ∧ r.2.code = p_c.code) := by
 unfold spec_l1Cur_among at hr
 refine ret_startX Try.func69 rfl 12 rfl rfl fun a hF => q_seq (q_region (q_x (v := (.int .i64 0)) hF hS (ex_assign rfl) rfl rfl fun a hF => q_end (n_sq (q_seq (q_region (q_x (v := s2.v) hF hS (ex_move rfl) rfl rfl fun a hF => q_x (v := (.pointer (some ⟨b_p_c, 0, none⟩))) hF hS (ex_move rfl) rfl rfl fun a hF => q_x (v := s2.v) hF hS (ex_move rfl) rfl rfl fun a hF => q_x (v := (.int .i64 (goLen p_list))) hF hS (ex_len Try.underlying24 rfl h2.len) rfl rfl fun a hF => ?_))))))
 have hS3 : St _ _ _ _ ([[⟨b_p_c, [s1.v, (.int .i64 p_c.at_), (.int .u64 p_c.seed.v)], 64⟩]] ++ []) := hS
 have hE3 := hS3.enter
 obtain ⟨t_4, ht_4, hr⟩ := bindS hr
 refine q_do rfl fun _ hK => wp_callX (vs := [(.pointer (some ⟨b_p_c, 0, none⟩)), (.int .i64 (goLen p_list))]) hF Try.func40 (by kernel_rfl) rfl rfl rfl (c_spec_l1Cur_pick p_c (goLen p_list) t_4 ht_4 _ m b_p_c s1 h1 _ hE3) fun a w _ hR hF => hK _ _ ?_
 obtain ⟨rfl, hR3, hk5⟩ := hR
 have hS : St _ _ _ _ [[⟨b_p_c, [s1.v, (.int .i64 t_4.2.at_), (.int .u64 t_4.2.seed.v)], 64⟩]] := hS3.leaveF hR3
 have h5 : Rd m s1 t_4.2.code := by rw [hk5]; exact h1
 obtain ⟨e_6, he_6, hr⟩ := bindS hr
 obtain ⟨vs7, at7, d7⟩ := h2.at he_6 1 rfl
 obtain rfl : vs7 = [(.int .i64 e_6)] := d7
 refine q_x (v := (elP s2 (t_4.1.toNat * 1))) hF hS (ex_indexAddr Try.underlying24 sz3 rfl rfl (h2.idx he_6)) rfl rfl fun a hF => q_x (v := (.int .i64 e_6)) hF hS (ex_loadE1 0 Try.underlying3 rfl rfl ((at7).at) rfl rfl) rfl rfl fun a hF => q_x (v := (.int .i64 e_6)) hF hS (ex_assign rfl) rfl rfl fun a hF => q_end (n_sq (q_ret ?_))
 obtain rfl := someI hr
 exact ret_ofX hF hS rfl (.tmp rfl .nil) ⟨rfl, hS.sel [0] (by decide), hk5⟩

theorem c_spec_l1Cur_of (p_c : spec_l1Cur) (p_list : List (List UInt8)) (r : (List UInt8) × spec_l1Cur) (hr : spec_l1Cur_of p_c p_list = some r) (w0 : World) (m : Mem) (b_p_c : Nat) (s1 : Sl) (h1 : Rd m s1 p_c.code) (s2 : Sl) (h2 : Rd m s2 p_list) (X : List Nat) (hS : St X w0 w0 m [[⟨b_p_c, [s1.v, (.int .i64 p_c.at_), (.int .u64 p_c.seed.v)], 64⟩]]) :
  RetX Try.prog 70 [(.pointer (some ⟨b_p_c, 0, none⟩)), s2.v] w0 (fun v w => v = (strV r.1) ∧ St X w0 w m [[⟨b_p_c, [s1.v, (.int .i64 r.2.at_), (.int .u64 r.2.seed.v)], 64⟩]] ∧ r.2.code = p_c.code) := by
 unfold spec_l1Cur_of at hr
 refine ret_startX Try.func70 rfl 12 rfl rfl fun a hF => q_seq (q_region (q_x (v := (strV ([] : List UInt8))) hF hS (ex_assign rfl) rfl rfl fun a hF => q_end (n_sq (q_seq (q_region (q_x (v := s2.v) hF hS (ex_move rfl) rfl rfl fun a hF => q_x (v := (.pointer (some ⟨b_p_c, 0, none⟩))) hF hS (ex_move rfl) rfl rfl fun a hF => q_x (v := s2.v) hF hS (ex_move rfl) rfl rfl fun a hF => q_x (v := (.int .i64 (goLen p_list))) hF hS (ex_len Try.underlying98 rfl h2.len) rfl rfl fun a hF => ?_))))))
 have hS3 : St _ _ _ _ ([[⟨b_p_c, [s1.v, (.int .i64 p_c.at_), (.int .u64 p_c.seed.v)], 64⟩]] ++ []) := hS
 have hE3 := hS3.enter
 obtain ⟨t_4, ht_4, hr⟩ := bindS hr
 refine q_do rfl fun _ hK => wp_callX (vs := [(.pointer (some ⟨b_p_c, 0, none⟩)), (.int .i64 (goLen p_list))]) hF Try.func40 (by kernel_rfl) rfl rfl rfl (c_spec_l1Cur_pick p_c (goLen p_list) t_4 ht_4 _ m b_p_c s1 h1 _ hE3) fun a w _ hR hF => hK _ _ ?_
 obtain ⟨rfl, hR3, hk5⟩ := hR
 have hS : St _ _ _ _ [[⟨b_p_c, [s1.v, (.int .i64 t_4.2.at_), (.int .u64 t_4.2.seed.v)], 64⟩]] := hS3.leaveF hR3
 have h5 : Rd m s1 t_4.2.code := by rw [hk5]; exact h1
 obtain ⟨e_6, he_6, hr⟩ := bindS hr
 obtain ⟨vs7, at7, d7⟩ := h2.at he_6 1 rfl
 obtain rfl : vs7 = [(strV e_6)] := d7
 refine q_x (v := (elP s2 (t_4.1.toNat * 1))) hF hS (ex_indexAddr Try.underlying98 sz9 rfl rfl (h2.idx he_6)) rfl rfl fun a hF => q_x (v := (strV e_6)) hF hS (ex_loadE1 0 Try.underlying9 rfl rfl ((at7).at) rfl rfl) rfl rfl fun a hF => q_x (v := (strV e_6)) hF hS (ex_assign rfl) rfl rfl fun a hF => q_end (n_sq (q_ret ?_))
 obtain rfl := someI hr
 exact ret_ofX hF hS rfl (.tmp rfl .nil) ⟨rfl, hS.sel [0] (by decide), hk5⟩

theorem c_spec_l1Cur_anySchema (p_c : spec_l1Cur) (r : (List impl_Variable) × spec_l1Cur) (hr : spec_l1Cur_anySchema p_c = some r) (w0 : World) (m : Mem) (b_p_c : Nat) (s1 : Sl) (h1 : Rd m s1 p_c.code) (X : List Nat) (hS : St X w0 w0 m [[⟨b_p_c, [s1.v, (.int .i64 p_c.at_), (.int .u64 p_c.seed.v)], 64⟩]]) :
  RetX Try.prog 30 [(.pointer (some ⟨b_p_c, 0, none⟩))] w0 (fun v w => ∃ (q0' : Piece) (s0' : Sl), v = s0'.v ∧ St X w0 w m [[⟨b_p_c, [s1.v, (.int .i64 r.2.at_), (.int .u64 r.2.seed.v)], 64⟩], q0'] ∧ OwnL m 85 q0' s0' r.1 ∧ r.2.code = p_c.code) := by
 unfold spec_l1Cur_anySchema at hr
 refine ret_startX Try.func30 rfl 46 rfl rfl fun a hF => q_seq (q_region (q_x (v := nilS.v) hF hS (ex_assign rfl) rfl rfl fun a hF => q_end (n_sq (q_seq (q_region (q_x (v := (.pointer (some ⟨b_p_c, 0, none⟩))) hF hS (ex_move rfl) rfl rfl fun a hF => ?_))))))
 have hS2 : St _ _ _ _ ([[⟨b_p_c, [s1.v, (.int .i64 p_c.at_), (.int .u64 p_c.seed.v)], 64⟩]] ++ []) := hS
 have hE2 := hS2.enter
 obtain ⟨t_3, ht_3, hr⟩ := bindS hr
 refine q_do rfl fun _ hK => wp_callX (vs := [(.pointer (some ⟨b_p_c, 0, none⟩))]) hF Try.func68 (by kernel_rfl) rfl rfl rfl (c_spec_l1Cur_schema p_c t_3 ht_3 _ m b_p_c s1 h1 _ hE2) fun a w _ hR hF => hK _ _ ?_
 obtain ⟨q4, s4, rfl, hR2, h4, hk5⟩ := hR
 have hS : St _ _ _ _ [[⟨b_p_c, [s1.v, (.int .i64 t_3.2.at_), (.int .u64 t_3.2.seed.v)], 64⟩], q4] := hS2.leaveF hR2
 have h5 : Rd m s1 t_3.2.code := by rw [hk5]; exact h1
 refine q_x (v := s4.v) hF hS (ex_assign rfl) rfl rfl fun a hF => q_end (n_sq (q_seq (q_seq (q_region (q_x (v := (.pointer (some ⟨b_p_c, 0, none⟩))) hF hS (ex_move rfl) rfl rfl fun a hF => ?_)))))
 have hS6 : St _ _ _ _ ([[⟨b_p_c, [s1.v, (.int .i64 t_3.2.at_), (.int .u64 t_3.2.seed.v)], 64⟩]] ++ [q4]) := hS
 have hE6 := hS6.enter
 obtain ⟨t_7, ht_7, hr⟩ := bindS hr
 refine q_do rfl fun _ hK => wp_callX (vs := [(.pointer (some ⟨b_p_c, 0, none⟩)), (.int .i64 24)]) hF Try.func40 (by kernel_rfl) rfl rfl rfl (c_spec_l1Cur_pick t_3.2 24 t_7 ht_7 _ m b_p_c s1 h5 _ hE6) fun a w _ hR hF => hK _ _ ?_
 obtain ⟨rfl, hR6, hk8⟩ := hR
 have hS : St _ _ _ _ [[⟨b_p_c, [s1.v, (.int .i64 t_7.2.at_), (.int .u64 t_7.2.seed.v)], 64⟩], q4] := hS6.leaveF hR6
 have h8 : Rd m s1 t_7.2.code := by rw [hk8]; exact h5
 refine q_end (n_sq (q_block (q_seq (q_region (q_x (v := (.bool (t_7.1 == 0))) hF hS (ex_ibin rfl rfl rfl) rfl rfl fun a hF => q_x (v := (.bool (t_7.1 == 0))) hF hS (ex_assign rfl) rfl rfl fun a hF => q_end (n_sq ?_))))))
 obtain ⟨j1, hj1, hr⟩ := bindS hr
 refine q_join (fun a w => ∃ (q48 : Piece), ∃ (s48 : Sl), ∃ s_47, ∃ p_c_49, j1 = .inl (s_47, p_c_49) ∧ Fr a 46 [(3, s48.v)] ∧ St X w0 w m [q48, [⟨b_p_c, [s1.v, (.int .i64 p_c_49.at_), (.int .u64 p_c_49.seed.v)], 64⟩]] ∧ OwnL m 85 q48 s48 s_47 ∧ Rd m s1 p_c_49.code ∧ p_c_49.code = p_c.code) ?_ ?_
 ·rcases bcase (t_7.1 == 0) with hc2 | hc2
  ·have hj1 := cond_f hc2 hj1
   refine q_cond_f hF rfl hc2 (q_seq (q_region (q_x (v := (.bool (t_7.1 == 1))) hF hS (ex_ibin rfl rfl rfl) rfl rfl fun a hF => q_x (v := (.bool (t_7.1 == 1))) hF hS (ex_assign rfl) rfl rfl fun a hF => q_end (n_sq ?_))))
   obtain ⟨j3, hj3, hj1⟩ := bindS hj1
   refine q_join (fun a w => ∃ (q37 : Piece), ∃ (s37 : Sl), ∃ s_36, ∃ p_c_38, j3 = .inl (s_36, p_c_38) ∧ Fr a 46 [(3, s37.v)] ∧ St X w0 w m [q37, [⟨b_p_c, [s1.v, (.int .i64 p_c_38.at_), (.int .u64 p_c_38.seed.v)], 64⟩]] ∧ OwnL m 85 q37 s37 s_36 ∧ Rd m s1 p_c_38.code ∧ p_c_38.code = p_c.code) ?_ ?_
   ·rcases bcase (t_7.1 == 1) with hc4 | hc4
    ·have hj3 := cond_f hc4 hj3
     refine q_cond_f hF rfl hc4 (q_seq (q_region (q_x (v := (.bool (t_7.1 == 2))) hF hS (ex_ibin rfl rfl rfl) rfl rfl fun a hF => q_x (v := (.bool (t_7.1 == 2))) hF hS (ex_assign rfl) rfl rfl fun a hF => q_end (n_sq ?_))))
     rcases bcase (t_7.1 == 2) with hc5 | hc5
     ·have hj3 := cond_f hc5 hj3
      refine q_cond_f hF rfl hc5 (q_seq (q_region (q_x (v := (.bool (t_7.1 == 3))) hF hS (ex_ibin rfl rfl rfl) rfl rfl fun a hF => q_x (v := (.bool (t_7.1 == 3))) hF hS (ex_assign rfl) rfl rfl fun a hF => q_end (n_sq ?_))))
      obtain ⟨j6, hj6, hj3⟩ := bindS hj3
      refine q_join (fun a w => ∃ (q26 : Piece), ∃ (s26 : Sl), ∃ s_25, ∃ p_c_27, j6 = (s_25, p_c_27) ∧ Fr a 46 [(3, s26.v)] ∧ St X w0 w m [q26, [⟨b_p_c, [s1.v, (.int .i64 p_c_27.at_), (.int .u64 p_c_27.seed.v)], 64⟩]] ∧ OwnL m 85 q26 s26 s_25 ∧ Rd m s1 p_c_27.code ∧ p_c_27.code = p_c.code) ?_ ?_
      ·rcases bcase (t_7.1 == 3) with hc7 | hc7
       ·have hj6 := cond_f hc7 hj6
        refine q_cond_f hF rfl hc7 (q_skipc (n_jn ?_))
        obtain rfl := someI hj6
        exact ⟨q4, s4, _, _, rfl, hF.sub ⟨rfl, trivial⟩, hS.sel [1, 0] (by decide), h4, h8, (hk8.trans hk5)⟩
       ·have hj6 := cond_t hc7 hj6
        refine q_cond_t hF rfl hc7 (q_block ?_)
        obtain ⟨o8, hl8, hj6⟩ := bindS hj6
        refine q_loop (fun (s : (List impl_Variable) × spec_l1Cur) a w => ∃ (q10 : Piece), ∃ (s10 : Sl), ∃ s_9, ∃ p_c_11, s = (s_9, p_c_11) ∧ Fr a 46 [(0, (.pointer (some ⟨b_p_c, 0, none⟩))), (3, s10.v)] ∧ St X w0 w m [q10, [⟨b_p_c, [s1.v, (.int .i64 p_c_11.at_), (.int .u64 p_c_11.seed.v)], 64⟩]] ∧ OwnL m 85 q10 s10 s_9 ∧ Rd m s1 p_c_11.code ∧ p_c_11.code = p_c.code) (fun (o : (List impl_Variable) × spec_l1Cur) e a w => ∃ (q22 : Piece), ∃ (s22 : Sl), ∃ s_21, ∃ p_c_23, o = (s_21, p_c_23) ∧ e = .exit 1 ∧ Fr a 46 [(3, s22.v)] ∧ St X w0 w m [q22, [⟨b_p_c, [s1.v, (.int .i64 p_c_23.at_), (.int .u64 p_c_23.seed.v)], 64⟩]] ∧ OwnL m 85 q22 s22 s_21 ∧ Rd m s1 p_c_23.code ∧ p_c_23.code = p_c.code) hl8 ⟨q4, s4, _, _, rfl, hF.sub ⟨rfl, rfl, trivial⟩, hS.sel [1, 0] (by decide), h4, h8, (hk8.trans hk5)⟩ ?_ ?_
        ·clear hF hS
         rintro s a w st ⟨q10, s10, s_9, p_c_11, rfl, hF, hS, h10, h12, h12k⟩ hb8
         unfold spec_l1Cur_anySchema_l1 at hb8
         refine q_seq (q_seq (q_region (q_x (v := s10.v) hF hS (ex_move rfl) rfl rfl fun a hF => q_x (v := (.int .i64 (goLen s_9))) hF hS (ex_len Try.underlying23 rfl h10.len) rfl rfl fun a hF => q_x (v := (.pointer (some ⟨b_p_c, 0, none⟩))) hF hS (ex_move rfl) rfl rfl fun a hF => ?_)))
         have hS : St _ _ _ _ [[⟨b_p_c, [s1.v, (.int .i64 p_c_11.at_), (.int .u64 p_c_11.seed.v)], 64⟩], q10] := hS.sel [1, 0] (by decide)
         have hS13 : St _ _ _ _ ([[⟨b_p_c, [s1.v, (.int .i64 p_c_11.at_), (.int .u64 p_c_11.seed.v)], 64⟩]] ++ [q10]) := hS
         have hE13 := hS13.enter
         obtain ⟨t_14, ht_14, hb8⟩ := bindS hb8
         refine q_do rfl fun _ hK => wp_callX (vs := [(.pointer (some ⟨b_p_c, 0, none⟩)), (.int .i64 2)]) hF Try.func40 (by kernel_rfl) rfl rfl rfl (c_spec_l1Cur_pick p_c_11 2 t_14 ht_14 _ m b_p_c s1 h12 _ hE13) fun a w _ hR hF => hK _ _ ?_
         obtain ⟨rfl, hR13, hk15⟩ := hR
         have hS : St _ _ _ _ [[⟨b_p_c, [s1.v, (.int .i64 t_14.2.at_), (.int .u64 t_14.2.seed.v)], 64⟩], q10] := hS13.leaveF hR13
         have h15 : Rd m s1 t_14.2.code := by rw [hk15]; exact h12
         refine q_x (v := (.int .i64 (w64 (6 + t_14.1)))) hF hS (ex_ibin rfl rfl rfl) rfl rfl fun a hF => q_x (v := (.bool (decide ((goLen s_9) < (w64 (6 + t_14.1)))))) hF hS (ex_ibin rfl rfl rfl) rfl rfl fun a hF => q_end (n_sq ?_)
         rcases bcase (decide ((goLen s_9) < (w64 (6 + t_14.1)))) with hc9 | hc9
         ·have hb8 := cond_f hc9 hb8
          refine q_cond_f hF rfl hc9 (q_exit (x_sq ?_))
          obtain rfl := someI hb8
          exact ⟨nofun, .inl ⟨q10, s10, _, _, rfl, rfl, hF.sub ⟨rfl, trivial⟩, hS.sel [1, 0] (by decide), h10, h15, (hk15.trans h12k)⟩⟩
         ·have hb8 := cond_t hc9 hb8
          refine q_cond_t hF rfl hc9 (q_skipc (n_sq (q_block (q_region (q_x (v := s10.v) hF hS (ex_move rfl) rfl rfl fun a hF => q_x (v := s10.v) hF hS (ex_move rfl) rfl rfl fun a hF => q_x (v := (.int .i64 (goLen s_9))) hF hS (ex_len Try.underlying23 rfl h10.len) rfl rfl fun a hF => q_x (v := (.int .i64 (w64 (97 + (goLen s_9))))) hF hS (ex_ibin rfl rfl rfl) rfl rfl fun a hF => q_x (v := (.int .u8 (IntKind.wrap .u8 (w64 (97 + (goLen s_9)))))) hF hS (ex_conv Try.underlying3 Try.underlying5 rfl) rfl rfl fun a hF => q_do rfl fun _ hK => wp_buildSlice' (l := ([(⟨(IntKind.wrap .u8 (w64 (97 + (goLen s_9))))⟩ : K .u8)] : List (K .u8))) (cells := [(.int .u8 (IntKind.wrap .u8 (w64 (97 + (goLen s_9)))))]) hF hS Try.underlying22 inf5 rfl rfl (by kernel_rfl) rfl rfl rfl ⟨rfl, rfl⟩ rfl rfl fun a w q16 s16 hF hS h16 _ => hK _ _ (q_x (v := (strV (goBytes ([(⟨(IntKind.wrap .u8 (w64 (97 + (goLen s_9))))⟩ : K .u8)] : List (K .u8))))) hF hS (ex_toStr Try.underlying22 Try.underlying5 Try.underlying9 rfl (fun X w0 w hS => h16.vw hS (j := 0) rfl)) rfl rfl fun a hF => ?_))))))
          obtain ⟨t_17, ht_17, hb8⟩ := bindS hb8
          refine q_x (v := (strV t_17)) hF hS (ex_strCat rfl rfl ht_17) rfl rfl fun a hF => q_x (v := (.agg #[(strV t_17), (.int .i64 2)])) hF hS (ex_build (cells := [(strV t_17), (.int .i64 2)]) rfl (by kernel_rfl)) rfl rfl fun a hF => q_do rfl fun _ hK => wp_buildSlice' (l := ([(impl_Variable.mk t_17 2)] : List impl_Variable)) (cells := [(strV t_17), (.int .i64 2)]) hF hS Try.underlying23 inf85 rfl rfl (by kernel_rfl) rfl rfl rfl ⟨rfl, rfl⟩ rfl rfl fun a w q18 s18 hF hS h18 _ => hK _ _ ?_
          have hS : St _ _ _ _ [q10, q18, q16, [⟨b_p_c, [s1.v, (.int .i64 t_14.2.at_), (.int .u64 t_14.2.seed.v)], 64⟩]] := hS.sel [3, 0, 1, 2] (by decide)
          obtain ⟨l_19, hl_19, hb8⟩ := bindS hb8
          refine q_do rfl fun _ hK => wp_append hF hS h10 Try.underlying23 inf85 rfl rfl rfl rfl (h18.vw hS (j := 1) rfl) rfl (by decide) hl_19 rfl fun a w q20 s20 hF hS h20 => hK _ _ (q_x (v := s20.v) hF hS (ex_assign rfl) rfl rfl fun a hF => q_end (n_ib ?_))
          obtain rfl := someI hb8
          exact ⟨rfl, q20, s20, _, _, rfl, hF.sub ⟨rfl, rfl, trivial⟩, hS.mask [true, false, false, true], h20, h15, (hk15.trans h12k)⟩
        ·rintro e a w ⟨q22, s22, s_21, p_c_23, rfl, rfl, hF, hS, h22, h24, h24k⟩
         refine x_ib (n_jn ?_)
         obtain rfl := someI hj6
         exact ⟨q22, s22, _, _, rfl, hF.sub ⟨rfl, trivial⟩, hS, h22, h24, h24k⟩
      ·rintro a w ⟨q26, s26, s_25, p_c_27, rfl, hF, hS, h26, h28, h28k⟩
       refine n_jn ?_
       obtain rfl := someI hj3
       exact ⟨q26, s26, _, _, rfl, hF.sub ⟨rfl, trivial⟩, hS, h26, h28, h28k⟩
     ·have hj3 := cond_t hc5 hj3
      refine q_cond_t hF rfl hc5 (q_seq (q_region (q_x (v := nilS.v) hF hS (ex_assign rfl) rfl rfl fun a hF => q_end (n_sq (q_ret (r_jn ?_))))))
      obtain rfl := someI hj3
      refine r_jn ?_
      obtain rfl := someI hj1
      refine r_ib (r_sq ?_)
      obtain rfl := someI hr
      exact ret_ofX hF hS rfl (.tmp rfl .nil) ⟨[], nilS, rfl, hS.sel [0, 2] (by decide), (OwnL.nil (α := impl_Variable) m 85), (hk8.trans hk5)⟩
    ·have hj3 := cond_t hc4 hj3
     refine q_cond_t hF rfl hc4 (q_region (q_x (v := s4.v) hF hS (ex_move rfl) rfl rfl fun a hF => q_x (v := (.pointer (some ⟨b_p_c, 0, none⟩))) hF hS (ex_move rfl) rfl rfl fun a hF => q_do rfl fun _ hK => wp_buildSlice' (l := ([([] : List UInt8), ([65, 103, 101] : List UInt8), ([97, 98, 99, 100, 101, 102, 103, 104, 105] : List UInt8), ([97, 103, 101] : List UInt8), ([97, 98, 32, 99, 100] : List UInt8)] : List (List UInt8))) (cells := [(strV ([] : List UInt8)), (strV ([65, 103, 101] : List UInt8)), (strV ([97, 98, 99, 100, 101, 102, 103, 104, 105] : List UInt8)), (strV ([97, 103, 101] : List UInt8)), (strV ([97, 98, 32, 99, 100] : List UInt8))]) hF hS Try.underlying98 inf9 rfl rfl (by kernel_rfl) rfl rfl rfl ⟨rfl, rfl, rfl, rfl, rfl, rfl⟩ rfl rfl fun a w q29 s29 hF hS h29 _ => hK _ _ ?_))
     have hS : St _ _ _ _ [[⟨b_p_c, [s1.v, (.int .i64 t_7.2.at_), (.int .u64 t_7.2.seed.v)], 64⟩], q29, q4] := hS.sel [1, 0, 2] (by decide)
     have hS30 : St _ _ _ _ ([[⟨b_p_c, [s1.v, (.int .i64 t_7.2.at_), (.int .u64 t_7.2.seed.v)], 64⟩]] ++ [q29, q4]) := hS
     obtain ⟨m30, hl30, hE30, hz30⟩ := hS30.lendX
     obtain ⟨t_31, ht_31, hj3⟩ := bindS hj3
     refine q_do rfl fun _ hK => wp_callX (vs := [(.pointer (some ⟨b_p_c, 0, none⟩)), s29.v]) hF Try.func70 (by kernel_rfl) rfl rfl rfl (c_spec_l1Cur_of t_7.2 ([([] : List UInt8), ([65, 103, 101] : List UInt8), ([97, 98, 99, 100, 101, 102, 103, 104, 105] : List UInt8), ([97, 103, 101] : List UInt8), ([97, 98, 32, 99, 100] : List UInt8)] : List (List UInt8)) t_31 ht_31 _ m30 b_p_c s1 (h8.mono hl30) s29 (h29.froz hl30 (hz30 0 _ rfl)) _ hE30) fun a w _ hR hF => hK _ _ ?_
     obtain ⟨rfl, hR30, hk32⟩ := hR
     have hS : St _ _ _ _ [[⟨b_p_c, [s1.v, (.int .i64 t_31.2.at_), (.int .u64 t_31.2.seed.v)], 64⟩], q29, q4] := hS30.leaveF hR30
     have h32 : Rd m s1 t_31.2.code := by rw [hk32]; exact h8
     obtain ⟨e_33, he_33, hj3⟩ := bindS hj3
     obtain ⟨vs34, at34, d34⟩ := h4.at he_33 2 rfl
     obtain rfl : vs34 = [(strV e_33.Name), (.int .i64 e_33.Levels)] := d34
     refine q_x (v := (elP s4 ((0 : Int).toNat * 2))) hF hS (ex_indexAddr Try.underlying23 sz85 rfl rfl (h4.idx he_33)) rfl rfl fun a hF => q_x (v := (elP s4 ((0 : Int).toNat * 2 + 0))) hF hS (ex_fieldAddrE Try.underlying85 rfl sz9 rfl (h4.idx he_33) rfl) rfl rfl fun a hF => ?_
     have hS : St _ _ _ _ [q4, [⟨b_p_c, [s1.v, (.int .i64 t_31.2.at_), (.int .u64 t_31.2.seed.v)], 64⟩], q29] := hS.sel [2, 0, 1] (by decide)
     refine q_do rfl fun _ hK => wp_storeE (e' := (impl_Variable.mk t_31.1 e_33.Levels)) (us := [(strV t_31.1)]) (vs := [(strV e_33.Name), (.int .i64 e_33.Levels)]) 0 hF hS h4 sz9 rfl rfl rfl rfl rfl rfl rfl he_33 at34 rfl rfl rfl fun w q35 hS h35 => hK _ _ (q_end (n_jn ?_))
     obtain rfl := someI hj3
     exact ⟨q35, s4, _, _, rfl, hF.sub ⟨rfl, trivial⟩, hS.mask [true, true, false], h35, h32, (hk32.trans (hk8.trans hk5))⟩
   ·rintro a w ⟨q37, s37, s_36, p_c_38, rfl, hF, hS, h37, h39, h39k⟩
    refine n_jn ?_
    obtain rfl := someI hj1
    exact ⟨q37, s37, _, _, rfl, hF.sub ⟨rfl, trivial⟩, hS, h37, h39, h39k⟩
  ·have hj1 := cond_t hc2 hj1
   refine q_cond_t hF rfl hc2 (q_region (q_x (v := s4.v) hF hS (ex_move rfl) rfl rfl fun a hF => q_x (v := (.pointer (some ⟨b_p_c, 0, none⟩))) hF hS (ex_move rfl) rfl rfl fun a hF => q_do rfl fun _ hK => wp_buildSlice' (l := ([1, 8, 9] : List Int)) (cells := [(.int .i64 1), (.int .i64 8), (.int .i64 9)]) hF hS Try.underlying24 inf3 rfl rfl (by kernel_rfl) rfl rfl rfl ⟨rfl, rfl, rfl, rfl⟩ rfl rfl fun a w q40 s40 hF hS h40 _ => hK _ _ ?_))
   have hS : St _ _ _ _ [[⟨b_p_c, [s1.v, (.int .i64 t_7.2.at_), (.int .u64 t_7.2.seed.v)], 64⟩], q40, q4] := hS.sel [1, 0, 2] (by decide)
   have hS41 : St _ _ _ _ ([[⟨b_p_c, [s1.v, (.int .i64 t_7.2.at_), (.int .u64 t_7.2.seed.v)], 64⟩]] ++ [q40, q4]) := hS
   obtain ⟨m41, hl41, hE41, hz41⟩ := hS41.lendX
   obtain ⟨t_42, ht_42, hj1⟩ := bindS hj1
   refine q_do rfl fun _ hK => wp_callX (vs := [(.pointer (some ⟨b_p_c, 0, none⟩)), s40.v]) hF Try.func69 (by kernel_rfl) rfl rfl rfl (c_spec_l1Cur_among t_7.2 ([1, 8, 9] : List Int) t_42 ht_42 _ m41 b_p_c s1 (h8.mono hl41) s40 (h40.froz hl41 (hz41 0 _ rfl)) _ hE41) fun a w _ hR hF => hK _ _ ?_
   obtain ⟨rfl, hR41, hk43⟩ := hR
   have hS : St _ _ _ _ [[⟨b_p_c, [s1.v, (.int .i64 t_42.2.at_), (.int .u64 t_42.2.seed.v)], 64⟩], q40, q4] := hS41.leaveF hR41
   have h43 : Rd m s1 t_42.2.code := by rw [hk43]; exact h8
   obtain ⟨e_44, he_44, hj1⟩ := bindS hj1
   obtain ⟨vs45, at45, d45⟩ := h4.at he_44 2 rfl
   obtain rfl : vs45 = [(strV e_44.Name), (.int .i64 e_44.Levels)] := d45
   refine q_x (v := (elP s4 ((0 : Int).toNat * 2))) hF hS (ex_indexAddr Try.underlying23 sz85 rfl rfl (h4.idx he_44)) rfl rfl fun a hF => q_x (v := (elP s4 ((0 : Int).toNat * 2 + 1))) hF hS (ex_fieldAddrE Try.underlying85 rfl sz3 rfl (h4.idx he_44) rfl) rfl rfl fun a hF => ?_
   have hS : St _ _ _ _ [q4, [⟨b_p_c, [s1.v, (.int .i64 t_42.2.at_), (.int .u64 t_42.2.seed.v)], 64⟩], q40] := hS.sel [2, 0, 1] (by decide)
   refine q_do rfl fun _ hK => wp_storeE (e' := (impl_Variable.mk e_44.Name t_42.1)) (us := [(.int .i64 t_42.1)]) (vs := [(strV e_44.Name), (.int .i64 e_44.Levels)]) 1 hF hS h4 sz3 rfl rfl rfl rfl rfl rfl rfl he_44 at45 rfl rfl rfl fun w q46 hS h46 => hK _ _ (q_end (n_jn ?_))
   obtain rfl := someI hj1
   exact ⟨q46, s4, _, _, rfl, hF.sub ⟨rfl, trivial⟩, hS.mask [true, true, false], h46, h43, (hk43.trans (hk8.trans hk5))⟩
 ·rintro a w ⟨q48, s48, s_47, p_c_49, rfl, hF, hS, h48, h50, h50k⟩
  refine n_ib (n_sq ?_)
  refine q_seq (q_region (q_x (v := s48.v) hF hS (ex_move rfl) rfl rfl fun a hF => q_x (v := s48.v) hF hS (ex_assign rfl) rfl rfl fun a hF => q_end (n_sq (q_ret ?_))))
  obtain rfl := someI hr
  exact ret_ofX hF hS rfl (.tmp rfl .nil) ⟨q48, s48, rfl, hS.sel [1, 0] (by decide), h48, h50k⟩

theorem c_spec_l1In (p_n : Int) (p_lo : Int) (p_hi : Int) (r : Bool) (hr : spec_l1In p_n p_lo p_hi = some r) (w0 : World) (m : Mem) (hv : Vis m w0) :
  Ret Try.prog 42 [(.int .i64 p_n), (.int .i64 p_lo), (.int .i64 p_hi)] w0 (fun v _ => v = (.bool r)) := by
 unfold spec_l1In at hr
 refine ret_start Try.func42 rfl 15 rfl rfl m hv fun a hF hS => q_seq (q_region (q_x (v := (.bool false)) hF hS (ex_assign rfl) rfl rfl fun a hF => q_end (n_sq (q_seq ?_))))
 obtain ⟨t_1, hj1, hr⟩ := bindS hr
 refine q_join (fun a w => Fr a 15 [(6, (.bool t_1))] ∧ St [] w0 w m []) ?_ ?_
 ·refine q_region (q_x (v := (.int .i64 p_n)) hF hS (ex_move rfl) rfl rfl fun a hF => q_x (v := (.int .i64 p_lo)) hF hS (ex_move rfl) rfl rfl fun a hF => q_x (v := (.bool (decide (p_lo ≤ p_n)))) hF hS (ex_ibin rfl rfl rfl) rfl rfl fun a hF => q_x (v := (.bool (decide (p_lo ≤ p_n)))) hF hS (ex_move rfl) rfl rfl fun a hF => ?_)
  rcases bcase (decide (p_lo ≤ p_n)) with hc2 | hc2
  ·have hj1 := cond_f hc2 hj1
   refine q_skip hF (wanted_f hF rfl rfl rfl hc2 rfl) rfl fun a hF => q_skip hF (wanted_f hF rfl rfl rfl hc2 rfl) rfl fun a hF => q_skip hF (wanted_f hF rfl rfl rfl hc2 rfl) rfl fun a hF => q_x (v := (.bool false)) hF hS (ex_pick_f rfl rfl hc2) rfl rfl fun a hF => q_x (v := (.bool false)) hF hS (ex_assign rfl) rfl rfl fun a hF => q_end (n_jn ?_)
   obtain rfl := someI hj1
   exact ⟨hF.sub ⟨rfl, trivial⟩, hS⟩
  ·have hj1 := cond_t hc2 hj1
   refine q_xg (v := (.int .i64 p_n)) hF hS (ex_move rfl) (wanted_t hF rfl rfl rfl hc2) rfl fun a hF => q_xg (v := (.int .i64 p_hi)) hF hS (ex_move rfl) (wanted_t hF rfl rfl rfl hc2) rfl fun a hF => q_xg (v := (.bool (decide (p_n ≤ p_hi)))) hF hS (ex_ibin rfl rfl rfl) (wanted_t hF rfl rfl rfl hc2) rfl fun a hF => q_x (v := (.bool (decide (p_n ≤ p_hi)))) hF hS (ex_pick_t rfl rfl hc2) rfl rfl fun a hF => q_x (v := (.bool (decide (p_n ≤ p_hi)))) hF hS (ex_assign rfl) rfl rfl fun a hF => q_end (n_jn ?_)
   obtain rfl := someI hj1
   exact ⟨hF.sub ⟨rfl, trivial⟩, hS⟩
 ·rintro a w ⟨hF, hS⟩
  refine n_sq (q_ret ?_)
  obtain rfl := someI hr
  exact ret_of hF hS rfl (.tmp rfl .nil) rfl

theorem c_spec_sName (p_s : List UInt8) (r : Bool) (hr : spec_sName p_s = some r) (w0 : World) (m : Mem) (hv : Vis m w0) :
  Ret Try.prog 81 [(strV p_s)] w0 (fun v _ => v = (.bool r)) := by
 unfold spec_sName at hr
 refine ret_start Try.func81 rfl 23 rfl rfl m hv fun a hF hS => q_seq (q_region (q_x (v := (.bool false)) hF hS (ex_assign rfl) rfl rfl fun a hF => q_end (n_sq (q_seq (q_seq (q_region (q_x (v := (.int .i64 0)) hF hS (ex_assign rfl) rfl rfl fun a hF => q_end (n_sq (q_block ?_)))))))))
 obtain ⟨o1, hl1, hr⟩ := bindS hr
 refine q_loop (fun (i_1 : Int) a w => Fr a 23 [(0, (strV p_s)), (3, (.int .i64 i_1))] ∧ St [] w0 w m []) (fun (o : (Unit) ⊕ (Bool)) e a w => o = .inl () ∧ e = .exit 0 ∧ Fr a 23 [(0, (strV p_s))] ∧ St [] w0 w m []) hl1 ⟨hF.sub ⟨rfl, rfl, trivial⟩, hS⟩ ?_ ?_
 ·clear hF hS
  rintro i_1 a w st ⟨hF, hS⟩ hb1
  unfold spec_sName_l1 at hb1
  refine q_seq (q_seq (q_region (q_x (v := (.int .i64 i_1)) hF hS (ex_move rfl) rfl rfl fun a hF => q_x (v := (strV p_s)) hF hS (ex_move rfl) rfl rfl fun a hF => q_x (v := (.int .i64 (goLen p_s))) hF hS (ex_strLen Try.underlying9 rfl) rfl rfl fun a hF => q_x (v := (.bool (decide (i_1 < (goLen p_s))))) hF hS (ex_ibin rfl rfl rfl) rfl rfl fun a hF => q_end (n_sq ?_))))
  rcases bcase (decide (i_1 < (goLen p_s))) with hc2 | hc2
  ·have hb1 := cond_f hc2 hb1
   refine q_cond_f hF rfl hc2 (q_exit (x_sq ?_))
   obtain rfl := someI hb1
   exact ⟨nofun, .inl ⟨rfl, rfl, hF.sub ⟨rfl, trivial⟩, hS⟩⟩
  ·have hb1 := cond_t hc2 hb1
   refine q_cond_t hF rfl hc2 (q_skipc (n_sq (q_seq (q_block (q_seq ?_)))))
   obtain ⟨t_4, hj3, hb1⟩ := bindS hb1
   refine q_join (fun a w => Fr a 23 [(0, (strV p_s)), (3, (.int .i64 i_1)), (19, (.bool t_4))] ∧ St [] w0 w m []) ?_ ?_
   ·refine q_region (q_x (v := (strV p_s)) hF hS (ex_move rfl) rfl rfl fun a hF => q_x (v := (.int .i64 i_1)) hF hS (ex_move rfl) rfl rfl fun a hF => ?_)
    obtain ⟨t_2, ht_2, hj3⟩ := bindS hj3
    refine q_x (v := (.int .u8 t_2)) hF hS (ex_strIdx Try.underlying9 rfl rfl ht_2) rfl rfl fun a hF => q_x (v := (.bool (decide (t_2 < 97)))) hF hS (ex_ibin rfl rfl rfl) rfl rfl fun a hF => q_x (v := (.bool (decide (t_2 < 97)))) hF hS (ex_move rfl) rfl rfl fun a hF => ?_
    rcases bcase (decide (t_2 < 97)) with hc4 | hc4
    ·have hj3 := cond_f hc4 hj3
     refine q_xg (v := (strV p_s)) hF hS (ex_move rfl) (wanted_t hF rfl rfl rfl hc4) rfl fun a hF => q_xg (v := (.int .i64 i_1)) hF hS (ex_move rfl) (wanted_t hF rfl rfl rfl hc4) rfl fun a hF => ?_
     obtain ⟨t_3, ht_3, hj3⟩ := bindS hj3
     refine q_xg (v := (.int .u8 t_3)) hF hS (ex_strIdx Try.underlying9 rfl rfl ht_3) (wanted_t hF rfl rfl rfl hc4) rfl fun a hF => q_xg (v := (.bool (decide (122 < t_3)))) hF hS (ex_ibin rfl rfl rfl) (wanted_t hF rfl rfl rfl hc4) rfl fun a hF => q_x (v := (.bool (decide (122 < t_3)))) hF hS (ex_pick_f rfl rfl hc4) rfl rfl fun a hF => q_end (n_jn ?_)
     obtain rfl := someI hj3
     exact ⟨hF.sub ⟨rfl, rfl, rfl, trivial⟩, hS⟩
    ·have hj3 := cond_t hc4 hj3
     refine q_skip hF (wanted_f hF rfl rfl rfl hc4 rfl) rfl fun a hF => q_skip hF (wanted_f hF rfl rfl rfl hc4 rfl) rfl fun a hF => q_skip hF (wanted_f hF rfl rfl rfl hc4 rfl) rfl fun a hF => q_skip hF (wanted_f hF rfl rfl rfl hc4 rfl) rfl fun a hF => q_x (v := (.bool true)) hF hS (ex_pick_t rfl rfl hc4) rfl rfl fun a hF => q_end (n_jn ?_)
     obtain rfl := someI hj3
     exact ⟨hF.sub ⟨rfl, rfl, rfl, trivial⟩, hS⟩
   ·rintro a w ⟨hF, hS⟩
    refine n_sq ?_
    rcases bcase (t_4) with hc5 | hc5
    ·have hb1 := cond_f hc5 hb1
     refine q_cond_f hF rfl hc5 (q_skipc (n_ib (n_sq (q_region (q_x (v := (.int .i64 i_1)) hF hS (ex_move rfl) rfl rfl fun a hF => q_x (v := (.int .i64 (w64 (i_1 + 1)))) hF hS (ex_ibin rfl rfl rfl) rfl rfl fun a hF => q_x (v := (.int .i64 (w64 (i_1 + 1)))) hF hS (ex_assign rfl) rfl rfl fun a hF => q_end ?_)))))
     obtain rfl := someI hb1
     exact ⟨rfl, hF.sub ⟨rfl, rfl, trivial⟩, hS⟩
    ·have hb1 := cond_t hc5 hb1
     refine q_cond_t hF rfl hc5 (q_seq (q_region (q_x (v := (.bool false)) hF hS (ex_assign rfl) rfl rfl fun a hF => q_end (n_sq (q_ret (r_ib (r_sq ?_)))))))
     obtain rfl := someI hb1
     refine ⟨nofun, .inr fun ho => ?_⟩
     subst ho
     refine r_ib (r_sq ?_)
     obtain rfl := someI hr
     exact ret_of hF hS rfl (.tmp rfl .nil) rfl
 ·rintro e a w ⟨rfl, rfl, hF, hS⟩
  refine x_ib (n_sq ?_)
  refine q_seq (q_region (q_x (v := (strV p_s)) hF hS (ex_move rfl) rfl rfl fun a hF => q_x (v := (.int .i64 (goLen p_s))) hF hS (ex_strLen Try.underlying9 rfl) rfl rfl fun a hF => ?_))
  obtain ⟨t_5, ht_5, hr⟩ := bindS hr
  refine q_call (vs := [(.int .i64 (goLen p_s)), (.int .i64 1), (.int .i64 8)]) hF hS Try.func42 (by kernel_rfl) rfl rfl rfl (c_spec_l1In (goLen p_s) 1 8 t_5 ht_5 _ m hS.vis) ?_
  rintro a w _ rfl hF hS
  refine q_x (v := (.bool t_5)) hF hS (ex_assign rfl) rfl rfl fun a hF => q_end (n_sq (q_ret ?_))
  obtain rfl := someI hr
  exact ret_of hF hS rfl (.tmp rfl .nil) rfl

theorem c_spec_sFind (p_s : List impl_Variable) (p_name : List UInt8) (r : Int) (hr : spec_sFind p_s p_name = some r) (w0 : World) (m : Mem) (hv : Vis m w0) (s1 : Sl) (h1 : Rd m s1 p_s) :
  Ret Try.prog 82 [s1.v, (strV p_name)] w0 (fun v _ => v = (.int .i64 r)) := by
 unfold spec_sFind at hr
 refine ret_start Try.func82 rfl 20 rfl rfl m hv fun a hF hS => q_seq (q_region (q_x (v := (.int .i64 0)) hF hS (ex_assign rfl) rfl rfl fun a hF => q_end (n_sq (q_seq (q_seq (q_region (q_x (v := s1.v) hF hS (ex_move rfl) rfl rfl fun a hF => q_x (v := (.int .i64 (goLen p_s))) hF hS (ex_len Try.underlying23 rfl h1.len) rfl rfl fun a hF => q_x (v := (.int .i64 0)) hF hS (ex_move rfl) rfl rfl fun a hF => q_end (n_sq (q_block ?_)))))))))
 obtain ⟨o1, hl1, hr⟩ := bindS hr
 refine q_loop (fun (t_2 : Int) a w => Fr a 20 [(1, (strV p_name)), (7, s1.v), (8, (.int .i64 (goLen p_s))), (9, (.int .i64 t_2))] ∧ St [] w0 w m []) (fun (o : (Unit) ⊕ (Int)) e a w => o = .inl () ∧ e = .exit 0 ∧ Fr a 20 [] ∧ St [] w0 w m []) hl1 ⟨hF.sub ⟨rfl, rfl, rfl, rfl, trivial⟩, hS⟩ ?_ ?_
 ·clear hF hS
  rintro t_2 a w st ⟨hF, hS⟩ hb1
  unfold spec_sFind_l1 at hb1
  refine q_seq (q_region (q_x (v := (.bool (decide (t_2 < (goLen p_s))))) hF hS (ex_ibin rfl rfl rfl) rfl rfl fun a hF => q_end (n_sq (q_seq ?_))))
  rcases bcase (decide (t_2 < (goLen p_s))) with hc2 | hc2
  ·have hb1 := cond_f hc2 hb1
   refine q_cond_f hF rfl hc2 (q_exit (x_sq ?_))
   obtain rfl := someI hb1
   exact ⟨nofun, .inl ⟨rfl, rfl, hF.sub trivial, hS⟩⟩
  ·have hb1 := cond_t hc2 hb1
   refine q_cond_t hF rfl hc2 (q_skipc (n_sq (q_seq (q_block (q_seq (q_region (q_x (v := (.int .i64 t_2)) hF hS (ex_move rfl) rfl rfl fun a hF => ?_)))))))
   obtain ⟨e_3, he_3, hb1⟩ := bindS hb1
   obtain ⟨vs4, at4, d4⟩ := h1.at he_3 2 rfl
   obtain rfl : vs4 = [(strV e_3.Name), (.int .i64 e_3.Levels)] := d4
   refine q_x (v := (elP s1 (t_2.toNat * 2))) hF hS (ex_indexAddr Try.underlying23 sz85 rfl rfl (h1.idx he_3)) rfl rfl fun a hF => q_x (v := (.agg #[(strV e_3.Name), (.int .i64 e_3.Levels)])) hF hS (ex_loadEA (us := [(strV e_3.Name), (.int .i64 e_3.Levels)]) 0 Try.underlying85 rfl sz85 rfl ((at4).at) rfl rfl rfl) rfl rfl fun a hF => q_alloc (cs := [(strV ([] : List UInt8)), (.int .i64 0)]) hF hS rfl rfl rfl fun a w b5 hF hS => q_x (v := (.int .i64 t_2)) hF hS (ex_assign rfl) rfl rfl fun a hF => q_store (vs := [(strV e_3.Name), (.int .i64 e_3.Levels)]) (cs' := [(strV e_3.Name), (.int .i64 e_3.Levels)]) 0 0 hF hS sz85 rfl rfl rfl rfl rfl rfl rfl rfl fun a w hF hS => q_end (n_sq (q_seq (q_region (q_x (v := (.pointer (some ⟨b5, 0, none⟩))) hF hS (ex_fieldAddr Try.underlying85 rfl sz9 rfl rfl) rfl rfl fun a hF => q_x (v := (strV e_3.Name)) hF hS (ex_load1 0 0 Try.underlying9 rfl rfl rfl rfl) rfl rfl fun a hF => q_x (v := (strV p_name)) hF hS (ex_move rfl) rfl rfl fun a hF => q_x (v := (.bool (e_3.Name == p_name))) hF hS (ex_strEq rfl rfl) rfl rfl fun a hF => q_end (n_sq ?_)))))
   rcases bcase (e_3.Name == p_name) with hc3 | hc3
   ·have hb1 := cond_f hc3 hb1
    refine q_cond_f hF rfl hc3 (q_skipc (n_ib (n_sq (q_region (q_x (v := (.int .i64 (w64 (t_2 + 1)))) hF hS (ex_ibin rfl rfl rfl) rfl rfl fun a hF => q_x (v := (.int .i64 (w64 (t_2 + 1)))) hF hS (ex_move rfl) rfl rfl fun a hF => q_end ?_)))))
    obtain rfl := someI hb1
    exact ⟨rfl, hF.sub ⟨rfl, rfl, rfl, rfl, trivial⟩, hS.mask [false]⟩
   ·have hb1 := cond_t hc3 hb1
    refine q_cond_t hF rfl hc3 (q_seq (q_region (q_x (v := (.int .i64 t_2)) hF hS (ex_move rfl) rfl rfl fun a hF => q_x (v := (.int .i64 t_2)) hF hS (ex_assign rfl) rfl rfl fun a hF => q_end (n_sq (q_ret (r_ib (r_sq ?_)))))))
    obtain rfl := someI hb1
    refine ⟨nofun, .inr fun ho => ?_⟩
    subst ho
    refine r_ib (r_sq ?_)
    obtain rfl := someI hr
    exact ret_of hF hS rfl (.tmp rfl .nil) rfl
 ·rintro e a w ⟨rfl, rfl, hF, hS⟩
  refine x_ib (n_sq ?_)
  refine q_seq (q_region (q_x (v := (.int .i64 (-1))) hF hS (ex_assign rfl) rfl rfl fun a hF => q_end (n_sq (q_ret ?_))))
  obtain rfl := someI hr
  exact ret_of hF hS rfl (.tmp rfl .nil) rfl

theorem c_spec_sGood (p_s : List impl_Variable) (r : Bool) (hr : spec_sGood p_s = some r) (w0 : World) (m : Mem) (hv : Vis m w0) (s1 : Sl) (h1 : Rd m s1 p_s) :
  Ret Try.prog 49 [s1.v] w0 (fun v _ => v = (.bool r)) := by
 unfold spec_sGood at hr
 refine ret_start Try.func49 rfl 36 rfl rfl m hv fun a hF hS => q_seq (q_region (q_x (v := (.bool false)) hF hS (ex_assign rfl) rfl rfl fun a hF => q_end (n_sq (q_seq (q_seq (q_region (q_x (v := s1.v) hF hS (ex_move rfl) rfl rfl fun a hF => q_x (v := (.int .i64 (goLen p_s))) hF hS (ex_len Try.underlying23 rfl h1.len) rfl rfl fun a hF => ?_)))))))
 obtain ⟨t_2, ht_2, hr⟩ := bindS hr
 refine q_call (vs := [(.int .i64 (goLen p_s)), (.int .i64 1), (.int .i64 6)]) hF hS Try.func42 (by kernel_rfl) rfl rfl rfl (c_spec_l1In (goLen p_s) 1 6 t_2 ht_2 _ m hS.vis) ?_
 rintro a w _ rfl hF hS
 refine q_x (v := (.bool (!t_2))) hF hS (ex_not rfl) rfl rfl fun a hF => q_end (n_sq ?_)
 rcases bcase (!t_2) with hc1 | hc1
 ·have hr := cond_f hc1 hr
  refine q_cond_f hF rfl hc1 (q_skipc (n_sq (q_seq (q_seq (q_region (q_x (v := s1.v) hF hS (ex_move rfl) rfl rfl fun a hF => q_x (v := (.int .i64 (goLen p_s))) hF hS (ex_len Try.underlying23 rfl h1.len) rfl rfl fun a hF => q_x (v := (.int .i64 0)) hF hS (ex_move rfl) rfl rfl fun a hF => q_end (n_sq (q_block ?_))))))))
  obtain ⟨o2, hl2, hr⟩ := bindS hr
  refine q_loop (fun (t_3 : Int) a w => Fr a 36 [(0, s1.v), (9, s1.v), (10, (.int .i64 (goLen p_s))), (11, (.int .i64 t_3))] ∧ St [] w0 w m []) (fun (o : (Unit) ⊕ (Bool)) e a w => o = .inl () ∧ e = .exit 0 ∧ Fr a 36 [] ∧ St [] w0 w m []) hl2 ⟨hF.sub ⟨rfl, rfl, rfl, rfl, trivial⟩, hS⟩ ?_ ?_
  ·clear hF hS
   rintro t_3 a w st ⟨hF, hS⟩ hb2
   unfold spec_sGood_l1 at hb2
   refine q_seq (q_region (q_x (v := (.bool (decide (t_3 < (goLen p_s))))) hF hS (ex_ibin rfl rfl rfl) rfl rfl fun a hF => q_end (n_sq (q_seq ?_))))
   rcases bcase (decide (t_3 < (goLen p_s))) with hc3 | hc3
   ·have hb2 := cond_f hc3 hb2
    refine q_cond_f hF rfl hc3 (q_exit (x_sq ?_))
    obtain rfl := someI hb2
    exact ⟨nofun, .inl ⟨rfl, rfl, hF.sub trivial, hS⟩⟩
   ·have hb2 := cond_t hc3 hb2
    refine q_cond_t hF rfl hc3 (q_skipc (n_sq (q_seq (q_block (q_seq (q_region (q_x (v := (.int .i64 t_3)) hF hS (ex_move rfl) rfl rfl fun a hF => ?_)))))))
    obtain ⟨e_4, he_4, hb2⟩ := bindS hb2
    obtain ⟨vs5, at5, d5⟩ := h1.at he_4 2 rfl
    obtain rfl : vs5 = [(strV e_4.Name), (.int .i64 e_4.Levels)] := d5
    refine q_x (v := (elP s1 (t_3.toNat * 2))) hF hS (ex_indexAddr Try.underlying23 sz85 rfl rfl (h1.idx he_4)) rfl rfl fun a hF => q_x (v := (.agg #[(strV e_4.Name), (.int .i64 e_4.Levels)])) hF hS (ex_loadEA (us := [(strV e_4.Name), (.int .i64 e_4.Levels)]) 0 Try.underlying85 rfl sz85 rfl ((at5).at) rfl rfl rfl) rfl rfl fun a hF => q_alloc (cs := [(strV ([] : List UInt8)), (.int .i64 0)]) hF hS rfl rfl rfl fun a w b6 hF hS => q_x (v := (.int .i64 t_3)) hF hS (ex_assign rfl) rfl rfl fun a hF => q_store (vs := [(strV e_4.Name), (.int .i64 e_4.Levels)]) (cs' := [(strV e_4.Name), (.int .i64 e_4.Levels)]) 0 0 hF hS sz85 rfl rfl rfl rfl rfl rfl rfl rfl fun a w hF hS => q_end (n_sq (q_seq ?_))
    obtain ⟨t_12, hj4, hb2⟩ := bindS hb2
    refine q_join (fun a w => Fr a 36 [(0, s1.v), (9, s1.v), (10, (.int .i64 (goLen p_s))), (11, (.int .i64 t_3)), (34, (.bool t_12))] ∧ St [] w0 w m []) ?_ ?_
    ·refine e_region ⟨[], []⟩ mixed fun w' hw' => ?_
     have hS := hS.below hw'
     refine e_p (v := (.pointer (some ⟨b6, 0, none⟩))) 0 hF rfl (ex_fieldAddr Try.underlying85 rfl sz9 rfl rfl) rfl rfl (by kernel_rfl) (by kernel_rfl) (by kernel_rfl) fun a hF => e_x (v := (strV e_4.Name)) 1 hF hS rfl (ex_load1 0 0 Try.underlying9 rfl rfl rfl rfl) rfl rfl (by kernel_rfl) (by kernel_rfl) (by kernel_rfl) (by kernel_rfl) fun a hF => e_one 2 (by kernel_rfl) ?_
     obtain ⟨t_7, ht_7, hj4⟩ := bindS hj4
     refine e_call (vs := [(strV e_4.Name)]) hF hS rfl Try.func81 (by kernel_rfl) rfl rfl rfl (c_spec_sName e_4.Name t_7 ht_7 _ m hS.vis) ?_
     rintro a w _ rfl hF hS
     refine e_p (v := (.bool (!t_7))) 3 hF rfl (ex_not rfl) rfl rfl (by kernel_rfl) (by kernel_rfl) (by kernel_rfl) fun a hF => e_p (v := (.bool (!t_7))) 4 hF rfl (ex_move rfl) rfl rfl (by kernel_rfl) (by kernel_rfl) (by kernel_rfl) fun a hF => ?_
     rcases bcase (!t_7) with hc5 | hc5
     ·have hj4 := cond_f hc5 hj4
      refine e_pg (v := (.pointer (some ⟨b6, 1, none⟩))) 5 hF rfl (ex_fieldAddr Try.underlying85 rfl sz3 rfl rfl) (wanted_t hF rfl rfl rfl hc5) rfl (by kernel_rfl) (by kernel_rfl) (by kernel_rfl) fun a hF => e_xg (v := (.int .i64 e_4.Levels)) 6 hF hS rfl (ex_load1 0 0 Try.underlying3 rfl rfl rfl rfl) (wanted_t hF rfl rfl rfl hc5) rfl (by kernel_rfl) (by kernel_rfl) (by kernel_rfl) (by kernel_rfl) fun a hF => e_one 7 (by kernel_rfl) ?_
      obtain ⟨t_8, ht_8, hj4⟩ := bindS hj4
      refine e_callg (vs := [(.int .i64 e_4.Levels), (.int .i64 2), (.int .i64 8)]) hF hS rfl (wanted_t hF rfl rfl rfl hc5) Try.func42 (by kernel_rfl) rfl rfl rfl (c_spec_l1In e_4.Levels 2 8 t_8 ht_8 _ m hS.vis) ?_
      rintro a w _ rfl hF hS
      refine e_pg (v := (.bool (!t_8))) 8 hF rfl (ex_not rfl) (wanted_t hF rfl rfl rfl hc5) rfl (by kernel_rfl) (by kernel_rfl) (by kernel_rfl) fun a hF => e_p (v := (.bool (!t_8))) 9 hF rfl (ex_pick_f rfl rfl hc5) rfl rfl (by kernel_rfl) (by kernel_rfl) (by kernel_rfl) fun a hF => e_p (v := (.bool (!t_8))) 10 hF rfl (ex_move rfl) rfl rfl (by kernel_rfl) (by kernel_rfl) (by kernel_rfl) fun a hF => ?_
      rcases bcase (!t_8) with hc6 | hc6
      ·have hj4 := cond_f hc6 hj4
       refine e_pg (v := s1.v) 11 hF rfl (ex_move rfl) (wanted_t hF rfl rfl rfl hc6) rfl (by kernel_rfl) (by kernel_rfl) (by kernel_rfl) fun a hF => e_pg (v := (.int .i64 t_3)) 12 hF rfl (ex_move rfl) (wanted_t hF rfl rfl rfl hc6) rfl (by kernel_rfl) (by kernel_rfl) (by kernel_rfl) fun a hF => ?_
       obtain ⟨l_9, hl_9, hj4⟩ := bindS hj4
       have h10 : Rd m (subS s1 2 (0 : Int).toNat t_3.toNat s1.cap) l_9 := h1.sub' hl_9 2 rfl
       refine e_pg (v := (subS s1 2 (0 : Int).toNat t_3.toNat s1.cap).v) 13 hF rfl (ex_slice Try.underlying23 sz85 rfl rfl rfl (.inl ⟨rfl, rfl⟩) (.inr ⟨_, rfl⟩) (h1.subok hl_9)) (wanted_t hF rfl rfl rfl hc6) rfl (by kernel_rfl) (by kernel_rfl) (by kernel_rfl) fun a hF => e_pg (v := (.pointer (some ⟨b6, 0, none⟩))) 14 hF rfl (ex_fieldAddr Try.underlying85 rfl sz9 rfl rfl) (wanted_t hF rfl rfl rfl hc6) rfl (by kernel_rfl) (by kernel_rfl) (by kernel_rfl) fun a hF => e_xg (v := (strV e_4.Name)) 15 hF hS rfl (ex_load1 0 0 Try.underlying9 rfl rfl rfl rfl) (wanted_t hF rfl rfl rfl hc6) rfl (by kernel_rfl) (by kernel_rfl) (by kernel_rfl) (by kernel_rfl) fun a hF => e_one 16 (by kernel_rfl) ?_
       obtain ⟨t_11, ht_11, hj4⟩ := bindS hj4
       refine e_callg (vs := [(subS s1 2 (0 : Int).toNat t_3.toNat s1.cap).v, (strV e_4.Name)]) hF hS rfl (wanted_t hF rfl rfl rfl hc6) Try.func82 (by kernel_rfl) rfl rfl rfl (c_spec_sFind l_9 e_4.Name t_11 ht_11 _ m hS.vis (subS s1 2 (0 : Int).toNat t_3.toNat s1.cap) h10) ?_
       rintro a w _ rfl hF hS
       refine e_pg (v := (.bool (decide (0 ≤ t_11)))) 17 hF rfl (ex_ibin rfl rfl rfl) (wanted_t hF rfl rfl rfl hc6) rfl (by kernel_rfl) (by kernel_rfl) (by kernel_rfl) fun a hF => e_p (v := (.bool (decide (0 ≤ t_11)))) 18 hF rfl (ex_pick_f rfl rfl hc6) rfl rfl (by kernel_rfl) (by kernel_rfl) (by kernel_rfl) fun a hF => e_end (by kernel_rfl) (n_jn ?_) _
       obtain rfl := someI hj4
       exact ⟨hF.sub ⟨rfl, rfl, rfl, rfl, rfl, trivial⟩, hS.mask [false]⟩
      ·have hj4 := cond_t hc6 hj4
       refine e_skipP 11 hF rfl (wanted_f hF rfl rfl rfl hc6 rfl) rfl (by kernel_rfl) (by kernel_rfl) (by kernel_rfl) fun a hF => e_skipP 12 hF rfl (wanted_f hF rfl rfl rfl hc6 rfl) rfl (by kernel_rfl) (by kernel_rfl) (by kernel_rfl) fun a hF => e_skipP 13 hF rfl (wanted_f hF rfl rfl rfl hc6 rfl) rfl (by kernel_rfl) (by kernel_rfl) (by kernel_rfl) fun a hF => e_skipP 14 hF rfl (wanted_f hF rfl rfl rfl hc6 rfl) rfl (by kernel_rfl) (by kernel_rfl) (by kernel_rfl) fun a hF => e_skipP 15 hF rfl (wanted_f hF rfl rfl rfl hc6 rfl) rfl (by kernel_rfl) (by kernel_rfl) (by kernel_rfl) fun a hF => e_skipP 16 hF rfl (wanted_f hF rfl rfl rfl hc6 rfl) rfl (by kernel_rfl) (by kernel_rfl) (by kernel_rfl) fun a hF => e_skipP 17 hF rfl (wanted_f hF rfl rfl rfl hc6 rfl) rfl (by kernel_rfl) (by kernel_rfl) (by kernel_rfl) fun a hF => e_p (v := (.bool true)) 18 hF rfl (ex_pick_t rfl rfl hc6) rfl rfl (by kernel_rfl) (by kernel_rfl) (by kernel_rfl) fun a hF => e_end (by kernel_rfl) (n_jn ?_) _
       obtain rfl := someI hj4
       exact ⟨hF.sub ⟨rfl, rfl, rfl, rfl, rfl, trivial⟩, hS.mask [false]⟩
     ·have hj4 := cond_t hc5 hj4
      refine e_skipP 5 hF rfl (wanted_f hF rfl rfl rfl hc5 rfl) rfl (by kernel_rfl) (by kernel_rfl) (by kernel_rfl) fun a hF => e_skipP 6 hF rfl (wanted_f hF rfl rfl rfl hc5 rfl) rfl (by kernel_rfl) (by kernel_rfl) (by kernel_rfl) fun a hF => e_skipP 7 hF rfl (wanted_f hF rfl rfl rfl hc5 rfl) rfl (by kernel_rfl) (by kernel_rfl) (by kernel_rfl) fun a hF => e_skipP 8 hF rfl (wanted_f hF rfl rfl rfl hc5 rfl) rfl (by kernel_rfl) (by kernel_rfl) (by kernel_rfl) fun a hF => e_p (v := (.bool true)) 9 hF rfl (ex_pick_t rfl rfl hc5) rfl rfl (by kernel_rfl) (by kernel_rfl) (by kernel_rfl) fun a hF => e_p (v := (.bool true)) 10 hF rfl (ex_move rfl) rfl rfl (by kernel_rfl) (by kernel_rfl) (by kernel_rfl) fun a hF => e_skipP 11 hF rfl (wanted_f hF rfl rfl rfl rfl rfl) rfl (by kernel_rfl) (by kernel_rfl) (by kernel_rfl) fun a hF => e_skipP 12 hF rfl (wanted_f hF rfl rfl rfl rfl rfl) rfl (by kernel_rfl) (by kernel_rfl) (by kernel_rfl) fun a hF => e_skipP 13 hF rfl (wanted_f hF rfl rfl rfl rfl rfl) rfl (by kernel_rfl) (by kernel_rfl) (by kernel_rfl) fun a hF => e_skipP 14 hF rfl (wanted_f hF rfl rfl rfl rfl rfl) rfl (by kernel_rfl) (by kernel_rfl) (by kernel_rfl) fun a hF => e_skipP 15 hF rfl (wanted_f hF rfl rfl rfl rfl rfl) rfl (by kernel_rfl) (by kernel_rfl) (by kernel_rfl) fun a hF => e_skipP 16 hF rfl (wanted_f hF rfl rfl rfl rfl rfl) rfl (by kernel_rfl) (by kernel_rfl) (by kernel_rfl) fun a hF => e_skipP 17 hF rfl (wanted_f hF rfl rfl rfl rfl rfl) rfl (by kernel_rfl) (by kernel_rfl) (by kernel_rfl) fun a hF => e_p (v := (.bool true)) 18 hF rfl (ex_pick_t rfl rfl rfl) rfl rfl (by kernel_rfl) (by kernel_rfl) (by kernel_rfl) fun a hF => e_end (by kernel_rfl) (n_jn ?_) _
      obtain rfl := someI hj4
      exact ⟨hF.sub ⟨rfl, rfl, rfl, rfl, rfl, trivial⟩, hS.mask [false]⟩
    ·rintro a w ⟨hF, hS⟩
     refine n_sq ?_
     rcases bcase (t_12) with hc7 | hc7
     ·have hb2 := cond_f hc7 hb2
      refine q_cond_f hF rfl hc7 (q_skipc (n_ib (n_sq (q_region (q_x (v := (.int .i64 (w64 (t_3 + 1)))) hF hS (ex_ibin rfl rfl rfl) rfl rfl fun a hF => q_x (v := (.int .i64 (w64 (t_3 + 1)))) hF hS (ex_move rfl) rfl rfl fun a hF => q_end ?_)))))
      obtain rfl := someI hb2
      exact ⟨rfl, hF.sub ⟨rfl, rfl, rfl, rfl, trivial⟩, hS⟩
     ·have hb2 := cond_t hc7 hb2
      refine q_cond_t hF rfl hc7 (q_seq (q_region (q_x (v := (.bool false)) hF hS (ex_assign rfl) rfl rfl fun a hF => q_end (n_sq (q_ret (r_ib (r_sq ?_)))))))
      obtain rfl := someI hb2
      refine ⟨nofun, .inr fun ho => ?_⟩
      subst ho
      refine r_ib (r_sq ?_)
      obtain rfl := someI hr
      exact ret_of hF hS rfl (.tmp rfl .nil) rfl
  ·rintro e a w ⟨rfl, rfl, hF, hS⟩
   refine x_ib (n_sq ?_)
   refine q_seq (q_region (q_x (v := (.bool true)) hF hS (ex_assign rfl) rfl rfl fun a hF => q_end (n_sq (q_ret ?_))))
   obtain rfl := someI hr
   exact ret_of hF hS rfl (.tmp rfl .nil) rfl
 ·have hr := cond_t hc1 hr
  refine q_cond_t hF rfl hc1 (q_seq (q_region (q_x (v := (.bool false)) hF hS (ex_assign rfl) rfl rfl fun a hF => q_end (n_sq (q_ret (r_sq ?_))))))
  obtain rfl := someI hr
  exact ret_of hF hS rfl (.tmp rfl .nil) rfl

theorem c_spec_eFull (p_s : List impl_Variable) (p_v : Int) (r : Int) (hr : spec_eFull p_s p_v = some r) (w0 : World) (m : Mem) (hv : Vis m w0) (s1 : Sl) (h1 : Rd m s1 p_s) :
  Ret Try.prog 91 [s1.v, (.int .i64 p_v)] w0 (fun v _ => v = (.int .i64 r)) := by
 unfold spec_eFull at hr
 refine ret_start Try.func91 rfl 13 rfl rfl m hv fun a hF hS => q_seq (q_region (q_x (v := (.int .i64 0)) hF hS (ex_assign rfl) rfl rfl fun a hF => q_end (n_sq (q_seq (q_region (q_x (v := s1.v) hF hS (ex_move rfl) rfl rfl fun a hF => q_x (v := (.int .i64 p_v)) hF hS (ex_move rfl) rfl rfl fun a hF => ?_))))))
 obtain ⟨e_2, he_2, hr⟩ := bindS hr
 obtain ⟨vs3, at3, d3⟩ := h1.at he_2 2 rfl
 obtain rfl : vs3 = [(strV e_2.Name), (.int .i64 e_2.Levels)] := d3
 refine q_x (v := (elP s1 (p_v.toNat * 2))) hF hS (ex_indexAddr Try.underlying23 sz85 rfl rfl (h1.idx he_2)) rfl rfl fun a hF => q_x (v := (elP s1 (p_v.toNat * 2 + 1))) hF hS (ex_fieldAddrE Try.underlying85 rfl sz3 rfl (h1.idx he_2) rfl) rfl rfl fun a hF => q_x (v := (.int .i64 e_2.Levels)) hF hS (ex_loadE1 1 Try.underlying3 rfl rfl ((at3).at) rfl rfl) rfl rfl fun a hF => q_x (v := (.int .u64 (IntKind.wrap .u64 e_2.Levels))) hF hS (ex_conv Try.underlying3 Try.underlying114 rfl) rfl rfl fun a hF => ?_
 obtain ⟨t_4, ht_4, hr⟩ := bindS hr
 refine q_x (v := (.int .i64 t_4)) hF hS (ex_shl rfl rfl ht_4) rfl rfl fun a hF => q_x (v := (.int .i64 (w64 (t_4 - 1)))) hF hS (ex_ibin rfl rfl rfl) rfl rfl fun a hF => q_x (v := (.int .i64 (w64 (t_4 - 1)))) hF hS (ex_assign rfl) rfl rfl fun a hF => q_end (n_sq (q_ret ?_))
 obtain rfl := someI hr
 exact ret_of hF hS rfl (.tmp rfl .nil) rfl

theorem c_spec_l1Cur_one (p_c : spec_l1Cur) (p_n : Int) (r : Bool × spec_l1Cur) (hr : spec_l1Cur_one p_c p_n = some r) (w0 : World) (m : Mem) (b_p_c : Nat) (s1 : Sl) (h1 : Rd m s1 p_c.code) (X : List Nat) (hS : St X w0 w0 m [[⟨b_p_c, [s1.v, (.int .i64 p_c.at_), (.int .u64 p_c.seed.v)], 64⟩]]) :
  RetX Try.prog 80 [(.pointer (some ⟨b_p_c, 0, none⟩)), (.int .i64 p_n)] w0 (fun v w => v = (.bool r.1) ∧ St X w0 w m [[⟨b_p_c, [s1.v, (.int .i64 r.2.at_), (.int .u64 r.2.seed.v)], 64⟩]] ∧ r.2.code = p_c.code) := by
 unfold spec_l1Cur_one at hr
 refine ret_startX Try.func80 rfl 9 rfl rfl fun a hF => q_seq (q_region (q_x (v := (.bool false)) hF hS (ex_assign rfl) rfl rfl fun a hF => q_end (n_sq (q_seq (q_region (q_x (v := (.pointer (some ⟨b_p_c, 0, none⟩))) hF hS (ex_move rfl) rfl rfl fun a hF => q_x (v := (.int .i64 p_n)) hF hS (ex_move rfl) rfl rfl fun a hF => ?_))))))
 have hS2 : St _ _ _ _ ([[⟨b_p_c, [s1.v, (.int .i64 p_c.at_), (.int .u64 p_c.seed.v)], 64⟩]] ++ []) := hS
 have hE2 := hS2.enter
 obtain ⟨t_3, ht_3, hr⟩ := bindS hr
 refine q_do rfl fun _ hK => wp_callX (vs := [(.pointer (some ⟨b_p_c, 0, none⟩)), (.int .i64 p_n)]) hF Try.func40 (by kernel_rfl) rfl rfl rfl (c_spec_l1Cur_pick p_c p_n t_3 ht_3 _ m b_p_c s1 h1 _ hE2) fun a w _ hR hF => hK _ _ ?_
 obtain ⟨rfl, hR2, hk4⟩ := hR
 have hS : St _ _ _ _ [[⟨b_p_c, [s1.v, (.int .i64 t_3.2.at_), (.int .u64 t_3.2.seed.v)], 64⟩]] := hS2.leaveF hR2
 have h4 : Rd m s1 t_3.2.code := by rw [hk4]; exact h1
 refine q_x (v := (.bool (t_3.1 == 0))) hF hS (ex_ibin rfl rfl rfl) rfl rfl fun a hF => q_x (v := (.bool (t_3.1 == 0))) hF hS (ex_assign rfl) rfl rfl fun a hF => q_end (n_sq (q_ret ?_))
 obtain rfl := someI hr
 exact ret_ofX hF hS rfl (.tmp rfl .nil) ⟨rfl, hS.sel [0] (by decide), hk4⟩

theorem c_spec_l1Cur_edit (p_c : spec_l1Cur) (p_s : List impl_Variable) (r : impl_Edit × spec_l1Cur) (hr : spec_l1Cur_edit p_c p_s = some r) (w0 : World) (m : Mem) (b_p_c : Nat) (s1 : Sl) (h1 : Rd m s1 p_c.code) (s2 : Sl) (h2 : Rd m s2 p_s) (X : List Nat) (hS : St X w0 w0 m [[⟨b_p_c, [s1.v, (.int .i64 p_c.at_), (.int .u64 p_c.seed.v)], 64⟩]]) :
  RetX Try.prog 92 [(.pointer (some ⟨b_p_c, 0, none⟩)), s2.v] w0 (fun v w => ∃ (q0' : Piece) (s0' : Sl), v = (.agg #[s0'.v]) ∧ St X w0 w m [[⟨b_p_c, [s1.v, (.int .i64 r.2.at_), (.int .u64 r.2.seed.v)], 64⟩], q0'] ∧ OwnL m 3 q0' s0' r.1.Sets ∧ r.2.code = p_c.code) := by
 unfold spec_l1Cur_edit at hr
 refine ret_startX Try.func92 rfl 34 rfl rfl fun a hF => q_seq (q_region (q_alloc (cs := [nilS.v]) hF hS rfl rfl rfl fun a w b3 hF hS => q_end (n_sq (q_seq (q_region (q_x (v := (.agg #[nilS.v])) hF hS (ex_build (cells := [nilS.v]) rfl (by kernel_rfl)) rfl rfl fun a hF => q_alloc (cs := [nilS.v]) hF hS rfl rfl rfl fun a w b4 hF hS => q_store (vs := [nilS.v]) (cs' := [nilS.v]) 0 0 hF hS sz93 rfl rfl rfl rfl rfl rfl rfl rfl fun a w hF hS => q_end (n_sq (q_seq (q_seq (q_region (q_x (v := s2.v) hF hS (ex_move rfl) rfl rfl fun a hF => q_x (v := (.int .i64 (goLen p_s))) hF hS (ex_len Try.underlying23 rfl h2.len) rfl rfl fun a hF => q_x (v := (.int .i64 0)) hF hS (ex_move rfl) rfl rfl fun a hF => q_end (n_sq (q_block ?_)))))))))))))
 obtain ⟨o1, hl1, hr⟩ := bindS hr
 refine q_loop (fun (s : Int × impl_Edit × spec_l1Cur) a w => ∃ (q7 : Piece), ∃ (s7 : Sl), ∃ t_5, ∃ e_6, ∃ p_c_8, s = (t_5, e_6, p_c_8) ∧ Fr a 34 [(0, (.pointer (some ⟨b_p_c, 0, none⟩))), (1, s2.v), (4, (.pointer (some ⟨b3, 0, none⟩))), (5, (.pointer (some ⟨b4, 0, none⟩))), (11, (.int .i64 (goLen p_s))), (12, (.int .i64 t_5))] ∧ St X w0 w m [q7, [⟨b4, [s7.v], 93⟩], [⟨b3, [nilS.v], 93⟩], [⟨b_p_c, [s1.v, (.int .i64 p_c_8.at_), (.int .u64 p_c_8.seed.v)], 64⟩]] ∧ OwnL m 3 q7 s7 e_6.Sets ∧ Rd m s1 p_c_8.code ∧ p_c_8.code = p_c.code) (fun (o : impl_Edit × spec_l1Cur) e a w => ∃ (q24 : Piece), ∃ (s24 : Sl), ∃ e_23, ∃ p_c_25, o = (e_23, p_c_25) ∧ e = .exit 0 ∧ Fr a 34 [(4, (.pointer (some ⟨b3, 0, none⟩))), (5, (.pointer (some ⟨b4, 0, none⟩)))] ∧ St X w0 w m [q24, [⟨b4, [s24.v], 93⟩], [⟨b3, [nilS.v], 93⟩], [⟨b_p_c, [s1.v, (.int .i64 p_c_25.at_), (.int .u64 p_c_25.seed.v)], 64⟩]] ∧ OwnL m 3 q24 s24 e_23.Sets ∧ Rd m s1 p_c_25.code ∧ p_c_25.code = p_c.code) hl1 ⟨[], nilS, _, _, _, rfl, hF.sub ⟨rfl, rfl, rfl, rfl, rfl, rfl, trivial⟩, hS.sel [3, 0, 1, 2] (by decide), (OwnL.nil (α := Int) m 3), h1, rfl⟩ ?_ ?_
 ·clear hF hS
  rintro s a w st ⟨q7, s7, t_5, e_6, p_c_8, rfl, hF, hS, h7, h9, h9k⟩ hb1
  unfold spec_l1Cur_edit_l1 at hb1
  refine q_seq (q_region (q_x (v := (.bool (decide (t_5 < (goLen p_s))))) hF hS (ex_ibin rfl rfl rfl) rfl rfl fun a hF => q_end (n_sq (q_seq ?_))))
  rcases bcase (decide (t_5 < (goLen p_s))) with hc2 | hc2
  ·have hb1 := cond_f hc2 hb1
   refine q_cond_f hF rfl hc2 (q_exit (x_sq ?_))
   obtain rfl := someI hb1
   exact ⟨nofun, .inl ⟨q7, s7, _, _, rfl, rfl, hF.sub ⟨rfl, rfl, trivial⟩, hS, h7, h9, h9k⟩⟩
  ·have hb1 := cond_t hc2 hb1
   refine q_cond_t hF rfl hc2 (q_skipc (n_sq (q_seq (q_block (q_seq (q_region (q_x (v := (.int .i64 t_5)) hF hS (ex_move rfl) rfl rfl fun a hF => q_x (v := (.int .i64 t_5)) hF hS (ex_assign rfl) rfl rfl fun a hF => q_end (n_sq (q_seq (q_region (q_x (v := s2.v) hF hS (ex_move rfl) rfl rfl fun a hF => q_x (v := (.int .i64 t_5)) hF hS (ex_move rfl) rfl rfl fun a hF => ?_)))))))))))
   obtain ⟨t_10, ht_10, hb1⟩ := bindS hb1
   refine q_call (vs := [s2.v, (.int .i64 t_5)]) hF hS Try.func91 (by kernel_rfl) rfl rfl rfl (c_spec_eFull p_s t_5 t_10 ht_10 _ m hS.vis s2 h2) ?_
   rintro a w _ rfl hF hS
   refine q_x (v := (.int .i64 t_10)) hF hS (ex_assign rfl) rfl rfl fun a hF => q_end (n_sq (q_seq (q_region (q_x (v := (.int .i64 t_10)) hF hS (ex_move rfl) rfl rfl fun a hF => q_x (v := (.int .i64 t_10)) hF hS (ex_assign rfl) rfl rfl fun a hF => q_end (n_sq (q_seq (q_seq (q_region (q_x (v := (.pointer (some ⟨b_p_c, 0, none⟩))) hF hS (ex_move rfl) rfl rfl fun a hF => ?_)))))))))
   have hS : St _ _ _ _ [[⟨b_p_c, [s1.v, (.int .i64 p_c_8.at_), (.int .u64 p_c_8.seed.v)], 64⟩], q7, [⟨b4, [s7.v], 93⟩], [⟨b3, [nilS.v], 93⟩]] := hS.sel [3, 0, 1, 2] (by decide)
   have hS11 : St _ _ _ _ ([[⟨b_p_c, [s1.v, (.int .i64 p_c_8.at_), (.int .u64 p_c_8.seed.v)], 64⟩]] ++ [q7, [⟨b4, [s7.v], 93⟩], [⟨b3, [nilS.v], 93⟩]]) := hS
   have hE11 := hS11.enter
   obtain ⟨t_12, ht_12, hb1⟩ := bindS hb1
   refine q_do rfl fun _ hK => wp_callX (vs := [(.pointer (some ⟨b_p_c, 0, none⟩)), (.int .i64 3)]) hF Try.func80 (by kernel_rfl) rfl rfl rfl (c_spec_l1Cur_one p_c_8 3 t_12 ht_12 _ m b_p_c s1 h9 _ hE11) fun a w _ hR hF => hK _ _ ?_
   obtain ⟨rfl, hR11, hk13⟩ := hR
   have hS : St _ _ _ _ [[⟨b_p_c, [s1.v, (.int .i64 t_12.2.at_), (.int .u64 t_12.2.seed.v)], 64⟩], q7, [⟨b4, [s7.v], 93⟩], [⟨b3, [nilS.v], 93⟩]] := hS11.leaveF hR11
   have h13 : Rd m s1 t_12.2.code := by rw [hk13]; exact h9
   refine q_x (v := (.bool (!t_12.1))) hF hS (ex_not rfl) rfl rfl fun a hF => q_end (n_sq ?_)
   obtain ⟨j3, hj3, hb1⟩ := bindS hb1
   refine q_join (fun a w => ∃ x_17, ∃ p_c_18, j3 = (x_17, p_c_18) ∧ Fr a 34 [(0, (.pointer (some ⟨b_p_c, 0, none⟩))), (1, s2.v), (4, (.pointer (some ⟨b3, 0, none⟩))), (5, (.pointer (some ⟨b4, 0, none⟩))), (8, (.int .i64 x_17)), (11, (.int .i64 (goLen p_s))), (12, (.int .i64 t_5))] ∧ St X w0 w m [q7, [⟨b_p_c, [s1.v, (.int .i64 p_c_18.at_), (.int .u64 p_c_18.seed.v)], 64⟩], [⟨b4, [s7.v], 93⟩], [⟨b3, [nilS.v], 93⟩]] ∧ Rd m s1 p_c_18.code ∧ p_c_18.code = p_c.code) ?_ ?_
   ·rcases bcase (!t_12.1) with hc4 | hc4
    ·have hj3 := cond_f hc4 hj3
     refine q_cond_f hF rfl hc4 (q_skipc (n_jn ?_))
     obtain rfl := someI hj3
     exact ⟨_, _, rfl, hF.sub ⟨rfl, rfl, rfl, rfl, rfl, rfl, rfl, trivial⟩, hS.sel [1, 0, 2, 3] (by decide), h13, (hk13.trans h9k)⟩
    ·have hj3 := cond_t hc4 hj3
     refine q_cond_t hF rfl hc4 (q_region (q_x (v := (.pointer (some ⟨b_p_c, 0, none⟩))) hF hS (ex_move rfl) rfl rfl fun a hF => q_x (v := (.int .i64 t_10)) hF hS (ex_move rfl) rfl rfl fun a hF => ?_))
     have hS14 : St _ _ _ _ ([[⟨b_p_c, [s1.v, (.int .i64 t_12.2.at_), (.int .u64 t_12.2.seed.v)], 64⟩]] ++ [q7, [⟨b4, [s7.v], 93⟩], [⟨b3, [nilS.v], 93⟩]]) := hS
     have hE14 := hS14.enter
     obtain ⟨t_15, ht_15, hj3⟩ := bindS hj3
     refine q_do rfl fun _ hK => wp_callX (vs := [(.pointer (some ⟨b_p_c, 0, none⟩)), (.int .i64 t_10)]) hF Try.func40 (by kernel_rfl) rfl rfl rfl (c_spec_l1Cur_pick t_12.2 t_10 t_15 ht_15 _ m b_p_c s1 h13 _ hE14) fun a w _ hR hF => hK _ _ ?_
     obtain ⟨rfl, hR14, hk16⟩ := hR
     have hS : St _ _ _ _ [[⟨b_p_c, [s1.v, (.int .i64 t_15.2.at_), (.int .u64 t_15.2.seed.v)], 64⟩], q7, [⟨b4, [s7.v], 93⟩], [⟨b3, [nilS.v], 93⟩]] := hS14.leaveF hR14
     have h16 : Rd m s1 t_15.2.code := by rw [hk16]; exact h13
     refine q_x (v := (.int .i64 (w64 (1 + t_15.1)))) hF hS (ex_ibin rfl rfl rfl) rfl rfl fun a hF => q_x (v := (.int .i64 (w64 (1 + t_15.1)))) hF hS (ex_assign rfl) rfl rfl fun a hF => q_end (n_jn ?_)
     obtain rfl := someI hj3
     exact ⟨_, _, rfl, hF.sub ⟨rfl, rfl, rfl, rfl, rfl, rfl, rfl, trivial⟩, hS.sel [1, 0, 2, 3] (by decide), h16, (hk16.trans (hk13.trans h9k))⟩
   ·rintro a w ⟨x_17, p_c_18, rfl, hF, hS, h19, h19k⟩
    refine n_sq ?_
    refine q_region (q_x (v := (.pointer (some ⟨b4, 0, none⟩))) hF hS (ex_fieldAddr Try.underlying93 rfl sz24 rfl rfl) rfl rfl fun a hF => q_x (v := s7.v) hF hS (ex_load1 2 0 Try.underlying24 rfl rfl rfl rfl) rfl rfl fun a hF => q_x (v := (.int .i64 x_17)) hF hS (ex_move rfl) rfl rfl fun a hF => q_do rfl fun _ hK => wp_buildSlice' (l := ([x_17] : List Int)) (cells := [(.int .i64 x_17)]) hF hS Try.underlying24 inf3 rfl rfl (by kernel_rfl) rfl rfl rfl ⟨rfl, rfl⟩ rfl rfl fun a w q20 s20 hF hS h20 _ => hK _ _ ?_)
    have hS : St _ _ _ _ [q7, q20, [⟨b_p_c, [s1.v, (.int .i64 p_c_18.at_), (.int .u64 p_c_18.seed.v)], 64⟩], [⟨b4, [s7.v], 93⟩], [⟨b3, [nilS.v], 93⟩]] := hS.sel [1, 0, 2, 3, 4] (by decide)
    obtain ⟨l_21, hl_21, hb1⟩ := bindS hb1
    refine q_do rfl fun _ hK => wp_append hF hS h7 Try.underlying24 inf3 rfl rfl rfl rfl (h20.vw hS (j := 1) rfl) rfl (by decide) hl_21 rfl fun a w q22 s22 hF hS h22 => hK _ _ (q_x (v := (.pointer (some ⟨b4, 0, none⟩))) hF hS (ex_fieldAddr Try.underlying93 rfl sz24 rfl rfl) rfl rfl fun a hF => q_store (vs := [s22.v]) (cs' := [s22.v]) 3 0 hF hS sz24 rfl rfl rfl rfl rfl rfl rfl rfl fun a w hF hS => q_end (n_ib (n_sq (q_region (q_x (v := (.int .i64 (w64 (t_5 + 1)))) hF hS (ex_ibin rfl rfl rfl) rfl rfl fun a hF => q_x (v := (.int .i64 (w64 (t_5 + 1)))) hF hS (ex_move rfl) rfl rfl fun a hF => q_end ?_)))))
    obtain rfl := someI hb1
    exact ⟨rfl, q22, s22, _, _, _, rfl, hF.sub ⟨rfl, rfl, rfl, rfl, rfl, rfl, trivial⟩, hS.sel [0, 3, 4, 2] (by decide), h22, h19, h19k⟩
 ·rintro e a w ⟨q24, s24, e_23, p_c_25, rfl, rfl, hF, hS, h24, h26, h26k⟩
  refine x_ib (n_sq ?_)
  refine q_seq (q_region (q_x (v := (.agg #[s24.v])) hF hS (ex_loadA (vs := [s24.v]) 1 0 Try.underlying93 rfl sz93 rfl rfl rfl rfl) rfl rfl fun a hF => q_store (vs := [s24.v]) (cs' := [s24.v]) 2 0 hF hS sz93 rfl rfl rfl rfl rfl rfl rfl rfl fun a w hF hS => q_end (n_sq (q_ret ?_))))
  obtain rfl := someI hr
  exact ret_ofX hF hS rfl (.cellA (us := [s24.v]) 2 0 Try.underlying93 rfl sz93 rfl rfl rfl rfl .nil) ⟨q24, s24, rfl, hS.sel [3, 0] (by decide), h24, h26k⟩

theorem c_spec_l1Cur_anyEdit (p_c : spec_l1Cur) (p_s : List impl_Variable) (r : impl_Edit × spec_l1Cur) (hr : spec_l1Cur_anyEdit p_c p_s = some r) (w0 : World) (m : Mem) (b_p_c : Nat) (s1 : Sl) (h1 : Rd m s1 p_c.code) (s2 : Sl) (h2 : Rd m s2 p_s) (X : List Nat) (hS : St X w0 w0 m [[⟨b_p_c, [s1.v, (.int .i64 p_c.at_), (.int .u64 p_c.seed.v)], 64⟩]]) :
  RetX Try.prog 88 [(.pointer (some ⟨b_p_c, 0, none⟩)), s2.v] w0 (fun v w => ∃ (q0' : Piece) (s0' : Sl), v = (.agg #[s0'.v]) ∧ St X w0 w m [[⟨b_p_c, [s1.v, (.int .i64 r.2.at_), (.int .u64 r.2.seed.v)], 64⟩], q0'] ∧ OwnL m 3 q0' s0' r.1.Sets ∧ r.2.code = p_c.code) := by
 unfold spec_l1Cur_anyEdit at hr
 refine ret_startX Try.func88 rfl 37 rfl rfl fun a hF => q_seq (q_region (q_alloc (cs := [nilS.v]) hF hS rfl rfl rfl fun a w b3 hF hS => q_end (n_sq (q_seq (q_seq (q_region (q_x (v := s2.v) hF hS (ex_move rfl) rfl rfl fun a hF => ?_)))))))
 obtain ⟨t_4, ht_4, hr⟩ := bindS hr
 refine q_call (vs := [s2.v]) hF hS Try.func49 (by kernel_rfl) rfl rfl rfl (c_spec_sGood p_s t_4 ht_4 _ m hS.vis s2 h2) ?_
 rintro a w _ rfl hF hS
 refine q_x (v := (.bool (!t_4))) hF hS (ex_not rfl) rfl rfl fun a hF => q_end (n_sq ?_)
 rcases bcase (!t_4) with hc1 | hc1
 ·have hr := cond_f hc1 hr
  refine q_cond_f hF rfl hc1 (q_skipc (n_sq (q_seq (q_region (q_x (v := (.pointer (some ⟨b_p_c, 0, none⟩))) hF hS (ex_move rfl) rfl rfl fun a hF => q_x (v := s2.v) hF hS (ex_move rfl) rfl rfl fun a hF => ?_)))))
  have hS : St _ _ _ _ [[⟨b_p_c, [s1.v, (.int .i64 p_c.at_), (.int .u64 p_c.seed.v)], 64⟩], [⟨b3, [nilS.v], 93⟩]] := hS.sel [1, 0] (by decide)
  have hS5 : St _ _ _ _ ([[⟨b_p_c, [s1.v, (.int .i64 p_c.at_), (.int .u64 p_c.seed.v)], 64⟩]] ++ [[⟨b3, [nilS.v], 93⟩]]) := hS
  have hE5 := hS5.enter
  obtain ⟨t_6, ht_6, hr⟩ := bindS hr
  refine q_do rfl fun _ hK => wp_callX (vs := [(.pointer (some ⟨b_p_c, 0, none⟩)), s2.v]) hF Try.func92 (by kernel_rfl) rfl rfl rfl (c_spec_l1Cur_edit p_c p_s t_6 ht_6 _ m b_p_c s1 h1 s2 h2 _ hE5) fun a w _ hR hF => hK _ _ ?_
  obtain ⟨q7, s7, rfl, hR5, h7, hk8⟩ := hR
  have hS : St _ _ _ _ [[⟨b_p_c, [s1.v, (.int .i64 t_6.2.at_), (.int .u64 t_6.2.seed.v)], 64⟩], q7, [⟨b3, [nilS.v], 93⟩]] := hS5.leaveF hR5
  have h8 : Rd m s1 t_6.2.code := by rw [hk8]; exact h1
  refine q_alloc (cs := [nilS.v]) hF hS rfl rfl rfl fun a w b9 hF hS => q_store (vs := [s7.v]) (cs' := [s7.v]) 0 0 hF hS sz93 rfl rfl rfl rfl rfl rfl rfl rfl fun a w hF hS => q_end (n_sq (q_seq (q_seq (q_region (q_x (v := (.pointer (some ⟨b_p_c, 0, none⟩))) hF hS (ex_move rfl) rfl rfl fun a hF => ?_)))))
  have hS : St _ _ _ _ [[⟨b_p_c, [s1.v, (.int .i64 t_6.2.at_), (.int .u64 t_6.2.seed.v)], 64⟩], [⟨b9, [s7.v], 93⟩], q7, [⟨b3, [nilS.v], 93⟩]] := hS.sel [1, 0, 2, 3] (by decide)
  have hS10 : St _ _ _ _ ([[⟨b_p_c, [s1.v, (.int .i64 t_6.2.at_), (.int .u64 t_6.2.seed.v)], 64⟩]] ++ [[⟨b9, [s7.v], 93⟩], q7, [⟨b3, [nilS.v], 93⟩]]) := hS
  have hE10 := hS10.enter
  obtain ⟨t_11, ht_11, hr⟩ := bindS hr
  refine q_do rfl fun _ hK => wp_callX (vs := [(.pointer (some ⟨b_p_c, 0, none⟩)), (.int .i64 24)]) hF Try.func40 (by kernel_rfl) rfl rfl rfl (c_spec_l1Cur_pick t_6.2 24 t_11 ht_11 _ m b_p_c s1 h8 _ hE10) fun a w _ hR hF => hK _ _ ?_
  obtain ⟨rfl, hR10, hk12⟩ := hR
  have hS : St _ _ _ _ [[⟨b_p_c, [s1.v, (.int .i64 t_11.2.at_), (.int .u64 t_11.2.seed.v)], 64⟩], [⟨b9, [s7.v], 93⟩], q7, [⟨b3, [nilS.v], 93⟩]] := hS10.leaveF hR10
  have h12 : Rd m s1 t_11.2.code := by rw [hk12]; exact h8
  refine q_end (n_sq (q_block (q_seq (q_region (q_x (v := (.bool (t_11.1 == 0))) hF hS (ex_ibin rfl rfl rfl) rfl rfl fun a hF => q_x (v := (.bool (t_11.1 == 0))) hF hS (ex_assign rfl) rfl rfl fun a hF => q_end (n_sq ?_))))))
  obtain ⟨j2, hj2, hr⟩ := bindS hr
  refine q_join (fun a w => ∃ (q42 : Piece), ∃ (s42 : Sl), ∃ p_c_39, ∃ e_41, j2 = (p_c_39, e_41) ∧ Fr a 37 [(4, (.pointer (some ⟨b3, 0, none⟩))), (5, (.pointer (some ⟨b9, 0, none⟩)))] ∧ St X w0 w m [q42, [⟨b_p_c, [s1.v, (.int .i64 p_c_39.at_), (.int .u64 p_c_39.seed.v)], 64⟩], [⟨b9, [s42.v], 93⟩], [⟨b3, [nilS.v], 93⟩]] ∧ Rd m s1 p_c_39.code ∧ p_c_39.code = p_c.code ∧ OwnL m 3 q42 s42 e_41.Sets) ?_ ?_
  ·rcases bcase (t_11.1 == 0) with hc3 | hc3
   ·have hj2 := cond_f hc3 hj2
    refine q_cond_f hF rfl hc3 (q_seq (q_region (q_x (v := (.bool (t_11.1 == 1))) hF hS (ex_ibin rfl rfl rfl) rfl rfl fun a hF => q_x (v := (.bool (t_11.1 == 1))) hF hS (ex_assign rfl) rfl rfl fun a hF => q_end (n_sq ?_))))
    obtain ⟨e_16, hj4, hj2⟩ := bindS hj2
    refine q_join (fun a w => ∃ (q17 : Piece), ∃ (s17 : Sl), Fr a 37 [(4, (.pointer (some ⟨b3, 0, none⟩))), (5, (.pointer (some ⟨b9, 0, none⟩)))] ∧ St X w0 w m [q17, [⟨b_p_c, [s1.v, (.int .i64 t_11.2.at_), (.int .u64 t_11.2.seed.v)], 64⟩], [⟨b9, [s17.v], 93⟩], [⟨b3, [nilS.v], 93⟩]] ∧ OwnL m 3 q17 s17 e_16.Sets) ?_ ?_
    ·rcases bcase (t_11.1 == 1) with hc5 | hc5
     ·have hj4 := cond_f hc5 hj4
      refine q_cond_f hF rfl hc5 (q_skipc (n_jn ?_))
      obtain rfl := someI hj4
      exact ⟨q7, s7, hF.sub ⟨rfl, rfl, trivial⟩, hS.sel [2, 0, 1, 3] (by decide), h7⟩
     ·have hj4 := cond_t hc5 hj4
      refine q_cond_t hF rfl hc5 (q_region (q_x (v := (.pointer (some ⟨b9, 0, none⟩))) hF hS (ex_fieldAddr Try.underlying93 rfl sz24 rfl rfl) rfl rfl fun a hF => q_x (v := s7.v) hF hS (ex_load1 1 0 Try.underlying24 rfl rfl rfl rfl) rfl rfl fun a hF => q_do rfl fun _ hK => wp_buildSlice' (l := ([1] : List Int)) (cells := [(.int .i64 1)]) hF hS Try.underlying24 inf3 rfl rfl (by kernel_rfl) rfl rfl rfl ⟨rfl, rfl⟩ rfl rfl fun a w q13 s13 hF hS h13 _ => hK _ _ ?_))
      have hS : St _ _ _ _ [q7, q13, [⟨b_p_c, [s1.v, (.int .i64 t_11.2.at_), (.int .u64 t_11.2.seed.v)], 64⟩], [⟨b9, [s7.v], 93⟩], [⟨b3, [nilS.v], 93⟩]] := hS.sel [3, 0, 1, 2, 4] (by decide)
      obtain ⟨l_14, hl_14, hj4⟩ := bindS hj4
      refine q_do rfl fun _ hK => wp_append hF hS h7 Try.underlying24 inf3 rfl rfl rfl rfl (h13.vw hS (j := 1) rfl) rfl (by decide) hl_14 rfl fun a w q15 s15 hF hS h15 => hK _ _ (q_x (v := (.pointer (some ⟨b9, 0, none⟩))) hF hS (ex_fieldAddr Try.underlying93 rfl sz24 rfl rfl) rfl rfl fun a hF => q_store (vs := [s15.v]) (cs' := [s15.v]) 3 0 hF hS sz24 rfl rfl rfl rfl rfl rfl rfl rfl fun a w hF hS => q_end (n_jn ?_))
      obtain rfl := someI hj4
      exact ⟨q15, s15, hF.sub ⟨rfl, rfl, trivial⟩, hS.mask [true, false, true, true, true], h15⟩
    ·rintro a w ⟨q17, s17, hF, hS, h17⟩
     refine n_jn ?_
     obtain rfl := someI hj2
     exact ⟨q17, s17, _, _, rfl, hF.sub ⟨rfl, rfl, trivial⟩, hS, h12, (hk12.trans hk8), h17⟩
   ·have hj2 := cond_t hc3 hj2
    refine q_cond_t hF rfl hc3 ?_
    obtain ⟨j6, hj6, hj2⟩ := bindS hj2
    refine q_join (fun a w => ∃ (q38 : Piece), ∃ p_c_35, ∃ e_37, j6 = (p_c_35, e_37) ∧ Fr a 37 [(4, (.pointer (some ⟨b3, 0, none⟩))), (5, (.pointer (some ⟨b9, 0, none⟩)))] ∧ St X w0 w m [q38, [⟨b_p_c, [s1.v, (.int .i64 p_c_35.at_), (.int .u64 p_c_35.seed.v)], 64⟩], [⟨b9, [s7.v], 93⟩], [⟨b3, [nilS.v], 93⟩]] ∧ Rd m s1 p_c_35.code ∧ p_c_35.code = p_c.code ∧ OwnL m 3 q38 s7 e_37.Sets) ?_ ?_
    ·refine e_region ⟨[6, 9, 11], [b9]⟩ mixed fun w' hw' => ?_
     have hS := hS.below hw'
     refine e_p (v := (.pointer (some ⟨b9, 0, none⟩))) 0 hF rfl (ex_fieldAddr Try.underlying93 rfl sz24 rfl rfl) rfl rfl (by kernel_rfl) (by kernel_rfl) (by kernel_rfl) fun a hF => e_xb (v := s7.v) 1 1 hF hS (.head _) rfl rfl (ex_load1 0 0 Try.underlying24 rfl rfl rfl rfl) rfl rfl (by kernel_rfl) (by kernel_rfl) (by kernel_rfl) fun a hF => e_p (v := (.pointer (some ⟨b_p_c, 0, none⟩))) 2 hF rfl (ex_move rfl) rfl rfl (by kernel_rfl) (by kernel_rfl) (by kernel_rfl) fun a hF => e_p (v := (.pointer (some ⟨b9, 0, none⟩))) 3 hF rfl (ex_fieldAddr Try.underlying93 rfl sz24 rfl rfl) rfl rfl (by kernel_rfl) (by kernel_rfl) (by kernel_rfl) fun a hF => e_xb (v := s7.v) 4 1 hF hS (.head _) rfl rfl (ex_load1 0 0 Try.underlying24 rfl rfl rfl rfl) rfl rfl (by kernel_rfl) (by kernel_rfl) (by kernel_rfl) fun a hF => e_p (v := (.int .i64 (goLen t_6.1.Sets))) 5 hF rfl (ex_len Try.underlying24 rfl h7.len) rfl rfl (by kernel_rfl) (by kernel_rfl) (by kernel_rfl) fun a hF => e_p (v := (.pointer (some ⟨b_p_c, 0, none⟩))) 7 hF rfl (ex_move rfl) rfl rfl (by kernel_rfl) (by kernel_rfl) (by kernel_rfl) fun a hF => ?_
     obtain ⟨t_26, ht_26, hj6⟩ := bindS hj6
     obtain ⟨t_30, ht_30, hj6⟩ := bindS hj6
     obtain ⟨e_32, he_32, hj6⟩ := bindS hj6
     refine e_all [6, 8] (by kernel_rfl) rfl ⟨?_, ?_, trivial⟩
     ·have hS25 : St _ _ _ _ ([[⟨b_p_c, [s1.v, (.int .i64 t_11.2.at_), (.int .u64 t_11.2.seed.v)], 64⟩]] ++ [[⟨b9, [s7.v], 93⟩], q7, [⟨b3, [nilS.v], 93⟩]]) := hS
      have hE25 := hS25.enter
      have hSo := hS
      refine e_opl rfl rfl rfl fun _ hK => wp_callX (vs := [(.pointer (some ⟨b_p_c, 0, none⟩)), (.int .i64 (goLen t_6.1.Sets))]) hF Try.func40 (by kernel_rfl) rfl rfl rfl (c_spec_l1Cur_pick t_11.2 (goLen t_6.1.Sets) t_26 ht_26 _ m b_p_c s1 h12 _ hE25) fun a w _ hR hF => hK _ _ ?_
      obtain ⟨rfl, hR25, hk27⟩ := hR
      have hS : St _ _ _ _ [[⟨b_p_c, [s1.v, (.int .i64 t_26.2.at_), (.int .u64 t_26.2.seed.v)], 64⟩], [⟨b9, [s7.v], 93⟩], q7, [⟨b3, [nilS.v], 93⟩]] := hS25.leaveF hR25
      have h27 : Rd m s1 t_26.2.code := by rw [hk27]; exact h12
      refine ⟨kpC hSo hS 1 1 rfl rfl kpN, ?_⟩
      refine e_one 8 (by kernel_rfl) (e_op rfl rfl fun _ hK => wp_buildSlice' (l := ([0, -1, 256, 4] : List Int)) (cells := [(.int .i64 0), (.int .i64 (-1)), (.int .i64 256), (.int .i64 4)]) hF hS Try.underlying24 inf3 rfl rfl (by kernel_rfl) rfl rfl rfl ⟨rfl, rfl, rfl, rfl, rfl⟩ rfl rfl fun a w q28 s28 hF hS h28 hb => hK _ _ hb (e_one 9 (by kernel_rfl) ?_))
      have hS : St _ _ _ _ [[⟨b_p_c, [s1.v, (.int .i64 t_26.2.at_), (.int .u64 t_26.2.seed.v)], 64⟩], q28, [⟨b9, [s7.v], 93⟩], q7, [⟨b3, [nilS.v], 93⟩]] := hS.sel [1, 0, 2, 3, 4] (by decide)
      have hS29 : St _ _ _ _ ([[⟨b_p_c, [s1.v, (.int .i64 t_26.2.at_), (.int .u64 t_26.2.seed.v)], 64⟩]] ++ [q28, [⟨b9, [s7.v], 93⟩], q7, [⟨b3, [nilS.v], 93⟩]]) := hS
      obtain ⟨m29, hl29, hE29, hz29⟩ := hS29.lendX
      have hSo := hS
      refine e_opl rfl rfl rfl fun _ hK => wp_callX (vs := [(.pointer (some ⟨b_p_c, 0, none⟩)), s28.v]) hF Try.func69 (by kernel_rfl) rfl rfl rfl (c_spec_l1Cur_among t_26.2 ([0, -1, 256, 4] : List Int) t_30 ht_30 _ m29 b_p_c s1 (h27.mono hl29) s28 (h28.froz hl29 (hz29 0 _ rfl)) _ hE29) fun a w _ hR hF => hK _ _ ?_
      obtain ⟨rfl, hR29, hk31⟩ := hR
      have hS : St _ _ _ _ [[⟨b_p_c, [s1.v, (.int .i64 t_30.2.at_), (.int .u64 t_30.2.seed.v)], 64⟩], q28, [⟨b9, [s7.v], 93⟩], q7, [⟨b3, [nilS.v], 93⟩]] := hS29.leaveF hR29
      have h31 : Rd m s1 t_30.2.code := by rw [hk31]; exact h27
      refine ⟨kpC hSo hS 2 2 rfl rfl kpN, ?_⟩
      obtain ⟨vs33, at33, d33⟩ := h7.at he_32 1 rfl
      obtain rfl : vs33 = [(.int .i64 e_32)] := d33
      refine e_p (v := (elP s7 (t_26.1.toNat * 1))) 10 hF rfl (ex_indexAddr Try.underlying24 sz3 rfl rfl (h7.idx he_32)) rfl rfl (by kernel_rfl) (by kernel_rfl) (by kernel_rfl) fun a hF => e_one 11 (by kernel_rfl) ?_
      have hS : St _ _ _ _ [q7, [⟨b_p_c, [s1.v, (.int .i64 t_30.2.at_), (.int .u64 t_30.2.seed.v)], 64⟩], q28, [⟨b9, [s7.v], 93⟩], [⟨b3, [nilS.v], 93⟩]] := hS.sel [3, 0, 1, 2, 4] (by decide)
      have hSo := hS
      refine e_opl rfl rfl rfl fun _ hK => wp_storeE (e' := t_30.1) (us := [(.int .i64 t_30.1)]) (vs := [(.int .i64 e_32)]) 0 hF hS h7 sz3 rfl rfl rfl rfl rfl rfl rfl he_32 at33 rfl rfl rfl fun w q34 hS h34 => hK _ _ (⟨kpC hSo hS 3 3 rfl rfl kpN, ?_⟩)
      refine e_end (by kernel_rfl) (n_jn ?_) _
      obtain rfl := someI hj6
      exact ⟨q34, _, _, rfl, hF.sub ⟨rfl, rfl, trivial⟩, hS.mask [true, true, false, true, true], h31, (hk31.trans (hk27.trans (hk12.trans hk8))), h34⟩
     ·refine e_op rfl rfl fun _ hK => wp_buildSlice' (l := ([0, -1, 256, 4] : List Int)) (cells := [(.int .i64 0), (.int .i64 (-1)), (.int .i64 256), (.int .i64 4)]) hF hS Try.underlying24 inf3 rfl rfl (by kernel_rfl) rfl rfl rfl ⟨rfl, rfl, rfl, rfl, rfl⟩ rfl rfl fun a w q28 s28 hF hS h28 hb => hK _ _ hb (e_one 6 (by kernel_rfl) ?_)
      have hS : St _ _ _ _ [[⟨b_p_c, [s1.v, (.int .i64 t_11.2.at_), (.int .u64 t_11.2.seed.v)], 64⟩], q28, [⟨b9, [s7.v], 93⟩], q7, [⟨b3, [nilS.v], 93⟩]] := hS.sel [1, 0, 2, 3, 4] (by decide)
      have hS25 : St _ _ _ _ ([[⟨b_p_c, [s1.v, (.int .i64 t_11.2.at_), (.int .u64 t_11.2.seed.v)], 64⟩]] ++ [q28, [⟨b9, [s7.v], 93⟩], q7, [⟨b3, [nilS.v], 93⟩]]) := hS
      have hE25 := hS25.enter
      have hSo := hS
      refine e_opl rfl rfl rfl fun _ hK => wp_callX (vs := [(.pointer (some ⟨b_p_c, 0, none⟩)), (.int .i64 (goLen t_6.1.Sets))]) hF Try.func40 (by kernel_rfl) rfl rfl rfl (c_spec_l1Cur_pick t_11.2 (goLen t_6.1.Sets) t_26 ht_26 _ m b_p_c s1 h12 _ hE25) fun a w _ hR hF => hK _ _ ?_
      obtain ⟨rfl, hR25, hk27⟩ := hR
      have hS : St _ _ _ _ [[⟨b_p_c, [s1.v, (.int .i64 t_26.2.at_), (.int .u64 t_26.2.seed.v)], 64⟩], q28, [⟨b9, [s7.v], 93⟩], q7, [⟨b3, [nilS.v], 93⟩]] := hS25.leaveF hR25
      have h27 : Rd m s1 t_26.2.code := by rw [hk27]; exact h12
      refine ⟨kpC hSo hS 2 2 rfl rfl kpN, ?_⟩
      refine e_one 9 (by kernel_rfl) ?_
      have hS29 : St _ _ _ _ ([[⟨b_p_c, [s1.v, (.int .i64 t_26.2.at_), (.int .u64 t_26.2.seed.v)], 64⟩]] ++ [q28, [⟨b9, [s7.v], 93⟩], q7, [⟨b3, [nilS.v], 93⟩]]) := hS
      obtain ⟨m29, hl29, hE29, hz29⟩ := hS29.lendX
      have hSo := hS
      refine e_opl rfl rfl rfl fun _ hK => wp_callX (vs := [(.pointer (some ⟨b_p_c, 0, none⟩)), s28.v]) hF Try.func69 (by kernel_rfl) rfl rfl rfl (c_spec_l1Cur_among t_26.2 ([0, -1, 256, 4] : List Int) t_30 ht_30 _ m29 b_p_c s1 (h27.mono hl29) s28 (h28.froz hl29 (hz29 0 _ rfl)) _ hE29) fun a w _ hR hF => hK _ _ ?_
      obtain ⟨rfl, hR29, hk31⟩ := hR
      have hS : St _ _ _ _ [[⟨b_p_c, [s1.v, (.int .i64 t_30.2.at_), (.int .u64 t_30.2.seed.v)], 64⟩], q28, [⟨b9, [s7.v], 93⟩], q7, [⟨b3, [nilS.v], 93⟩]] := hS29.leaveF hR29
      have h31 : Rd m s1 t_30.2.code := by rw [hk31]; exact h27
      refine ⟨kpC hSo hS 2 2 rfl rfl kpN, ?_⟩
      obtain ⟨vs33, at33, d33⟩ := h7.at he_32 1 rfl
      obtain rfl : vs33 = [(.int .i64 e_32)] := d33
      refine e_p (v := (elP s7 (t_26.1.toNat * 1))) 10 hF rfl (ex_indexAddr Try.underlying24 sz3 rfl rfl (h7.idx he_32)) rfl rfl (by kernel_rfl) (by kernel_rfl) (by kernel_rfl) fun a hF => e_one 11 (by kernel_rfl) ?_
      have hS : St _ _ _ _ [q7, [⟨b_p_c, [s1.v, (.int .i64 t_30.2.at_), (.int .u64 t_30.2.seed.v)], 64⟩], q28, [⟨b9, [s7.v], 93⟩], [⟨b3, [nilS.v], 93⟩]] := hS.sel [3, 0, 1, 2, 4] (by decide)
      have hSo := hS
      refine e_opl rfl rfl rfl fun _ hK => wp_storeE (e' := t_30.1) (us := [(.int .i64 t_30.1)]) (vs := [(.int .i64 e_32)]) 0 hF hS h7 sz3 rfl rfl rfl rfl rfl rfl rfl he_32 at33 rfl rfl rfl fun w q34 hS h34 => hK _ _ (⟨kpC hSo hS 3 3 rfl rfl kpN, ?_⟩)
      refine e_end (by kernel_rfl) (n_jn ?_) _
      obtain rfl := someI hj6
      exact ⟨q34, _, _, rfl, hF.sub ⟨rfl, rfl, trivial⟩, hS.mask [true, true, false, true, true], h31, (hk31.trans (hk27.trans (hk12.trans hk8))), h34⟩
    ·rintro a w ⟨q38, p_c_35, e_37, rfl, hF, hS, h36, h36k, h38⟩
     refine n_jn ?_
     obtain rfl := someI hj2
     exact ⟨q38, s7, _, _, rfl, hF.sub ⟨rfl, rfl, trivial⟩, hS, h36, h36k, h38⟩
  ·rintro a w ⟨q42, s42, p_c_39, e_41, rfl, hF, hS, h40, h40k, h42⟩
   refine n_ib (n_sq ?_)
   refine q_seq (q_region (q_x (v := (.agg #[s42.v])) hF hS (ex_loadA (vs := [s42.v]) 2 0 Try.underlying93 rfl sz93 rfl rfl rfl rfl) rfl rfl fun a hF => q_store (vs := [s42.v]) (cs' := [s42.v]) 3 0 hF hS sz93 rfl rfl rfl rfl rfl rfl rfl rfl fun a w hF hS => q_end (n_sq (q_ret ?_))))
   obtain rfl := someI hr
   exact ret_ofX hF hS rfl (.cellA (us := [s42.v]) 3 0 Try.underlying93 rfl sz93 rfl rfl rfl rfl .nil) ⟨q42, s42, rfl, hS.sel [1, 0] (by decide), h42, h40k⟩
 ·have hr := cond_t hc1 hr
  refine q_cond_t hF rfl hc1 (q_seq (q_region (q_do rfl fun _ hK => wp_buildSlice' (l := ([1] : List Int)) (cells := [(.int .i64 1)]) hF hS Try.underlying24 inf3 rfl rfl (by kernel_rfl) rfl rfl rfl ⟨rfl, rfl⟩ rfl rfl fun a w q43 s43 hF hS h43 _ => hK _ _ (q_x (v := (.agg #[s43.v])) hF hS (ex_build (cells := [s43.v]) rfl (by kernel_rfl)) rfl rfl fun a hF => q_store (vs := [s43.v]) (cs' := [s43.v]) 1 0 hF hS sz93 rfl rfl rfl rfl rfl rfl rfl rfl fun a w hF hS => q_end (n_sq (q_ret (r_sq ?_)))))))
  obtain rfl := someI hr
  exact ret_ofX hF hS rfl (.cellA (us := [s43.v]) 1 0 Try.underlying93 rfl sz93 rfl rfl rfl rfl .nil) ⟨q43, s43, rfl, hS.sel [2, 0] (by decide), h43, rfl⟩

theorem c_spec_l1Own (p_l : List Int) (r : (List Int)) (hr : spec_l1Own p_l = some r) (w0 : World) (m : Mem) (hv : Vis m w0) (s1 : Sl) (h1 : Rd m s1 p_l) :
  Ret Try.prog 52 [s1.v] w0 (fun v w => ∃ (q0' : Piece) (s0' : Sl), v = s0'.v ∧ St [] w0 w m [q0'] ∧ OwnL m 3 q0' s0' r) := by
 unfold spec_l1Own at hr
 refine ret_start Try.func52 rfl 6 rfl rfl m hv fun a hF hS => q_seq (q_region (q_x (v := nilS.v) hF hS (ex_assign rfl) rfl rfl fun a hF => q_end (n_sq (q_seq (q_region (q_do rfl fun _ hK => wp_build0 (α := Int) hF hS Try.underlying24 inf3 rfl fun a w q2 s2 hF hS h2 _ => hK _ _ (q_x (v := s1.v) hF hS (ex_move rfl) rfl rfl fun a hF => ?_)))))))
 obtain ⟨l_3, hl_3, hr⟩ := bindS hr
 refine q_do rfl fun _ hK => wp_append hF hS h2 Try.underlying24 inf3 rfl rfl rfl rfl (h1.vw hS.vis) rfl (by decide) hl_3 rfl fun a w q4 s4 hF hS h4 => hK _ _ (q_x (v := s4.v) hF hS (ex_assign rfl) rfl rfl fun a hF => q_end (n_sq (q_ret ?_)))
 obtain rfl := someI hr
 exact ret_of hF hS rfl (.tmp rfl .nil) ⟨q4, s4, rfl, hS.sel [0] (by decide), h4⟩

theorem c_spec_l1Cur_edits (p_c : spec_l1Cur) (p_s : List impl_Variable) (r : (List impl_Edit) × spec_l1Cur) (hr : spec_l1Cur_edits p_c p_s = some r) (w0 : World) (m : Mem) (b_p_c : Nat) (s1 : Sl) (h1 : Rd m s1 p_c.code) (s2 : Sl) (h2 : Rd m s2 p_s) (X : List Nat) (hS : St X w0 w0 m [[⟨b_p_c, [s1.v, (.int .i64 p_c.at_), (.int .u64 p_c.seed.v)], 64⟩]]) :
  RetX Try.prog 65 [(.pointer (some ⟨b_p_c, 0, none⟩)), s2.v] w0 (fun v w => ∃ (m' : Mem) (q0' : Piece) (s0' : Sl), v = s0'.v ∧ MLe X w0.heap.size m m' ∧ St X w0 w m' [[⟨b_p_c, [s1.v, (.int .i64 r.2.at_), (.int .u64 r.2.seed.v)], 64⟩], q0'] ∧ OwnL m' 93 q0' s0' r.1 ∧ r.2.code = p_c.code) := by
 unfold spec_l1Cur_edits at hr
 refine ret_startX Try.func65 rfl 41 rfl rfl fun a hF => q_seq (q_region (q_x (v := nilS.v) hF hS (ex_assign rfl) rfl rfl fun a hF => q_end (n_sq (q_seq (q_region (q_x (v := nilS.v) hF hS (ex_assign rfl) rfl rfl fun a hF => q_end (n_sq (q_seq (q_seq (q_region (q_x (v := (.pointer (some ⟨b_p_c, 0, none⟩))) hF hS (ex_move rfl) rfl rfl fun a hF => ?_)))))))))))
 have hS3 : St _ _ _ _ ([[⟨b_p_c, [s1.v, (.int .i64 p_c.at_), (.int .u64 p_c.seed.v)], 64⟩]] ++ []) := hS
 have hE3 := hS3.enter
 obtain ⟨t_4, ht_4, hr⟩ := bindS hr
 refine q_do rfl fun _ hK => wp_callX (vs := [(.pointer (some ⟨b_p_c, 0, none⟩)), (.int .i64 6)]) hF Try.func40 (by kernel_rfl) rfl rfl rfl (c_spec_l1Cur_pick p_c 6 t_4 ht_4 _ m b_p_c s1 h1 _ hE3) fun a w _ hR hF => hK _ _ ?_
 obtain ⟨rfl, hR3, hk5⟩ := hR
 have hS : St _ _ _ _ [[⟨b_p_c, [s1.v, (.int .i64 t_4.2.at_), (.int .u64 t_4.2.seed.v)], 64⟩]] := hS3.leaveF hR3
 have h5 : Rd m s1 t_4.2.code := by rw [hk5]; exact h1
 refine q_x (v := (.int .i64 t_4.1)) hF hS (ex_assign rfl) rfl rfl fun a hF => q_end (n_sq (q_block ?_))
 obtain ⟨o1, hl1, hr⟩ := bindS hr
 refine q_loop (fun (s : (List impl_Edit) × Int × spec_l1Cur) a w => ∃ (m11 : Mem), ∃ (q7 : Piece), ∃ (s7 : Sl), ∃ l_6, ∃ k_8, ∃ p_c_9, s = (l_6, k_8, p_c_9) ∧ Fr a 41 [(0, (.pointer (some ⟨b_p_c, 0, none⟩))), (1, s2.v), (5, s7.v), (6, (.int .i64 k_8))] ∧ St X w0 w m11 [q7, [⟨b_p_c, [s1.v, (.int .i64 p_c_9.at_), (.int .u64 p_c_9.seed.v)], 64⟩]] ∧ MLe X w0.heap.size m m11 ∧ OwnL m11 93 q7 s7 l_6 ∧ Rd m11 s1 p_c_9.code ∧ p_c_9.code = p_c.code) (fun (o : (List impl_Edit) × spec_l1Cur) e a w => ∃ (m24 : Mem), ∃ (q21 : Piece), ∃ (s21 : Sl), ∃ l_20, ∃ p_c_22, o = (l_20, p_c_22) ∧ e = .exit 0 ∧ Fr a 41 [(0, (.pointer (some ⟨b_p_c, 0, none⟩))), (1, s2.v), (5, s21.v)] ∧ St X w0 w m24 [q21, [⟨b_p_c, [s1.v, (.int .i64 p_c_22.at_), (.int .u64 p_c_22.seed.v)], 64⟩]] ∧ MLe X w0.heap.size m m24 ∧ OwnL m24 93 q21 s21 l_20 ∧ Rd m24 s1 p_c_22.code ∧ p_c_22.code = p_c.code) hl1 ⟨m, [], nilS, _, _, _, rfl, hF.sub ⟨rfl, rfl, rfl, rfl, trivial⟩, hS.sel [1, 0] (by decide), (MLe.refl _ _), (OwnL.nil (α := impl_Edit) m 93), h5, hk5⟩ ?_ ?_
 ·clear hF hS
  rintro s a w st ⟨m11, q7, s7, l_6, k_8, p_c_9, rfl, hF, hS, hm11, h7, h10, h10k⟩ hb1
  unfold spec_l1Cur_edits_l1 at hb1
  refine q_seq (q_seq (q_region (q_x (v := (.int .i64 k_8)) hF hS (ex_move rfl) rfl rfl fun a hF => q_x (v := (.bool (decide (0 < k_8)))) hF hS (ex_ibin rfl rfl rfl) rfl rfl fun a hF => q_end (n_sq ?_))))
  rcases bcase (decide (0 < k_8)) with hc2 | hc2
  ·have hb1 := cond_f hc2 hb1
   refine q_cond_f hF rfl hc2 (q_exit (x_sq ?_))
   obtain rfl := someI hb1
   exact ⟨nofun, .inl ⟨m11, q7, s7, _, _, rfl, rfl, hF.sub ⟨rfl, rfl, rfl, trivial⟩, hS, hm11, h7, h10, h10k⟩⟩
  ·have hb1 := cond_t hc2 hb1
   refine q_cond_t hF rfl hc2 (q_skipc (n_sq (q_seq (q_block (q_region (q_x (v := s7.v) hF hS (ex_move rfl) rfl rfl fun a hF => q_x (v := (.pointer (some ⟨b_p_c, 0, none⟩))) hF hS (ex_move rfl) rfl rfl fun a hF => q_x (v := s2.v) hF hS (ex_move rfl) rfl rfl fun a hF => ?_))))))
   have hS : St _ _ _ _ [[⟨b_p_c, [s1.v, (.int .i64 p_c_9.at_), (.int .u64 p_c_9.seed.v)], 64⟩], q7] := hS.sel [1, 0] (by decide)
   have hS12 : St _ _ _ _ ([[⟨b_p_c, [s1.v, (.int .i64 p_c_9.at_), (.int .u64 p_c_9.seed.v)], 64⟩]] ++ [q7]) := hS
   have hE12 := hS12.enter
   obtain ⟨t_13, ht_13, hb1⟩ := bindS hb1
   refine q_do rfl fun _ hK => wp_callX (vs := [(.pointer (some ⟨b_p_c, 0, none⟩)), s2.v]) hF Try.func88 (by kernel_rfl) rfl rfl rfl (c_spec_l1Cur_anyEdit p_c_9 p_s t_13 ht_13 _ m11 b_p_c s1 h10 s2 (h2.mono hm11.le) _ hE12) fun a w _ hR hF => hK _ _ ?_
   obtain ⟨q14, s14, rfl, hR12, h14, hk15⟩ := hR
   have hS : St _ _ _ _ [[⟨b_p_c, [s1.v, (.int .i64 t_13.2.at_), (.int .u64 t_13.2.seed.v)], 64⟩], q14, q7] := hS12.leaveF hR12
   have h15 : Rd m11 s1 t_13.2.code := by rw [hk15]; exact h10
   have hS : St _ _ _ _ [q14, [⟨b_p_c, [s1.v, (.int .i64 t_13.2.at_), (.int .u64 t_13.2.seed.v)], 64⟩], q7] := hS.sel [1, 0, 2] (by decide)
   obtain ⟨m17, hm17, hS, hz17⟩ := hS.freeze
   have h17 := h14.froz hm17.le hz17
   refine q_do rfl fun _ hK => wp_buildSlice' (l := ([t_13.1] : List impl_Edit)) (cells := [s14.v]) hF hS Try.underlying48 inf93 rfl rfl (by kernel_rfl) rfl rfl rfl ⟨⟨s14, rfl, h17⟩, rfl⟩ rfl rfl fun a w q16 s16 hF hS h16 _ => hK _ _ ?_
   have hS : St _ _ _ _ [q7, q16, [⟨b_p_c, [s1.v, (.int .i64 t_13.2.at_), (.int .u64 t_13.2.seed.v)], 64⟩]] := hS.sel [2, 0, 1] (by decide)
   obtain ⟨l_18, hl_18, hb1⟩ := bindS hb1
   refine q_do rfl fun _ hK => wp_append hF hS (h7.mono hm17.le) Try.underlying48 inf93 rfl rfl rfl rfl (h16.vw hS (j := 1) rfl) rfl (by decide) hl_18 rfl fun a w q19 s19 hF hS h19 => hK _ _ (q_x (v := s19.v) hF hS (ex_assign rfl) rfl rfl fun a hF => q_end (n_ib (n_sq (q_region (q_x (v := (.int .i64 k_8)) hF hS (ex_move rfl) rfl rfl fun a hF => q_x (v := (.int .i64 (w64 (k_8 - 1)))) hF hS (ex_ibin rfl rfl rfl) rfl rfl fun a hF => q_x (v := (.int .i64 (w64 (k_8 - 1)))) hF hS (ex_assign rfl) rfl rfl fun a hF => q_end ?_)))))
   obtain rfl := someI hb1
   exact ⟨rfl, m17, q19, s19, _, _, _, rfl, hF.sub ⟨rfl, rfl, rfl, rfl, trivial⟩, hS.mask [true, false, true], (hm11.trans hm17), h19, (h15.mono hm17.le), (hk15.trans h10k)⟩
 ·rintro e a w ⟨m24, q21, s21, l_20, p_c_22, rfl, rfl, hF, hS, hm24, h21, h23, h23k⟩
  refine x_ib (n_sq ?_)
  refine q_seq (q_seq (q_region (q_x (v := (.pointer (some ⟨b_p_c, 0, none⟩))) hF hS (ex_move rfl) rfl rfl fun a hF => ?_)))
  have hS : St _ _ _ _ [[⟨b_p_c, [s1.v, (.int .i64 p_c_22.at_), (.int .u64 p_c_22.seed.v)], 64⟩], q21] := hS.sel [1, 0] (by decide)
  have hS25 : St _ _ _ _ ([[⟨b_p_c, [s1.v, (.int .i64 p_c_22.at_), (.int .u64 p_c_22.seed.v)], 64⟩]] ++ [q21]) := hS
  have hE25 := hS25.enter
  obtain ⟨t_26, ht_26, hr⟩ := bindS hr
  refine q_do rfl fun _ hK => wp_callX (vs := [(.pointer (some ⟨b_p_c, 0, none⟩)), (.int .i64 40)]) hF Try.func80 (by kernel_rfl) rfl rfl rfl (c_spec_l1Cur_one p_c_22 40 t_26 ht_26 _ m24 b_p_c s1 h23 _ hE25) fun a w _ hR hF => hK _ _ ?_
  obtain ⟨rfl, hR25, hk27⟩ := hR
  have hS : St _ _ _ _ [[⟨b_p_c, [s1.v, (.int .i64 t_26.2.at_), (.int .u64 t_26.2.seed.v)], 64⟩], q21] := hS25.leaveF hR25
  have h27 : Rd m24 s1 t_26.2.code := by rw [hk27]; exact h23
  refine q_end (n_sq ?_)
  obtain ⟨j3, hj3, hr⟩ := bindS hr
  refine q_join (fun a w => ∃ (m54 : Mem), ∃ (q51 : Piece), ∃ (s51 : Sl), ∃ l_50, ∃ p_c_52, j3 = (l_50, p_c_52) ∧ Fr a 41 [(5, s51.v)] ∧ St X w0 w m54 [q51, [⟨b_p_c, [s1.v, (.int .i64 p_c_52.at_), (.int .u64 p_c_52.seed.v)], 64⟩]] ∧ MLe X w0.heap.size m24 m54 ∧ OwnL m54 93 q51 s51 l_50 ∧ Rd m54 s1 p_c_52.code ∧ p_c_52.code = p_c.code) ?_ ?_
  ·rcases bcase (t_26.1) with hc4 | hc4
   ·have hj3 := cond_f hc4 hj3
    refine q_cond_f hF rfl hc4 (q_skipc (n_jn ?_))
    obtain rfl := someI hj3
    exact ⟨m24, q21, s21, _, _, rfl, hF.sub ⟨rfl, trivial⟩, hS.sel [1, 0] (by decide), (MLe.refl _ _), h21, h27, (hk27.trans h23k)⟩
   ·have hj3 := cond_t hc4 hj3
    refine q_cond_t hF rfl hc4 (q_seq (q_region (q_x (v := (.pointer (some ⟨b_p_c, 0, none⟩))) hF hS (ex_move rfl) rfl rfl fun a hF => q_x (v := s2.v) hF hS (ex_move rfl) rfl rfl fun a hF => ?_)))
    have hS28 : St _ _ _ _ ([[⟨b_p_c, [s1.v, (.int .i64 t_26.2.at_), (.int .u64 t_26.2.seed.v)], 64⟩]] ++ [q21]) := hS
    have hE28 := hS28.enter
    obtain ⟨t_29, ht_29, hj3⟩ := bindS hj3
    refine q_do rfl fun _ hK => wp_callX (vs := [(.pointer (some ⟨b_p_c, 0, none⟩)), s2.v]) hF Try.func88 (by kernel_rfl) rfl rfl rfl (c_spec_l1Cur_anyEdit t_26.2 p_s t_29 ht_29 _ m24 b_p_c s1 h27 s2 (h2.mono hm24.le) _ hE28) fun a w _ hR hF => hK _ _ ?_
    obtain ⟨q30, s30, rfl, hR28, h30, hk31⟩ := hR
    have hS : St _ _ _ _ [[⟨b_p_c, [s1.v, (.int .i64 t_29.2.at_), (.int .u64 t_29.2.seed.v)], 64⟩], q30, q21] := hS28.leaveF hR28
    have h31 : Rd m24 s1 t_29.2.code := by rw [hk31]; exact h27
    refine q_alloc (cs := [nilS.v]) hF hS rfl rfl rfl fun a w b32 hF hS => q_store (vs := [s30.v]) (cs' := [s30.v]) 0 0 hF hS sz93 rfl rfl rfl rfl rfl rfl rfl rfl fun a w hF hS => q_end (n_sq (q_seq (q_region (q_x (v := (.pointer (some ⟨b_p_c, 0, none⟩))) hF hS (ex_move rfl) rfl rfl fun a hF => ?_))))
    have hS : St _ _ _ _ [[⟨b_p_c, [s1.v, (.int .i64 t_29.2.at_), (.int .u64 t_29.2.seed.v)], 64⟩], [⟨b32, [s30.v], 93⟩], q30, q21] := hS.sel [1, 0, 2, 3] (by decide)
    have hS33 : St _ _ _ _ ([[⟨b_p_c, [s1.v, (.int .i64 t_29.2.at_), (.int .u64 t_29.2.seed.v)], 64⟩]] ++ [[⟨b32, [s30.v], 93⟩], q30, q21]) := hS
    have hE33 := hS33.enter
    obtain ⟨t_34, ht_34, hj3⟩ := bindS hj3
    refine q_do rfl fun _ hK => wp_callX (vs := [(.pointer (some ⟨b_p_c, 0, none⟩)), (.int .i64 2)]) hF Try.func40 (by kernel_rfl) rfl rfl rfl (c_spec_l1Cur_pick t_29.2 2 t_34 ht_34 _ m24 b_p_c s1 h31 _ hE33) fun a w _ hR hF => hK _ _ ?_
    obtain ⟨rfl, hR33, hk35⟩ := hR
    have hS : St _ _ _ _ [[⟨b_p_c, [s1.v, (.int .i64 t_34.2.at_), (.int .u64 t_34.2.seed.v)], 64⟩], [⟨b32, [s30.v], 93⟩], q30, q21] := hS33.leaveF hR33
    have h35 : Rd m24 s1 t_34.2.code := by rw [hk35]; exact h31
    refine q_x (v := (.int .i64 (w64 (40 + t_34.1)))) hF hS (ex_ibin rfl rfl rfl) rfl rfl fun a hF => q_x (v := (.int .i64 (w64 (40 + t_34.1)))) hF hS (ex_assign rfl) rfl rfl fun a hF => q_end (n_sq (q_block ?_))
    obtain ⟨l_47, hl5, hj3⟩ := bindS hj3
    refine q_loop (fun (l_36 : (List impl_Edit)) a w => ∃ (m38 : Mem), ∃ (q37 : Piece), ∃ (s37 : Sl), Fr a 41 [(5, s37.v), (7, (.pointer (some ⟨b32, 0, none⟩))), (8, (.int .i64 (w64 (40 + t_34.1))))] ∧ St X w0 w m38 [q37, [⟨b_p_c, [s1.v, (.int .i64 t_34.2.at_), (.int .u64 t_34.2.seed.v)], 64⟩], [⟨b32, [s30.v], 93⟩], q30] ∧ MLe X w0.heap.size m24 m38 ∧ OwnL m38 93 q37 s37 l_36) (fun (l_47 : (List impl_Edit)) e a w => ∃ (m49 : Mem), ∃ (q48 : Piece), ∃ (s48 : Sl), e = .exit 2 ∧ Fr a 41 [(5, s48.v)] ∧ St X w0 w m49 [q48, [⟨b_p_c, [s1.v, (.int .i64 t_34.2.at_), (.int .u64 t_34.2.seed.v)], 64⟩]] ∧ MLe X w0.heap.size m24 m49 ∧ OwnL m49 93 q48 s48 l_47) hl5 ⟨m24, q21, s21, hF.sub ⟨rfl, rfl, rfl, trivial⟩, hS.sel [3, 0, 1, 2] (by decide), (MLe.refl _ _), h21⟩ ?_ ?_
    ·clear hF hS
     rintro l_36 a w st ⟨m38, q37, s37, hF, hS, hm38, h37⟩ hb5
     unfold spec_l1Cur_edits_l2 at hb5
     refine q_seq (q_seq (q_region (q_x (v := s37.v) hF hS (ex_move rfl) rfl rfl fun a hF => q_x (v := (.int .i64 (goLen l_36))) hF hS (ex_len Try.underlying48 rfl h37.len) rfl rfl fun a hF => q_x (v := (.int .i64 (w64 (40 + t_34.1)))) hF hS (ex_move rfl) rfl rfl fun a hF => q_x (v := (.bool (decide ((goLen l_36) < (w64 (40 + t_34.1)))))) hF hS (ex_ibin rfl rfl rfl) rfl rfl fun a hF => q_end (n_sq ?_))))
     rcases bcase (decide ((goLen l_36) < (w64 (40 + t_34.1)))) with hc6 | hc6
     ·have hb5 := cond_f hc6 hb5
      refine q_cond_f hF rfl hc6 (q_exit (x_sq ?_))
      obtain rfl := someI hb5
      exact ⟨nofun, .inl ⟨m38, q37, s37, rfl, hF.sub ⟨rfl, trivial⟩, hS.mask [true, true, false, false], hm38, h37⟩⟩
     ·have hb5 := cond_t hc6 hb5
      refine q_cond_t hF rfl hc6 (q_skipc (n_sq (q_block (q_region (q_x (v := s37.v) hF hS (ex_move rfl) rfl rfl fun a hF => q_x (v := (.pointer (some ⟨b32, 0, none⟩))) hF hS (ex_fieldAddr Try.underlying93 rfl sz24 rfl rfl) rfl rfl fun a hF => q_x (v := s30.v) hF hS (ex_load1 2 0 Try.underlying24 rfl rfl rfl rfl) rfl rfl fun a hF => ?_)))))
      obtain ⟨m40, hl40, hv40, hz40⟩ := hS.lend
      obtain ⟨t_39, ht_39, hb5⟩ := bindS hb5
      refine q_call (vs := [s30.v]) hF hS Try.func52 (by kernel_rfl) rfl rfl rfl (c_spec_l1Own t_29.1.Sets t_39 ht_39 _ m40 hv40 s30 ((h30.mono hm38.le).froz hl40 (hz40 3 _ rfl))) ?_
      rintro a w _ ⟨q42, s42, rfl, hR41, h42⟩ hF hS2
      have hS : St _ _ _ _ [q42, q37, [⟨b_p_c, [s1.v, (.int .i64 t_34.2.at_), (.int .u64 t_34.2.seed.v)], 64⟩], [⟨b32, [s30.v], 93⟩], q30] := hS.joinF hR41
      have h42 := h42.any m38
      refine q_x (v := (.agg #[s42.v])) hF hS (ex_build (cells := [s42.v]) rfl (by kernel_rfl)) rfl rfl fun a hF => ?_
      obtain ⟨m44, hm44, hS, hz44⟩ := hS.freeze
      have h44 := h42.froz hm44.le hz44
      refine q_do rfl fun _ hK => wp_buildSlice' (l := ([(impl_Edit.mk t_39)] : List impl_Edit)) (cells := [s42.v]) hF hS Try.underlying48 inf93 rfl rfl (by kernel_rfl) rfl rfl rfl ⟨⟨s42, rfl, h44⟩, rfl⟩ rfl rfl fun a w q43 s43 hF hS h43 _ => hK _ _ ?_
      have hS : St _ _ _ _ [q37, q43, [⟨b_p_c, [s1.v, (.int .i64 t_34.2.at_), (.int .u64 t_34.2.seed.v)], 64⟩], [⟨b32, [s30.v], 93⟩], q30] := hS.sel [1, 0, 2, 3, 4] (by decide)
      obtain ⟨l_45, hl_45, hb5⟩ := bindS hb5
      refine q_do rfl fun _ hK => wp_append hF hS (h37.mono hm44.le) Try.underlying48 inf93 rfl rfl rfl rfl (h43.vw hS (j := 1) rfl) rfl (by decide) hl_45 rfl fun a w q46 s46 hF hS h46 => hK _ _ (q_x (v := s46.v) hF hS (ex_assign rfl) rfl rfl fun a hF => q_end (n_ib ?_))
      obtain rfl := someI hb5
      exact ⟨rfl, m44, q46, s46, hF.sub ⟨rfl, rfl, rfl, trivial⟩, hS.mask [true, false, true, true, true], (hm38.trans hm44), h46⟩
    ·rintro e a w ⟨m49, q48, s48, rfl, hF, hS, hm49, h48⟩
     refine x_ib (n_jn ?_)
     obtain rfl := someI hj3
     exact ⟨m49, q48, s48, _, _, rfl, hF.sub ⟨rfl, trivial⟩, hS, hm49, h48, (h35.mono hm49.le), (hk35.trans (hk31.trans (hk27.trans h23k)))⟩
  ·rintro a w ⟨m54, q51, s51, l_50, p_c_52, rfl, hF, hS, hm54, h51, h53, h53k⟩
   refine n_sq ?_
   refine q_seq (q_region (q_x (v := s51.v) hF hS (ex_move rfl) rfl rfl fun a hF => q_x (v := s51.v) hF hS (ex_assign rfl) rfl rfl fun a hF => q_end (n_sq (q_ret ?_))))
   obtain rfl := someI hr
   exact ret_ofX hF hS rfl (.tmp rfl .nil) ⟨m54, q51, s51, rfl, (hm24.trans hm54), hS.sel [1, 0] (by decide), h51, h53k⟩

theorem c_spec_DrawCountPassing (p_code : List (K .u8)) (r : (List impl_Variable) × (List impl_Edit)) (hr : spec_DrawCountPassing p_code = some r) (w0 : World) (m : Mem) (hv : Vis m w0) (s1 : Sl) (h1 : Rd m s1 p_code) :
  Ret Try.prog 55 [s1.v] w0 (fun v w => ∃ (m' : Mem) (q1' : Piece) (s0' : Sl) (s1' : Sl), v = (.tuple #[s0'.v, s1'.v]) ∧ MLe [] w0.heap.size m m' ∧ St [] w0 w m' [q1'] ∧ Rd m' s0' r.1 ∧ OwnL m' 93 q1' s1' r.2) := by
 unfold spec_DrawCountPassing at hr
 refine ret_start Try.func55 rfl 15 rfl rfl m hv fun a hF hS => q_seq (q_region (q_x (v := nilS.v) hF hS (ex_assign rfl) rfl rfl fun a hF => q_x (v := nilS.v) hF hS (ex_assign rfl) rfl rfl fun a hF => q_end (n_sq (q_seq (q_region (q_x (v := s1.v) hF hS (ex_move rfl) rfl rfl fun a hF => q_x (v := (.agg #[s1.v, (.int .i64 0), (.int .u64 0)])) hF hS (ex_build (cells := [s1.v, (.int .i64 0), (.int .u64 0)]) rfl (by kernel_rfl)) rfl rfl fun a hF => q_box (cs := [s1.v, (.int .i64 0), (.int .u64 0)]) hF hS rfl rfl rfl fun a w b2 hF hS => q_x (v := (.pointer (some ⟨b2, 0, none⟩))) hF hS (ex_assign rfl) rfl rfl fun a hF => q_end (n_sq (q_seq (q_region (q_x (v := (.pointer (some ⟨b2, 0, none⟩))) hF hS (ex_move rfl) rfl rfl fun a hF => ?_))))))))))
 have hS3 : St _ _ _ _ ([[⟨b2, [s1.v, (.int .i64 0), (.int .u64 0)], 64⟩]] ++ []) := hS
 have hE3 := hS3.enter
 obtain ⟨t_4, ht_4, hr⟩ := bindS hr
 refine q_do rfl fun _ hK => wp_callX (vs := [(.pointer (some ⟨b2, 0, none⟩))]) hF Try.func30 (by kernel_rfl) rfl rfl rfl (c_spec_l1Cur_anySchema (spec_l1Cur.mk p_code 0 (⟨0⟩ : K .u64)) t_4 ht_4 _ m b2 s1 h1 _ hE3) fun a w _ hR hF => hK _ _ ?_
 obtain ⟨q5, s5, rfl, hR3, h5, hk6⟩ := hR
 have hS : St _ _ _ _ [[⟨b2, [s1.v, (.int .i64 t_4.2.at_), (.int .u64 t_4.2.seed.v)], 64⟩], q5] := hS3.leaveF hR3
 have h6 : Rd m s1 t_4.2.code := by rw [hk6]; exact h1
 refine q_x (v := s5.v) hF hS (ex_assign rfl) rfl rfl fun a hF => q_end (n_sq (q_seq (q_region (q_x (v := s5.v) hF hS (ex_move rfl) rfl rfl fun a hF => q_x (v := (.pointer (some ⟨b2, 0, none⟩))) hF hS (ex_move rfl) rfl rfl fun a hF => q_x (v := s5.v) hF hS (ex_move rfl) rfl rfl fun a hF => ?_))))
 have hS : St _ _ _ _ [q5, [⟨b2, [s1.v, (.int .i64 t_4.2.at_), (.int .u64 t_4.2.seed.v)], 64⟩]] := hS.sel [1, 0] (by decide)
 obtain ⟨m7, hm7, hS, hz7⟩ := hS.freeze
 have h7 := h5.froz hm7.le hz7
 have hS8 : St _ _ _ _ ([[⟨b2, [s1.v, (.int .i64 t_4.2.at_), (.int .u64 t_4.2.seed.v)], 64⟩]] ++ []) := hS
 have hE8 := hS8.enter
 obtain ⟨t_9, ht_9, hr⟩ := bindS hr
 refine q_do rfl fun _ hK => wp_callX (vs := [(.pointer (some ⟨b2, 0, none⟩)), s5.v]) hF Try.func65 (by kernel_rfl) rfl rfl rfl (c_spec_l1Cur_edits t_4.2 t_4.1 t_9 ht_9 _ m7 b2 s1 (h6.mono hm7.le) s5 h7 _ hE8) fun a w _ hR hF => hK _ _ ?_
 obtain ⟨m8', q10, s10, rfl, hm8, hR8, h10, hk11⟩ := hR
 have hS : St _ _ _ _ [[⟨b2, [s1.v, (.int .i64 t_9.2.at_), (.int .u64 t_9.2.seed.v)], 64⟩], q10] := hS8.leave hR8 hm8
 have hm8 := MLe.weakX hS8 hm8
 have h11 : Rd m8' s1 t_9.2.code := by rw [hk11]; exact ((h6.mono hm7.le).mono hm8.le)
 refine q_x (v := s5.v) hF hS (ex_assign rfl) rfl rfl fun a hF => q_x (v := s10.v) hF hS (ex_assign rfl) rfl rfl fun a hF => q_end (n_sq (q_ret ?_))
 obtain rfl := someI hr
 exact ret_of hF hS rfl (.tmp rfl (.tmp rfl .nil)) ⟨m8', q10, s5, s10, rfl, (hm7.trans hm8), hS.sel [1] (by decide), (h7.mono hm8.le), h10⟩

theorem c_spec_DrawFirstPassing (p_code : List (K .u8)) (r : (List impl_Variable) × (List impl_Edit)) (hr : spec_DrawFirstPassing p_code = some r) (w0 : World) (m : Mem) (hv : Vis m w0) (s1 : Sl) (h1 : Rd m s1 p_code) :
  Ret Try.prog 19 [s1.v] w0 (fun v w => ∃ (m' : Mem) (q1' : Piece) (s0' : Sl) (s1' : Sl), v = (.tuple #[s0'.v, s1'.v]) ∧ MLe [] w0.heap.size m m' ∧ St [] w0 w m' [q1'] ∧ Rd m' s0' r.1 ∧ OwnL m' 93 q1' s1' r.2) := by
 unfold spec_DrawFirstPassing at hr
 refine ret_start Try.func19 rfl 8 rfl rfl m hv fun a hF hS => q_seq (q_region (q_x (v := nilS.v) hF hS (ex_assign rfl) rfl rfl fun a hF => q_x (v := nilS.v) hF hS (ex_assign rfl) rfl rfl fun a hF => q_end (n_sq (q_seq (q_region (q_x (v := s1.v) hF hS (ex_move rfl) rfl rfl fun a hF => ?_))))))
 obtain ⟨t_2, ht_2, hr⟩ := bindS hr
 refine q_call (vs := [s1.v]) hF hS Try.func55 (by kernel_rfl) rfl rfl rfl (c_spec_DrawCountPassing p_code t_2 ht_2 _ m hS.vis s1 h1) ?_
 have hT := hS
 rintro a w _ ⟨m3, q5, s4, s5, rfl, hm3, hR3, h4, h5⟩ hF hS2
 have hS : St _ _ _ _ [q5] := hS.join hR3 hm3
 have hm3 := MLe.weakX (O0 := []) hT hm3
 refine q_x (v := s4.v) hF hS (ex_extract rfl rfl) rfl rfl fun a hF => q_x (v := s5.v) hF hS (ex_extract rfl rfl) rfl rfl fun a hF => q_x (v := s4.v) hF hS (ex_assign rfl) rfl rfl fun a hF => q_x (v := s5.v) hF hS (ex_assign rfl) rfl rfl fun a hF => q_end (n_sq (q_ret ?_))
 obtain rfl := someI hr
 exact ret_of hF hS rfl (.tmp rfl (.tmp rfl .nil)) ⟨m3, q5, s4, s5, rfl, hm3, hS.sel [0] (by decide), h4, h5⟩

theorem c_impl_isWord (p_s : List UInt8) (r : Bool) (hr : impl_isWord p_s = some r) (w0 : World) (m : Mem) (hv : Vis m w0) :
  Ret Try.prog 74 [(strV p_s)] w0 (fun v _ => v = (.bool r)) := by
 unfold impl_isWord at hr
 refine ret_start Try.func74 rfl 28 rfl rfl m hv fun a hF hS => q_seq (q_region (q_x (v := (.bool false)) hF hS (ex_assign rfl) rfl rfl fun a hF => q_end (n_sq (q_seq (q_seq ?_)))))
 obtain ⟨t_1, hj1, hr⟩ := bindS hr
 refine q_join (fun a w => Fr a 28 [(0, (strV p_s)), (11, (.bool t_1))] ∧ St [] w0 w m []) ?_ ?_
 ·refine q_region (q_x (v := (strV p_s)) hF hS (ex_move rfl) rfl rfl fun a hF => q_x (v := (.int .i64 (goLen p_s))) hF hS (ex_strLen Try.underlying9 rfl) rfl rfl fun a hF => q_x (v := (.bool (decide ((goLen p_s) < 1)))) hF hS (ex_ibin rfl rfl rfl) rfl rfl fun a hF => q_x (v := (.bool (decide ((goLen p_s) < 1)))) hF hS (ex_move rfl) rfl rfl fun a hF => ?_)
  rcases bcase (decide ((goLen p_s) < 1)) with hc2 | hc2
  ·have hj1 := cond_f hc2 hj1
   refine q_xg (v := (strV p_s)) hF hS (ex_move rfl) (wanted_t hF rfl rfl rfl hc2) rfl fun a hF => q_xg (v := (.int .i64 (goLen p_s))) hF hS (ex_strLen Try.underlying9 rfl) (wanted_t hF rfl rfl rfl hc2) rfl fun a hF => q_xg (v := (.bool (decide (8 < (goLen p_s))))) hF hS (ex_ibin rfl rfl rfl) (wanted_t hF rfl rfl rfl hc2) rfl fun a hF => q_x (v := (.bool (decide (8 < (goLen p_s))))) hF hS (ex_pick_f rfl rfl hc2) rfl rfl fun a hF => q_end (n_jn ?_)
   obtain rfl := someI hj1
   exact ⟨hF.sub ⟨rfl, rfl, trivial⟩, hS⟩
  ·have hj1 := cond_t hc2 hj1
   refine q_skip hF (wanted_f hF rfl rfl rfl hc2 rfl) rfl fun a hF => q_skip hF (wanted_f hF rfl rfl rfl hc2 rfl) rfl fun a hF => q_skip hF (wanted_f hF rfl rfl rfl hc2 rfl) rfl fun a hF => q_x (v := (.bool true)) hF hS (ex_pick_t rfl rfl hc2) rfl rfl fun a hF => q_end (n_jn ?_)
   obtain rfl := someI hj1
   exact ⟨hF.sub ⟨rfl, rfl, trivial⟩, hS⟩
 ·rintro a w ⟨hF, hS⟩
  refine n_sq ?_
  rcases bcase (t_1) with hc3 | hc3
  ·have hr := cond_f hc3 hr
   refine q_cond_f hF rfl hc3 (q_skipc (n_sq (q_seq (q_seq (q_region (q_x (v := (strV p_s)) hF hS (ex_move rfl) rfl rfl fun a hF => q_x (v := (.int .i64 (goLen p_s))) hF hS (ex_strLen Try.underlying9 rfl) rfl rfl fun a hF => q_x (v := (.int .i64 0)) hF hS (ex_move rfl) rfl rfl fun a hF => q_end (n_sq (q_block ?_))))))))
   obtain ⟨o4, hl4, hr⟩ := bindS hr
   refine q_loop (fun (t_2 : Int) a w => Fr a 28 [(0, (strV p_s)), (13, (.int .i64 (goLen p_s))), (14, (.int .i64 t_2))] ∧ St [] w0 w m []) (fun (o : (Unit) ⊕ (Bool)) e a w => o = .inl () ∧ e = .exit 0 ∧ Fr a 28 [] ∧ St [] w0 w m []) hl4 ⟨hF.sub ⟨rfl, rfl, rfl, trivial⟩, hS⟩ ?_ ?_
   ·clear hF hS
    rintro t_2 a w st ⟨hF, hS⟩ hb4
    unfold impl_isWord_l1 at hb4
    refine q_seq (q_region (q_x (v := (.bool (decide (t_2 < (goLen p_s))))) hF hS (ex_ibin rfl rfl rfl) rfl rfl fun a hF => q_end (n_sq (q_seq ?_))))
    rcases bcase (decide (t_2 < (goLen p_s))) with hc5 | hc5
    ·have hb4 := cond_f hc5 hb4
     refine q_cond_f hF rfl hc5 (q_exit (x_sq ?_))
     obtain rfl := someI hb4
     exact ⟨nofun, .inl ⟨rfl, rfl, hF.sub trivial, hS⟩⟩
    ·have hb4 := cond_t hc5 hb4
     refine q_cond_t hF rfl hc5 (q_skipc (n_sq (q_seq (q_block (q_seq (q_region (q_x (v := (.int .i64 t_2)) hF hS (ex_move rfl) rfl rfl fun a hF => q_x (v := (.int .i64 t_2)) hF hS (ex_assign rfl) rfl rfl fun a hF => q_end (n_sq (q_seq ?_)))))))))
     obtain ⟨t_5, hj6, hb4⟩ := bindS hb4
     refine q_join (fun a w => Fr a 28 [(0, (strV p_s)), (13, (.int .i64 (goLen p_s))), (14, (.int .i64 t_2)), (26, (.bool t_5))] ∧ St [] w0 w m []) ?_ ?_
     ·refine q_region (q_x (v := (strV p_s)) hF hS (ex_move rfl) rfl rfl fun a hF => q_x (v := (.int .i64 t_2)) hF hS (ex_move rfl) rfl rfl fun a hF => ?_)
      obtain ⟨t_3, ht_3, hj6⟩ := bindS hj6
      refine q_x (v := (.int .u8 t_3)) hF hS (ex_strIdx Try.underlying9 rfl rfl ht_3) rfl rfl fun a hF => q_x (v := (.bool (decide (t_3 < 97)))) hF hS (ex_ibin rfl rfl rfl) rfl rfl fun a hF => q_x (v := (.bool (decide (t_3 < 97)))) hF hS (ex_move rfl) rfl rfl fun a hF => ?_
      rcases bcase (decide (t_3 < 97)) with hc7 | hc7
      ·have hj6 := cond_f hc7 hj6
       refine q_xg (v := (strV p_s)) hF hS (ex_move rfl) (wanted_t hF rfl rfl rfl hc7) rfl fun a hF => q_xg (v := (.int .i64 t_2)) hF hS (ex_move rfl) (wanted_t hF rfl rfl rfl hc7) rfl fun a hF => ?_
       obtain ⟨t_4, ht_4, hj6⟩ := bindS hj6
       refine q_xg (v := (.int .u8 t_4)) hF hS (ex_strIdx Try.underlying9 rfl rfl ht_4) (wanted_t hF rfl rfl rfl hc7) rfl fun a hF => q_xg (v := (.bool (decide (122 < t_4)))) hF hS (ex_ibin rfl rfl rfl) (wanted_t hF rfl rfl rfl hc7) rfl fun a hF => q_x (v := (.bool (decide (122 < t_4)))) hF hS (ex_pick_f rfl rfl hc7) rfl rfl fun a hF => q_end (n_jn ?_)
       obtain rfl := someI hj6
       exact ⟨hF.sub ⟨rfl, rfl, rfl, rfl, trivial⟩, hS⟩
      ·have hj6 := cond_t hc7 hj6
       refine q_skip hF (wanted_f hF rfl rfl rfl hc7 rfl) rfl fun a hF => q_skip hF (wanted_f hF rfl rfl rfl hc7 rfl) rfl fun a hF => q_skip hF (wanted_f hF rfl rfl rfl hc7 rfl) rfl fun a hF => q_skip hF (wanted_f hF rfl rfl rfl hc7 rfl) rfl fun a hF => q_x (v := (.bool true)) hF hS (ex_pick_t rfl rfl hc7) rfl rfl fun a hF => q_end (n_jn ?_)
       obtain rfl := someI hj6
       exact ⟨hF.sub ⟨rfl, rfl, rfl, rfl, trivial⟩, hS⟩
     ·rintro a w ⟨hF, hS⟩
      refine n_sq ?_
      rcases bcase (t_5) with hc8 | hc8
      ·have hb4 := cond_f hc8 hb4
       refine q_cond_f hF rfl hc8 (q_skipc (n_ib (n_sq (q_region (q_x (v := (.int .i64 (w64 (t_2 + 1)))) hF hS (ex_ibin rfl rfl rfl) rfl rfl fun a hF => q_x (v := (.int .i64 (w64 (t_2 + 1)))) hF hS (ex_move rfl) rfl rfl fun a hF => q_end ?_)))))
       obtain rfl := someI hb4
       exact ⟨rfl, hF.sub ⟨rfl, rfl, rfl, trivial⟩, hS⟩
      ·have hb4 := cond_t hc8 hb4
       refine q_cond_t hF rfl hc8 (q_seq (q_region (q_x (v := (.bool false)) hF hS (ex_assign rfl) rfl rfl fun a hF => q_end (n_sq (q_ret (r_ib (r_sq ?_)))))))
       obtain rfl := someI hb4
       refine ⟨nofun, .inr fun ho => ?_⟩
       subst ho
       refine r_ib (r_sq ?_)
       obtain rfl := someI hr
       exact ret_of hF hS rfl (.tmp rfl .nil) rfl
   ·rintro e a w ⟨rfl, rfl, hF, hS⟩
    refine x_ib (n_sq ?_)
    refine q_seq (q_region (q_x (v := (.bool true)) hF hS (ex_assign rfl) rfl rfl fun a hF => q_end (n_sq (q_ret ?_))))
    obtain rfl := someI hr
    exact ret_of hF hS rfl (.tmp rfl .nil) rfl
  ·have hr := cond_t hc3 hr
   refine q_cond_t hF rfl hc3 (q_seq (q_region (q_x (v := (.bool false)) hF hS (ex_assign rfl) rfl rfl fun a hF => q_end (n_sq (q_ret (r_sq ?_))))))
   obtain rfl := someI hr
   exact ret_of hF hS rfl (.tmp rfl .nil) rfl

theorem c_impl_IsSchema (p_s : List impl_Variable) (r : Bool) (hr : impl_IsSchema p_s = some r) (w0 : World) (m : Mem) (hv : Vis m w0) (s1 : Sl) (h1 : Rd m s1 p_s) :
  Ret Try.prog 33 [s1.v] w0 (fun v _ => v = (.bool r)) := by
 unfold impl_IsSchema at hr
 refine ret_start Try.func33 rfl 51 rfl rfl m hv fun a hF hS => q_seq (q_region (q_x (v := (.bool false)) hF hS (ex_assign rfl) rfl rfl fun a hF => q_end (n_sq (q_seq (q_seq ?_)))))
 obtain ⟨t_2, hj1, hr⟩ := bindS hr
 refine q_join (fun a w => Fr a 51 [(0, s1.v), (14, (.bool t_2))] ∧ St [] w0 w m []) ?_ ?_
 ·refine q_region (q_x (v := s1.v) hF hS (ex_move rfl) rfl rfl fun a hF => q_x (v := (.int .i64 (goLen p_s))) hF hS (ex_len Try.underlying23 rfl h1.len) rfl rfl fun a hF => q_x (v := (.bool (decide ((goLen p_s) < 1)))) hF hS (ex_ibin rfl rfl rfl) rfl rfl fun a hF => q_x (v := (.bool (decide ((goLen p_s) < 1)))) hF hS (ex_move rfl) rfl rfl fun a hF => ?_)
  rcases bcase (decide ((goLen p_s) < 1)) with hc2 | hc2
  ·have hj1 := cond_f hc2 hj1
   refine q_xg (v := s1.v) hF hS (ex_move rfl) (wanted_t hF rfl rfl rfl hc2) rfl fun a hF => q_xg (v := (.int .i64 (goLen p_s))) hF hS (ex_len Try.underlying23 rfl h1.len) (wanted_t hF rfl rfl rfl hc2) rfl fun a hF => q_xg (v := (.bool (decide (6 < (goLen p_s))))) hF hS (ex_ibin rfl rfl rfl) (wanted_t hF rfl rfl rfl hc2) rfl fun a hF => q_x (v := (.bool (decide (6 < (goLen p_s))))) hF hS (ex_pick_f rfl rfl hc2) rfl rfl fun a hF => q_end (n_jn ?_)
   obtain rfl := someI hj1
   exact ⟨hF.sub ⟨rfl, rfl, trivial⟩, hS⟩
  ·have hj1 := cond_t hc2 hj1
   refine q_skip hF (wanted_f hF rfl rfl rfl hc2 rfl) rfl fun a hF => q_skip hF (wanted_f hF rfl rfl rfl hc2 rfl) rfl fun a hF => q_skip hF (wanted_f hF rfl rfl rfl hc2 rfl) rfl fun a hF => q_x (v := (.bool true)) hF hS (ex_pick_t rfl rfl hc2) rfl rfl fun a hF => q_end (n_jn ?_)
   obtain rfl := someI hj1
   exact ⟨hF.sub ⟨rfl, rfl, trivial⟩, hS⟩
 ·rintro a w ⟨hF, hS⟩
  refine n_sq ?_
  rcases bcase (t_2) with hc3 | hc3
  ·have hr := cond_f hc3 hr
   refine q_cond_f hF rfl hc3 (q_skipc (n_sq (q_seq (q_seq (q_region (q_x (v := s1.v) hF hS (ex_move rfl) rfl rfl fun a hF => q_x (v := (.int .i64 (goLen p_s))) hF hS (ex_len Try.underlying23 rfl h1.len) rfl rfl fun a hF => q_x (v := (.int .i64 0)) hF hS (ex_move rfl) rfl rfl fun a hF => q_end (n_sq (q_block ?_))))))))
   obtain ⟨o4, hl4, hr⟩ := bindS hr
   refine q_loop (fun (t_3 : Int) a w => Fr a 51 [(0, s1.v), (15, s1.v), (16, (.int .i64 (goLen p_s))), (17, (.int .i64 t_3))] ∧ St [] w0 w m []) (fun (o : (Unit) ⊕ (Bool)) e a w => o = .inl () ∧ e = .exit 0 ∧ Fr a 51 [] ∧ St [] w0 w m []) hl4 ⟨hF.sub ⟨rfl, rfl, rfl, rfl, trivial⟩, hS⟩ ?_ ?_
   ·clear hF hS
    rintro t_3 a w st ⟨hF, hS⟩ hb4
    unfold impl_IsSchema_l1 at hb4
    refine q_seq (q_region (q_x (v := (.bool (decide (t_3 < (goLen p_s))))) hF hS (ex_ibin rfl rfl rfl) rfl rfl fun a hF => q_end (n_sq (q_seq ?_))))
    rcases bcase (decide (t_3 < (goLen p_s))) with hc5 | hc5
    ·have hb4 := cond_f hc5 hb4
     refine q_cond_f hF rfl hc5 (q_exit (x_sq ?_))
     obtain rfl := someI hb4
     exact ⟨nofun, .inl ⟨rfl, rfl, hF.sub trivial, hS⟩⟩
    ·have hb4 := cond_t hc5 hb4
     refine q_cond_t hF rfl hc5 (q_skipc (n_sq (q_seq (q_block (q_seq (q_region (q_x (v := (.int .i64 t_3)) hF hS (ex_move rfl) rfl rfl fun a hF => ?_)))))))
     obtain ⟨e_4, he_4, hb4⟩ := bindS hb4
     obtain ⟨vs5, at5, d5⟩ := h1.at he_4 2 rfl
     obtain rfl : vs5 = [(strV e_4.Name), (.int .i64 e_4.Levels)] := d5
     refine q_x (v := (elP s1 (t_3.toNat * 2))) hF hS (ex_indexAddr Try.underlying23 sz85 rfl rfl (h1.idx he_4)) rfl rfl fun a hF => q_x (v := (.agg #[(strV e_4.Name), (.int .i64 e_4.Levels)])) hF hS (ex_loadEA (us := [(strV e_4.Name), (.int .i64 e_4.Levels)]) 0 Try.underlying85 rfl sz85 rfl ((at5).at) rfl rfl rfl) rfl rfl fun a hF => q_alloc (cs := [(strV ([] : List UInt8)), (.int .i64 0)]) hF hS rfl rfl rfl fun a w b6 hF hS => q_x (v := (.int .i64 t_3)) hF hS (ex_assign rfl) rfl rfl fun a hF => q_store (vs := [(strV e_4.Name), (.int .i64 e_4.Levels)]) (cs' := [(strV e_4.Name), (.int .i64 e_4.Levels)]) 0 0 hF hS sz85 rfl rfl rfl rfl rfl rfl rfl rfl fun a w hF hS => q_end (n_sq (q_seq (q_seq ?_)))
     obtain ⟨t_8, hj6, hb4⟩ := bindS hb4
     refine q_join (fun a w => Fr a 51 [(0, s1.v), (3, (.int .i64 t_3)), (4, (.pointer (some ⟨b6, 0, none⟩))), (15, s1.v), (16, (.int .i64 (goLen p_s))), (17, (.int .i64 t_3)), (35, (.bool t_8))] ∧ St [] w0 w m [[⟨b6, [(strV e_4.Name), (.int .i64 e_4.Levels)], 85⟩]]) ?_ ?_
     ·refine q_region (q_x (v := (.pointer (some ⟨b6, 0, none⟩))) hF hS (ex_fieldAddr Try.underlying85 rfl sz9 rfl rfl) rfl rfl fun a hF => q_x (v := (strV e_4.Name)) hF hS (ex_load1 0 0 Try.underlying9 rfl rfl rfl rfl) rfl rfl fun a hF => ?_)
      obtain ⟨t_7, ht_7, hj6⟩ := bindS hj6
      refine q_call (vs := [(strV e_4.Name)]) hF hS Try.func74 (by kernel_rfl) rfl rfl rfl (c_impl_isWord e_4.Name t_7 ht_7 _ m hS.vis) ?_
      rintro a w _ rfl hF hS
      refine q_x (v := (.bool (!t_7))) hF hS (ex_not rfl) rfl rfl fun a hF => q_x (v := (.bool (!t_7))) hF hS (ex_move rfl) rfl rfl fun a hF => ?_
      rcases bcase (!t_7) with hc7 | hc7
      ·have hj6 := cond_f hc7 hj6
       refine q_xg (v := (.pointer (some ⟨b6, 1, none⟩))) hF hS (ex_fieldAddr Try.underlying85 rfl sz3 rfl rfl) (wanted_t hF rfl rfl rfl hc7) rfl fun a hF => q_xg (v := (.int .i64 e_4.Levels)) hF hS (ex_load1 0 0 Try.underlying3 rfl rfl rfl rfl) (wanted_t hF rfl rfl rfl hc7) rfl fun a hF => q_xg (v := (.bool (decide (e_4.Levels < 2)))) hF hS (ex_ibin rfl rfl rfl) (wanted_t hF rfl rfl rfl hc7) rfl fun a hF => q_x (v := (.bool (decide (e_4.Levels < 2)))) hF hS (ex_pick_f rfl rfl hc7) rfl rfl fun a hF => q_x (v := (.bool (decide (e_4.Levels < 2)))) hF hS (ex_move rfl) rfl rfl fun a hF => ?_
       rcases bcase (decide (e_4.Levels < 2)) with hc8 | hc8
       ·have hj6 := cond_f hc8 hj6
        refine q_xg (v := (.pointer (some ⟨b6, 1, none⟩))) hF hS (ex_fieldAddr Try.underlying85 rfl sz3 rfl rfl) (wanted_t hF rfl rfl rfl hc8) rfl fun a hF => q_xg (v := (.int .i64 e_4.Levels)) hF hS (ex_load1 0 0 Try.underlying3 rfl rfl rfl rfl) (wanted_t hF rfl rfl rfl hc8) rfl fun a hF => q_xg (v := (.bool (decide (8 < e_4.Levels)))) hF hS (ex_ibin rfl rfl rfl) (wanted_t hF rfl rfl rfl hc8) rfl fun a hF => q_x (v := (.bool (decide (8 < e_4.Levels)))) hF hS (ex_pick_f rfl rfl hc8) rfl rfl fun a hF => q_end (n_jn ?_)
        obtain rfl := someI hj6
        exact ⟨hF.sub ⟨rfl, rfl, rfl, rfl, rfl, rfl, rfl, trivial⟩, hS⟩
       ·have hj6 := cond_t hc8 hj6
        refine q_skip hF (wanted_f hF rfl rfl rfl hc8 rfl) rfl fun a hF => q_skip hF (wanted_f hF rfl rfl rfl hc8 rfl) rfl fun a hF => q_skip hF (wanted_f hF rfl rfl rfl hc8 rfl) rfl fun a hF => q_x (v := (.bool true)) hF hS (ex_pick_t rfl rfl hc8) rfl rfl fun a hF => q_end (n_jn ?_)
        obtain rfl := someI hj6
        exact ⟨hF.sub ⟨rfl, rfl, rfl, rfl, rfl, rfl, rfl, trivial⟩, hS⟩
      ·have hj6 := cond_t hc7 hj6
       refine q_skip hF (wanted_f hF rfl rfl rfl hc7 rfl) rfl fun a hF => q_skip hF (wanted_f hF rfl rfl rfl hc7 rfl) rfl fun a hF => q_skip hF (wanted_f hF rfl rfl rfl hc7 rfl) rfl fun a hF => q_x (v := (.bool true)) hF hS (ex_pick_t rfl rfl hc7) rfl rfl fun a hF => q_x (v := (.bool true)) hF hS (ex_move rfl) rfl rfl fun a hF => q_skip hF (wanted_f hF rfl rfl rfl rfl rfl) rfl fun a hF => q_skip hF (wanted_f hF rfl rfl rfl rfl rfl) rfl fun a hF => q_skip hF (wanted_f hF rfl rfl rfl rfl rfl) rfl fun a hF => q_x (v := (.bool true)) hF hS (ex_pick_t rfl rfl rfl) rfl rfl fun a hF => q_end (n_jn ?_)
       obtain rfl := someI hj6
       exact ⟨hF.sub ⟨rfl, rfl, rfl, rfl, rfl, rfl, rfl, trivial⟩, hS⟩
     ·rintro a w ⟨hF, hS⟩
      refine n_sq ?_
      rcases bcase (t_8) with hc9 | hc9
      ·have hb4 := cond_f hc9 hb4
       refine q_cond_f hF rfl hc9 (q_skipc (n_sq (q_seq (q_region (q_x (v := s1.v) hF hS (ex_move rfl) rfl rfl fun a hF => q_x (v := (.int .i64 t_3)) hF hS (ex_move rfl) rfl rfl fun a hF => ?_)))))
       obtain ⟨l_9, hl_9, hb4⟩ := bindS hb4
       have h10 : Rd m (subS s1 2 (0 : Int).toNat t_3.toNat s1.cap) l_9 := h1.sub' hl_9 2 rfl
       refine q_x (v := (subS s1 2 (0 : Int).toNat t_3.toNat s1.cap).v) hF hS (ex_slice Try.underlying23 sz85 rfl rfl rfl (.inl ⟨rfl, rfl⟩) (.inr ⟨_, rfl⟩) (h1.subok hl_9)) rfl rfl fun a hF => q_x (v := (.int .i64 (goLen l_9))) hF hS (ex_len Try.underlying23 rfl h10.len) rfl rfl fun a hF => q_x (v := (.int .i64 0)) hF hS (ex_move rfl) rfl rfl fun a hF => q_end (n_sq (q_block ?_))
       obtain ⟨o10, hl10, hb4⟩ := bindS hb4
       refine q_loop (fun (t_11 : Int) a w => Fr a 51 [(0, s1.v), (4, (.pointer (some ⟨b6, 0, none⟩))), (15, s1.v), (16, (.int .i64 (goLen p_s))), (17, (.int .i64 t_3)), (38, (subS s1 2 (0 : Int).toNat t_3.toNat s1.cap).v), (39, (.int .i64 (goLen l_9))), (40, (.int .i64 t_11))] ∧ St [] w0 w m [[⟨b6, [(strV e_4.Name), (.int .i64 e_4.Levels)], 85⟩]]) (fun (o : (Unit) ⊕ (Stp (Int) ((Unit) ⊕ (Bool)))) e a w => o = .inl () ∧ e = .exit 2 ∧ Fr a 51 [(0, s1.v), (15, s1.v), (16, (.int .i64 (goLen p_s))), (17, (.int .i64 t_3))] ∧ St [] w0 w m []) hl10 ⟨hF.sub ⟨rfl, rfl, rfl, rfl, rfl, rfl, rfl, rfl, trivial⟩, hS⟩ ?_ ?_
       ·clear hF hS
        rintro t_11 a w st ⟨hF, hS⟩ hb10
        unfold impl_IsSchema_l2 at hb10
        refine q_seq (q_region (q_x (v := (.bool (decide (t_11 < (goLen l_9))))) hF hS (ex_ibin rfl rfl rfl) rfl rfl fun a hF => q_end (n_sq (q_seq ?_))))
        rcases bcase (decide (t_11 < (goLen l_9))) with hc11 | hc11
        ·have hb10 := cond_f hc11 hb10
         refine q_cond_f hF rfl hc11 (q_exit (x_sq ?_))
         obtain rfl := someI hb10
         exact ⟨nofun, .inl ⟨rfl, rfl, hF.sub ⟨rfl, rfl, rfl, rfl, trivial⟩, hS.mask [false]⟩⟩
        ·have hb10 := cond_t hc11 hb10
         refine q_cond_t hF rfl hc11 (q_skipc (n_sq (q_seq (q_block (q_seq (q_region ?_))))))
         obtain ⟨e_12, he_12, hb10⟩ := bindS hb10
         obtain ⟨vs13, at13, d13⟩ := h10.at he_12 2 rfl
         obtain rfl : vs13 = [(strV e_12.Name), (.int .i64 e_12.Levels)] := d13
         refine q_x (v := (elP (subS s1 2 (0 : Int).toNat t_3.toNat s1.cap) (t_11.toNat * 2))) hF hS (ex_indexAddr Try.underlying23 sz85 rfl rfl (h10.idx he_12)) rfl rfl fun a hF => q_x (v := (.agg #[(strV e_12.Name), (.int .i64 e_12.Levels)])) hF hS (ex_loadEA (us := [(strV e_12.Name), (.int .i64 e_12.Levels)]) 0 Try.underlying85 rfl sz85 rfl ((at13).at) rfl rfl rfl) rfl rfl fun a hF => q_alloc (cs := [(strV ([] : List UInt8)), (.int .i64 0)]) hF hS rfl rfl rfl fun a w b14 hF hS => q_store (vs := [(strV e_12.Name), (.int .i64 e_12.Levels)]) (cs' := [(strV e_12.Name), (.int .i64 e_12.Levels)]) 0 0 hF hS sz85 rfl rfl rfl rfl rfl rfl rfl rfl fun a w hF hS => q_end (n_sq (q_seq (q_region (q_x (v := (.pointer (some ⟨b14, 0, none⟩))) hF hS (ex_fieldAddr Try.underlying85 rfl sz9 rfl rfl) rfl rfl fun a hF => q_x (v := (strV e_12.Name)) hF hS (ex_load1 0 0 Try.underlying9 rfl rfl rfl rfl) rfl rfl fun a hF => q_x (v := (.pointer (some ⟨b6, 0, none⟩))) hF hS (ex_fieldAddr Try.underlying85 rfl sz9 rfl rfl) rfl rfl fun a hF => q_x (v := (strV e_4.Name)) hF hS (ex_load1 1 0 Try.underlying9 rfl rfl rfl rfl) rfl rfl fun a hF => q_x (v := (.bool (e_12.Name == e_4.Name))) hF hS (ex_strEq rfl rfl) rfl rfl fun a hF => q_end (n_sq ?_)))))
         rcases bcase (e_12.Name == e_4.Name) with hc12 | hc12
         ·have hb10 := cond_f hc12 hb10
          refine q_cond_f hF rfl hc12 (q_skipc (n_ib (n_sq (q_region (q_x (v := (.int .i64 (w64 (t_11 + 1)))) hF hS (ex_ibin rfl rfl rfl) rfl rfl fun a hF => q_x (v := (.int .i64 (w64 (t_11 + 1)))) hF hS (ex_move rfl) rfl rfl fun a hF => q_end ?_)))))
          obtain rfl := someI hb10
          exact ⟨rfl, hF.sub ⟨rfl, rfl, rfl, rfl, rfl, rfl, rfl, rfl, trivial⟩, hS.mask [false, true]⟩
         ·have hb10 := cond_t hc12 hb10
          refine q_cond_t hF rfl hc12 (q_seq (q_region (q_x (v := (.bool false)) hF hS (ex_assign rfl) rfl rfl fun a hF => q_end (n_sq (q_ret (r_ib (r_sq ?_)))))))
          obtain rfl := someI hb10
          refine ⟨nofun, .inr fun ho => ?_⟩
          subst ho
          refine r_ib (r_ib (r_sq ?_))
          obtain rfl := someI hb4
          refine ⟨nofun, .inr fun ho => ?_⟩
          subst ho
          refine r_ib (r_sq ?_)
          obtain rfl := someI hr
          exact ret_of hF hS rfl (.tmp rfl .nil) rfl
       ·rintro e a w ⟨rfl, rfl, hF, hS⟩
        refine x_ib (n_ib (n_sq ?_))
        refine q_region (q_x (v := (.int .i64 (w64 (t_3 + 1)))) hF hS (ex_ibin rfl rfl rfl) rfl rfl fun a hF => q_x (v := (.int .i64 (w64 (t_3 + 1)))) hF hS (ex_move rfl) rfl rfl fun a hF => q_end ?_)
        obtain rfl := someI hb4
        exact ⟨rfl, hF.sub ⟨rfl, rfl, rfl, rfl, trivial⟩, hS⟩
      ·have hb4 := cond_t hc9 hb4
       refine q_cond_t hF rfl hc9 (q_seq (q_region (q_x (v := (.bool false)) hF hS (ex_assign rfl) rfl rfl fun a hF => q_end (n_sq (q_ret (r_sq (r_ib (r_sq ?_))))))))
       obtain rfl := someI hb4
       refine ⟨nofun, .inr fun ho => ?_⟩
       subst ho
       refine r_ib (r_sq ?_)
       obtain rfl := someI hr
       exact ret_of hF hS rfl (.tmp rfl .nil) rfl
   ·rintro e a w ⟨rfl, rfl, hF, hS⟩
    refine x_ib (n_sq ?_)
    refine q_seq (q_region (q_x (v := (.bool true)) hF hS (ex_assign rfl) rfl rfl fun a hF => q_end (n_sq (q_ret ?_))))
    obtain rfl := someI hr
    exact ret_of hF hS rfl (.tmp rfl .nil) rfl
  ·have hr := cond_t hc3 hr
   refine q_cond_t hF rfl hc3 (q_seq (q_region (q_x (v := (.bool false)) hF hS (ex_assign rfl) rfl rfl fun a hF => q_end (n_sq (q_ret (r_sq ?_))))))
   obtain rfl := someI hr
   exact ret_of hF hS rfl (.tmp rfl .nil) rfl

theorem c_impl_fullSet (p_v : impl_Variable) (r : Int) (hr : impl_fullSet p_v = some r) (w0 : World) (m : Mem) (hv : Vis m w0) :
  Ret Try.prog 90 [(.agg #[(strV p_v.Name), (.int .i64 p_v.Levels)])] w0 (fun v _ => v = (.int .i64 r)) := by
 unfold impl_fullSet at hr
 refine ret_start Try.func90 rfl 7 rfl rfl m hv fun a hF hS => q_seq (q_region (q_box (cs := [(strV p_v.Name), (.int .i64 p_v.Levels)]) hF hS rfl rfl rfl fun a w b1 hF hS => q_x (v := (.int .i64 0)) hF hS (ex_assign rfl) rfl rfl fun a hF => q_end (n_sq (q_seq (q_region (q_x (v := (.pointer (some ⟨b1, 1, none⟩))) hF hS (ex_fieldAddr Try.underlying85 rfl sz3 rfl rfl) rfl rfl fun a hF => q_x (v := (.int .i64 p_v.Levels)) hF hS (ex_load1 0 0 Try.underlying3 rfl rfl rfl rfl) rfl rfl fun a hF => ?_))))))
 obtain ⟨t_2, ht_2, hr⟩ := bindS hr
 refine q_x (v := (.int .i64 t_2)) hF hS (ex_shl rfl rfl ht_2) rfl rfl fun a hF => q_x (v := (.int .i64 (w64 (t_2 - 1)))) hF hS (ex_ibin rfl rfl rfl) rfl rfl fun a hF => q_x (v := (.int .i64 (w64 (t_2 - 1)))) hF hS (ex_assign rfl) rfl rfl fun a hF => q_end (n_sq (q_ret ?_))
 obtain rfl := someI hr
 exact ret_of hF hS rfl (.tmp rfl .nil) rfl

theorem c_impl_isEdit (p_s : List impl_Variable) (p_e : impl_Edit) (r : Bool) (hr : impl_isEdit p_s p_e = some r) (w0 : World) (m : Mem) (hv : Vis m w0) (s1 : Sl) (h1 : Rd m s1 p_s) (s2 : Sl) (h2 : Rd m s2 p_e.Sets) :
  Ret Try.prog 83 [s1.v, (.agg #[s2.v])] w0 (fun v _ => v = (.bool r)) := by
 unfold impl_isEdit at hr
 refine ret_start Try.func83 rfl 33 rfl rfl m hv fun a hF hS => q_seq (q_region (q_box (cs := [s2.v]) hF hS rfl rfl rfl fun a w b3 hF hS => q_x (v := (.bool false)) hF hS (ex_assign rfl) rfl rfl fun a hF => q_end (n_sq (q_seq (q_seq (q_region (q_x (v := (.pointer (some ⟨b3, 0, none⟩))) hF hS (ex_fieldAddr Try.underlying93 rfl sz24 rfl rfl) rfl rfl fun a hF => q_x (v := s2.v) hF hS (ex_load1 0 0 Try.underlying24 rfl rfl rfl rfl) rfl rfl fun a hF => q_x (v := (.int .i64 (goLen p_e.Sets))) hF hS (ex_len Try.underlying24 rfl h2.len) rfl rfl fun a hF => q_x (v := s1.v) hF hS (ex_move rfl) rfl rfl fun a hF => q_x (v := (.int .i64 (goLen p_s))) hF hS (ex_len Try.underlying23 rfl h1.len) rfl rfl fun a hF => q_x (v := (.bool ((goLen p_e.Sets) != (goLen p_s)))) hF hS (ex_ibin rfl rfl rfl) rfl rfl fun a hF => q_end (n_sq ?_))))))))
 rcases bcase ((goLen p_e.Sets) != (goLen p_s)) with hc1 | hc1
 ·have hr := cond_f hc1 hr
  refine q_cond_f hF rfl hc1 (q_skipc (n_sq (q_seq (q_seq (q_region (q_x (v := (.pointer (some ⟨b3, 0, none⟩))) hF hS (ex_fieldAddr Try.underlying93 rfl sz24 rfl rfl) rfl rfl fun a hF => q_x (v := s2.v) hF hS (ex_load1 0 0 Try.underlying24 rfl rfl rfl rfl) rfl rfl fun a hF => q_x (v := (.int .i64 (goLen p_e.Sets))) hF hS (ex_len Try.underlying24 rfl h2.len) rfl rfl fun a hF => q_x (v := (.int .i64 0)) hF hS (ex_move rfl) rfl rfl fun a hF => q_end (n_sq (q_block ?_))))))))
  obtain ⟨o2, hl2, hr⟩ := bindS hr
  refine q_loop (fun (t_4 : Int) a w => Fr a 33 [(0, s1.v), (14, s2.v), (15, (.int .i64 (goLen p_e.Sets))), (16, (.int .i64 t_4))] ∧ St [] w0 w m []) (fun (o : (Unit) ⊕ (Bool)) e a w => o = .inl () ∧ e = .exit 0 ∧ Fr a 33 [] ∧ St [] w0 w m []) hl2 ⟨hF.sub ⟨rfl, rfl, rfl, rfl, trivial⟩, hS.mask [false]⟩ ?_ ?_
  ·clear hF hS
   rintro t_4 a w st ⟨hF, hS⟩ hb2
   unfold impl_isEdit_l1 at hb2
   refine q_seq (q_region (q_x (v := (.bool (decide (t_4 < (goLen p_e.Sets))))) hF hS (ex_ibin rfl rfl rfl) rfl rfl fun a hF => q_end (n_sq (q_seq ?_))))
   rcases bcase (decide (t_4 < (goLen p_e.Sets))) with hc3 | hc3
   ·have hb2 := cond_f hc3 hb2
    refine q_cond_f hF rfl hc3 (q_exit (x_sq ?_))
    obtain rfl := someI hb2
    exact ⟨nofun, .inl ⟨rfl, rfl, hF.sub trivial, hS⟩⟩
   ·have hb2 := cond_t hc3 hb2
    refine q_cond_t hF rfl hc3 (q_skipc (n_sq (q_seq (q_block (q_seq (q_region (q_x (v := (.int .i64 t_4)) hF hS (ex_move rfl) rfl rfl fun a hF => ?_)))))))
    obtain ⟨e_5, he_5, hb2⟩ := bindS hb2
    obtain ⟨vs6, at6, d6⟩ := h2.at he_5 1 rfl
    obtain rfl : vs6 = [(.int .i64 e_5)] := d6
    refine q_x (v := (elP s2 (t_4.toNat * 1))) hF hS (ex_indexAddr Try.underlying24 sz3 rfl rfl (h2.idx he_5)) rfl rfl fun a hF => q_x (v := (.int .i64 e_5)) hF hS (ex_loadE1 0 Try.underlying3 rfl rfl ((at6).at) rfl rfl) rfl rfl fun a hF => q_x (v := (.int .i64 t_4)) hF hS (ex_assign rfl) rfl rfl fun a hF => q_x (v := (.int .i64 e_5)) hF hS (ex_assign rfl) rfl rfl fun a hF => q_end (n_sq (q_seq ?_))
    obtain ⟨t_10, hj4, hb2⟩ := bindS hb2
    refine q_join (fun a w => Fr a 33 [(0, s1.v), (14, s2.v), (15, (.int .i64 (goLen p_e.Sets))), (16, (.int .i64 t_4)), (31, (.bool t_10))] ∧ St [] w0 w m []) ?_ ?_
    ·refine q_region (q_x (v := (.int .i64 e_5)) hF hS (ex_move rfl) rfl rfl fun a hF => q_x (v := (.bool (decide (e_5 < 1)))) hF hS (ex_ibin rfl rfl rfl) rfl rfl fun a hF => q_x (v := (.bool (decide (e_5 < 1)))) hF hS (ex_move rfl) rfl rfl fun a hF => ?_)
     rcases bcase (decide (e_5 < 1)) with hc5 | hc5
     ·have hj4 := cond_f hc5 hj4
      refine q_xg (v := (.int .i64 e_5)) hF hS (ex_move rfl) (wanted_t hF rfl rfl rfl hc5) rfl fun a hF => q_xg (v := s1.v) hF hS (ex_move rfl) (wanted_t hF rfl rfl rfl hc5) rfl fun a hF => q_xg (v := (.int .i64 t_4)) hF hS (ex_move rfl) (wanted_t hF rfl rfl rfl hc5) rfl fun a hF => ?_
      obtain ⟨e_7, he_7, hj4⟩ := bindS hj4
      obtain ⟨vs8, at8, d8⟩ := h1.at he_7 2 rfl
      obtain rfl : vs8 = [(strV e_7.Name), (.int .i64 e_7.Levels)] := d8
      refine q_xg (v := (elP s1 (t_4.toNat * 2))) hF hS (ex_indexAddr Try.underlying23 sz85 rfl rfl (h1.idx he_7)) (wanted_t hF rfl rfl rfl hc5) rfl fun a hF => q_xg (v := (.agg #[(strV e_7.Name), (.int .i64 e_7.Levels)])) hF hS (ex_loadEA (us := [(strV e_7.Name), (.int .i64 e_7.Levels)]) 0 Try.underlying85 rfl sz85 rfl ((at8).at) rfl rfl rfl) (wanted_t hF rfl rfl rfl hc5) rfl fun a hF => ?_
      obtain ⟨t_9, ht_9, hj4⟩ := bindS hj4
      refine q_callg (vs := [(.agg #[(strV e_7.Name), (.int .i64 e_7.Levels)])]) hF hS (wanted_t hF rfl rfl rfl hc5) Try.func90 (by kernel_rfl) rfl rfl rfl (c_impl_fullSet e_7 t_9 ht_9 _ m hS.vis) ?_
      rintro a w _ rfl hF hS
      refine q_xg (v := (.bool (decide (t_9 < e_5)))) hF hS (ex_ibin rfl rfl rfl) (wanted_t hF rfl rfl rfl hc5) rfl fun a hF => q_x (v := (.bool (decide (t_9 < e_5)))) hF hS (ex_pick_f rfl rfl hc5) rfl rfl fun a hF => q_end (n_jn ?_)
      obtain rfl := someI hj4
      exact ⟨hF.sub ⟨rfl, rfl, rfl, rfl, rfl, trivial⟩, hS⟩
     ·have hj4 := cond_t hc5 hj4
      refine q_skip hF (wanted_f hF rfl rfl rfl hc5 rfl) rfl fun a hF => q_skip hF (wanted_f hF rfl rfl rfl hc5 rfl) rfl fun a hF => q_skip hF (wanted_f hF rfl rfl rfl hc5 rfl) rfl fun a hF => q_skip hF (wanted_f hF rfl rfl rfl hc5 rfl) rfl fun a hF => q_skip hF (wanted_f hF rfl rfl rfl hc5 rfl) rfl fun a hF => q_skip hF (wanted_f hF rfl rfl rfl hc5 rfl) rfl fun a hF => q_skip hF (wanted_f hF rfl rfl rfl hc5 rfl) rfl fun a hF => q_x (v := (.bool true)) hF hS (ex_pick_t rfl rfl hc5) rfl rfl fun a hF => q_end (n_jn ?_)
      obtain rfl := someI hj4
      exact ⟨hF.sub ⟨rfl, rfl, rfl, rfl, rfl, trivial⟩, hS⟩
    ·rintro a w ⟨hF, hS⟩
     refine n_sq ?_
     rcases bcase (t_10) with hc6 | hc6
     ·have hb2 := cond_f hc6 hb2
      refine q_cond_f hF rfl hc6 (q_skipc (n_ib (n_sq (q_region (q_x (v := (.int .i64 (w64 (t_4 + 1)))) hF hS (ex_ibin rfl rfl rfl) rfl rfl fun a hF => q_x (v := (.int .i64 (w64 (t_4 + 1)))) hF hS (ex_move rfl) rfl rfl fun a hF => q_end ?_)))))
      obtain rfl := someI hb2
      exact ⟨rfl, hF.sub ⟨rfl, rfl, rfl, rfl, trivial⟩, hS⟩
     ·have hb2 := cond_t hc6 hb2
      refine q_cond_t hF rfl hc6 (q_seq (q_region (q_x (v := (.bool false)) hF hS (ex_assign rfl) rfl rfl fun a hF => q_end (n_sq (q_ret (r_ib (r_sq ?_)))))))
      obtain rfl := someI hb2
      refine ⟨nofun, .inr fun ho => ?_⟩
      subst ho
      refine r_ib (r_sq ?_)
      obtain rfl := someI hr
      exact ret_of hF hS rfl (.tmp rfl .nil) rfl
  ·rintro e a w ⟨rfl, rfl, hF, hS⟩
   refine x_ib (n_sq ?_)
   refine q_seq (q_region (q_x (v := (.bool true)) hF hS (ex_assign rfl) rfl rfl fun a hF => q_end (n_sq (q_ret ?_))))
   obtain rfl := someI hr
   exact ret_of hF hS rfl (.tmp rfl .nil) rfl
 ·have hr := cond_t hc1 hr
  refine q_cond_t hF rfl hc1 (q_seq (q_region (q_x (v := (.bool false)) hF hS (ex_assign rfl) rfl rfl fun a hF => q_end (n_sq (q_ret (r_sq ?_))))))
  obtain rfl := someI hr
  exact ret_of hF hS rfl (.tmp rfl .nil) rfl

theorem c_impl_areEdits (p_s : List impl_Variable) (p_l : List impl_Edit) (r : Bool) (hr : impl_areEdits p_s p_l = some r) (w0 : World) (m : Mem) (hv : Vis m w0) (s1 : Sl) (h1 : Rd m s1 p_s) (s2 : Sl) (h2 : Rd m s2 p_l) :
  Ret Try.prog 56 [s1.v, s2.v] w0 (fun v _ => v = (.bool r)) := by
 unfold impl_areEdits at hr
 refine ret_start Try.func56 rfl 21 rfl rfl m hv fun a hF hS => q_seq (q_region (q_x (v := (.bool false)) hF hS (ex_assign rfl) rfl rfl fun a hF => q_end (n_sq (q_seq (q_seq (q_region (q_x (v := s2.v) hF hS (ex_move rfl) rfl rfl fun a hF => q_x (v := (.int .i64 (goLen p_l))) hF hS (ex_len Try.underlying48 rfl h2.len) rfl rfl fun a hF => q_x (v := (.bool (decide (40 < (goLen p_l))))) hF hS (ex_ibin rfl rfl rfl) rfl rfl fun a hF => q_end (n_sq ?_))))))))
 rcases bcase (decide (40 < (goLen p_l))) with hc1 | hc1
 ·have hr := cond_f hc1 hr
  refine q_cond_f hF rfl hc1 (q_skipc (n_sq (q_seq (q_seq (q_region (q_x (v := s2.v) hF hS (ex_move rfl) rfl rfl fun a hF => q_x (v := (.int .i64 (goLen p_l))) hF hS (ex_len Try.underlying48 rfl h2.len) rfl rfl fun a hF => q_x (v := (.int .i64 0)) hF hS (ex_move rfl) rfl rfl fun a hF => q_end (n_sq (q_block ?_))))))))
  obtain ⟨o2, hl2, hr⟩ := bindS hr
  refine q_loop (fun (t_3 : Int) a w => Fr a 21 [(0, s1.v), (10, s2.v), (11, (.int .i64 (goLen p_l))), (12, (.int .i64 t_3))] ∧ St [] w0 w m []) (fun (o : (Unit) ⊕ (Bool)) e a w => o = .inl () ∧ e = .exit 0 ∧ Fr a 21 [] ∧ St [] w0 w m []) hl2 ⟨hF.sub ⟨rfl, rfl, rfl, rfl, trivial⟩, hS⟩ ?_ ?_
  ·clear hF hS
   rintro t_3 a w st ⟨hF, hS⟩ hb2
   unfold impl_areEdits_l1 at hb2
   refine q_seq (q_region (q_x (v := (.bool (decide (t_3 < (goLen p_l))))) hF hS (ex_ibin rfl rfl rfl) rfl rfl fun a hF => q_end (n_sq (q_seq ?_))))
   rcases bcase (decide (t_3 < (goLen p_l))) with hc3 | hc3
   ·have hb2 := cond_f hc3 hb2
    refine q_cond_f hF rfl hc3 (q_exit (x_sq ?_))
    obtain rfl := someI hb2
    exact ⟨nofun, .inl ⟨rfl, rfl, hF.sub trivial, hS⟩⟩
   ·have hb2 := cond_t hc3 hb2
    refine q_cond_t hF rfl hc3 (q_skipc (n_sq (q_seq (q_block (q_seq (q_region ?_))))))
    obtain ⟨e_4, he_4, hb2⟩ := bindS hb2
    obtain ⟨vs5, at5, d5⟩ := h2.at he_4 1 rfl
    obtain ⟨s6, rfl, h6⟩ : ∃ s6 : Sl, vs5 = [s6.v] ∧ Rd m s6 e_4.Sets := d5
    refine q_x (v := (elP s2 (t_3.toNat * 1))) hF hS (ex_indexAddr Try.underlying48 sz93 rfl rfl (h2.idx he_4)) rfl rfl fun a hF => q_x (v := (.agg #[s6.v])) hF hS (ex_loadEA (us := [s6.v]) 0 Try.underlying93 rfl sz93 rfl ((at5).at) rfl rfl rfl) rfl rfl fun a hF => q_alloc (cs := [nilS.v]) hF hS rfl rfl rfl fun a w b7 hF hS => q_store (vs := [s6.v]) (cs' := [s6.v]) 0 0 hF hS sz93 rfl rfl rfl rfl rfl rfl rfl rfl fun a w hF hS => q_end (n_sq (q_seq (q_region (q_x (v := s1.v) hF hS (ex_move rfl) rfl rfl fun a hF => q_x (v := (.agg #[s6.v])) hF hS (ex_loadA (vs := [s6.v]) 0 0 Try.underlying93 rfl sz93 rfl rfl rfl rfl) rfl rfl fun a hF => ?_))))
    obtain ⟨t_8, ht_8, hb2⟩ := bindS hb2
    refine q_call (vs := [s1.v, (.agg #[s6.v])]) hF hS Try.func83 (by kernel_rfl) rfl rfl rfl (c_impl_isEdit p_s e_4 t_8 ht_8 _ m hS.vis s1 h1 s6 h6) ?_
    rintro a w _ rfl hF hS
    refine q_x (v := (.bool (!t_8))) hF hS (ex_not rfl) rfl rfl fun a hF => q_end (n_sq ?_)
    rcases bcase (!t_8) with hc4 | hc4
    ·have hb2 := cond_f hc4 hb2
     refine q_cond_f hF rfl hc4 (q_skipc (n_ib (n_sq (q_region (q_x (v := (.int .i64 (w64 (t_3 + 1)))) hF hS (ex_ibin rfl rfl rfl) rfl rfl fun a hF => q_x (v := (.int .i64 (w64 (t_3 + 1)))) hF hS (ex_move rfl) rfl rfl fun a hF => q_end ?_)))))
     obtain rfl := someI hb2
     exact ⟨rfl, hF.sub ⟨rfl, rfl, rfl, rfl, trivial⟩, hS.mask [false]⟩
    ·have hb2 := cond_t hc4 hb2
     refine q_cond_t hF rfl hc4 (q_seq (q_region (q_x (v := (.bool false)) hF hS (ex_assign rfl) rfl rfl fun a hF => q_end (n_sq (q_ret (r_ib (r_sq ?_)))))))
     obtain rfl := someI hb2
     refine ⟨nofun, .inr fun ho => ?_⟩
     subst ho
     refine r_ib (r_sq ?_)
     obtain rfl := someI hr
     exact ret_of hF hS rfl (.tmp rfl .nil) rfl
  ·rintro e a w ⟨rfl, rfl, hF, hS⟩
   refine x_ib (n_sq ?_)
   refine q_seq (q_region (q_x (v := (.bool true)) hF hS (ex_assign rfl) rfl rfl fun a hF => q_end (n_sq (q_ret ?_))))
   obtain rfl := someI hr
   exact ret_of hF hS rfl (.tmp rfl .nil) rfl
 ·have hr := cond_t hc1 hr
  refine q_cond_t hF rfl hc1 (q_seq (q_region (q_x (v := (.bool false)) hF hS (ex_assign rfl) rfl rfl fun a hF => q_end (n_sq (q_ret (r_sq ?_))))))
  obtain rfl := someI hr
  exact ret_of hF hS rfl (.tmp rfl .nil) rfl

theorem c_impl_combinations (p_s : List impl_Variable) (r : Int) (hr : impl_combinations p_s = some r) (w0 : World) (m : Mem) (hv : Vis m w0) (s1 : Sl) (h1 : Rd m s1 p_s) :
  Ret Try.prog 57 [s1.v] w0 (fun v _ => v = (.int .i64 r)) := by
 unfold impl_combinations at hr
 refine ret_start Try.func57 rfl 18 rfl rfl m hv fun a hF hS => q_seq (q_region (q_x (v := (.int .i64 0)) hF hS (ex_assign rfl) rfl rfl fun a hF => q_end (n_sq (q_seq (q_region (q_x (v := (.int .i64 1)) hF hS (ex_assign rfl) rfl rfl fun a hF => q_end (n_sq (q_seq (q_seq (q_region (q_x (v := s1.v) hF hS (ex_move rfl) rfl rfl fun a hF => q_x (v := (.int .i64 (goLen p_s))) hF hS (ex_len Try.underlying23 rfl h1.len) rfl rfl fun a hF => q_x (v := (.int .i64 0)) hF hS (ex_move rfl) rfl rfl fun a hF => q_end (n_sq (q_block ?_)))))))))))))
 obtain ⟨n_7, hl1, hr⟩ := bindS hr
 refine q_loop (fun (s : Int × Int) a w => ∃ n_2, ∃ t_3, s = (n_2, t_3) ∧ Fr a 18 [(3, (.int .i64 n_2)), (6, s1.v), (7, (.int .i64 (goLen p_s))), (8, (.int .i64 t_3))] ∧ St [] w0 w m []) (fun (n_7 : Int) e a w => e = .exit 0 ∧ Fr a 18 [(3, (.int .i64 n_7))] ∧ St [] w0 w m []) hl1 ⟨_, _, rfl, hF.sub ⟨rfl, rfl, rfl, rfl, trivial⟩, hS⟩ ?_ ?_
 ·clear hF hS
  rintro s a w st ⟨n_2, t_3, rfl, hF, hS⟩ hb1
  unfold impl_combinations_l1 at hb1
  refine q_seq (q_region (q_x (v := (.bool (decide (t_3 < (goLen p_s))))) hF hS (ex_ibin rfl rfl rfl) rfl rfl fun a hF => q_end (n_sq (q_seq ?_))))
  rcases bcase (decide (t_3 < (goLen p_s))) with hc2 | hc2
  ·have hb1 := cond_f hc2 hb1
   refine q_cond_f hF rfl hc2 (q_exit (x_sq ?_))
   obtain rfl := someI hb1
   exact ⟨nofun, .inl ⟨rfl, hF.sub ⟨rfl, trivial⟩, hS⟩⟩
  ·have hb1 := cond_t hc2 hb1
   refine q_cond_t hF rfl hc2 (q_skipc (n_sq (q_seq (q_block (q_seq (q_region ?_))))))
   obtain ⟨e_4, he_4, hb1⟩ := bindS hb1
   obtain ⟨vs5, at5, d5⟩ := h1.at he_4 2 rfl
   obtain rfl : vs5 = [(strV e_4.Name), (.int .i64 e_4.Levels)] := d5
   refine q_x (v := (elP s1 (t_3.toNat * 2))) hF hS (ex_indexAddr Try.underlying23 sz85 rfl rfl (h1.idx he_4)) rfl rfl fun a hF => q_x (v := (.agg #[(strV e_4.Name), (.int .i64 e_4.Levels)])) hF hS (ex_loadEA (us := [(strV e_4.Name), (.int .i64 e_4.Levels)]) 0 Try.underlying85 rfl sz85 rfl ((at5).at) rfl rfl rfl) rfl rfl fun a hF => q_alloc (cs := [(strV ([] : List UInt8)), (.int .i64 0)]) hF hS rfl rfl rfl fun a w b6 hF hS => q_store (vs := [(strV e_4.Name), (.int .i64 e_4.Levels)]) (cs' := [(strV e_4.Name), (.int .i64 e_4.Levels)]) 0 0 hF hS sz85 rfl rfl rfl rfl rfl rfl rfl rfl fun a w hF hS => q_end (n_sq (q_region (q_x (v := (.int .i64 n_2)) hF hS (ex_move rfl) rfl rfl fun a hF => q_x (v := (.pointer (some ⟨b6, 1, none⟩))) hF hS (ex_fieldAddr Try.underlying85 rfl sz3 rfl rfl) rfl rfl fun a hF => q_x (v := (.int .i64 e_4.Levels)) hF hS (ex_load1 0 0 Try.underlying3 rfl rfl rfl rfl) rfl rfl fun a hF => q_x (v := (.int .i64 (w64 (n_2 * e_4.Levels)))) hF hS (ex_ibin rfl rfl rfl) rfl rfl fun a hF => q_x (v := (.int .i64 (w64 (n_2 * e_4.Levels)))) hF hS (ex_assign rfl) rfl rfl fun a hF => q_end (n_ib (n_sq (q_region (q_x (v := (.int .i64 (w64 (t_3 + 1)))) hF hS (ex_ibin rfl rfl rfl) rfl rfl fun a hF => q_x (v := (.int .i64 (w64 (t_3 + 1)))) hF hS (ex_move rfl) rfl rfl fun a hF => q_end ?_)))))))
   obtain rfl := someI hb1
   exact ⟨rfl, _, _, rfl, hF.sub ⟨rfl, rfl, rfl, rfl, trivial⟩, hS.mask [false]⟩
 ·rintro e a w ⟨rfl, hF, hS⟩
  refine x_ib (n_sq ?_)
  refine q_seq (q_region (q_x (v := (.int .i64 n_7)) hF hS (ex_move rfl) rfl rfl fun a hF => q_x (v := (.int .i64 n_7)) hF hS (ex_assign rfl) rfl rfl fun a hF => q_end (n_sq (q_ret ?_))))
  obtain rfl := someI hr
  exact ret_of hF hS rfl (.tmp rfl .nil) rfl

theorem c_impl_valuesAt (p_s : List impl_Variable) (p_i : Int) (r : (List Int)) (hr : impl_valuesAt p_s p_i = some r) (w0 : World) (m : Mem) (hv : Vis m w0) (s1 : Sl) (h1 : Rd m s1 p_s) :
  Ret Try.prog 84 [s1.v, (.int .i64 p_i)] w0 (fun v w => ∃ (q0' : Piece) (s0' : Sl), v = s0'.v ∧ St [] w0 w m [q0'] ∧ OwnL m 3 q0' s0' r) := by
 unfold impl_valuesAt at hr
 refine ret_start Try.func84 rfl 35 rfl rfl m hv fun a hF hS => q_seq (q_region (q_x (v := nilS.v) hF hS (ex_assign rfl) rfl rfl fun a hF => q_end (n_sq (q_seq (q_region (q_x (v := s1.v) hF hS (ex_move rfl) rfl rfl fun a hF => q_x (v := (.int .i64 (goLen p_s))) hF hS (ex_len Try.underlying23 rfl h1.len) rfl rfl fun a hF => ?_))))))
 obtain ⟨l_2, hl_2, hr⟩ := bindS hr
 refine q_do rfl fun _ hK => wp_make (z := (0 : Int)) hF hS Try.underlying24 inf3 rfl rfl rfl rfl rfl (by decide) hl_2 rfl fun a w q3 s3 hF hS h3 _ => hK _ _ (q_x (v := s3.v) hF hS (ex_assign rfl) rfl rfl fun a hF => q_end (n_sq (q_seq (q_seq (q_region (q_x (v := s1.v) hF hS (ex_move rfl) rfl rfl fun a hF => q_x (v := (.int .i64 (goLen p_s))) hF hS (ex_len Try.underlying23 rfl h1.len) rfl rfl fun a hF => q_x (v := (.int .i64 (w64 ((goLen p_s) - 1)))) hF hS (ex_ibin rfl rfl rfl) rfl rfl fun a hF => q_x (v := (.int .i64 (w64 ((goLen p_s) - 1)))) hF hS (ex_assign rfl) rfl rfl fun a hF => q_end (n_sq (q_block ?_))))))))
 obtain ⟨values_17, hl1, hr⟩ := bindS hr
 refine q_loop (fun (s : Int × (List Int) × Int) a w => ∃ (q6 : Piece), ∃ i_4, ∃ values_5, ∃ k_7, s = (i_4, values_5, k_7) ∧ Fr a 35 [(0, s1.v), (1, (.int .i64 i_4)), (5, s3.v), (6, (.int .i64 k_7))] ∧ St [] w0 w m [q6] ∧ OwnL m 3 q6 s3 values_5) (fun (values_17 : (List Int)) e a w => ∃ (q18 : Piece), e = .exit 0 ∧ Fr a 35 [(5, s3.v)] ∧ St [] w0 w m [q18] ∧ OwnL m 3 q18 s3 values_17) hl1 ⟨q3, _, _, _, rfl, hF.sub ⟨rfl, rfl, rfl, rfl, trivial⟩, hS, h3⟩ ?_ ?_
 ·clear hF hS
  rintro s a w st ⟨q6, i_4, values_5, k_7, rfl, hF, hS, h6⟩ hb1
  unfold impl_valuesAt_l1 at hb1
  refine q_seq (q_seq (q_region (q_x (v := (.int .i64 k_7)) hF hS (ex_move rfl) rfl rfl fun a hF => q_x (v := (.bool (decide (0 ≤ k_7)))) hF hS (ex_ibin rfl rfl rfl) rfl rfl fun a hF => q_end (n_sq ?_))))
  rcases bcase (decide (0 ≤ k_7)) with hc2 | hc2
  ·have hb1 := cond_f hc2 hb1
   refine q_cond_f hF rfl hc2 (q_exit (x_sq ?_))
   obtain rfl := someI hb1
   exact ⟨nofun, .inl ⟨q6, rfl, hF.sub ⟨rfl, trivial⟩, hS, h6⟩⟩
  ·have hb1 := cond_t hc2 hb1
   refine q_cond_t hF rfl hc2 (q_skipc (n_sq (q_seq (q_block (q_seq (q_region (q_x (v := s3.v) hF hS (ex_move rfl) rfl rfl fun a hF => q_x (v := (.int .i64 k_7)) hF hS (ex_move rfl) rfl rfl fun a hF => q_x (v := (.int .i64 i_4)) hF hS (ex_move rfl) rfl rfl fun a hF => q_x (v := s1.v) hF hS (ex_move rfl) rfl rfl fun a hF => q_x (v := (.int .i64 k_7)) hF hS (ex_move rfl) rfl rfl fun a hF => ?_)))))))
   obtain ⟨e_8, he_8, hb1⟩ := bindS hb1
   obtain ⟨vs9, at9, d9⟩ := h1.at he_8 2 rfl
   obtain rfl : vs9 = [(strV e_8.Name), (.int .i64 e_8.Levels)] := d9
   refine q_x (v := (elP s1 (k_7.toNat * 2))) hF hS (ex_indexAddr Try.underlying23 sz85 rfl rfl (h1.idx he_8)) rfl rfl fun a hF => q_x (v := (elP s1 (k_7.toNat * 2 + 1))) hF hS (ex_fieldAddrE Try.underlying85 rfl sz3 rfl (h1.idx he_8) rfl) rfl rfl fun a hF => q_x (v := (.int .i64 e_8.Levels)) hF hS (ex_loadE1 1 Try.underlying3 rfl rfl ((at9).at) rfl rfl) rfl rfl fun a hF => ?_
   obtain ⟨t_10, ht_10, hb1⟩ := bindS hb1
   refine q_x (v := (.int .i64 t_10)) hF hS (ex_rem rfl rfl ht_10) rfl rfl fun a hF => ?_
   obtain ⟨e_11, he_11, hb1⟩ := bindS hb1
   obtain ⟨vs12, at12, d12⟩ := h6.at he_11 1 rfl
   obtain rfl : vs12 = [(.int .i64 e_11)] := d12
   refine q_x (v := (elP s3 (k_7.toNat * 1))) hF hS (ex_indexAddr Try.underlying24 sz3 rfl rfl (h6.idx he_11)) rfl rfl fun a hF => q_do rfl fun _ hK => wp_storeE (e' := t_10) (us := [(.int .i64 t_10)]) (vs := [(.int .i64 e_11)]) 0 hF hS h6 sz3 rfl rfl rfl rfl rfl rfl rfl he_11 at12 rfl rfl rfl fun w q13 hS h13 => hK _ _ (q_end (n_sq (q_region (q_x (v := (.int .i64 i_4)) hF hS (ex_move rfl) rfl rfl fun a hF => q_x (v := s1.v) hF hS (ex_move rfl) rfl rfl fun a hF => q_x (v := (.int .i64 k_7)) hF hS (ex_move rfl) rfl rfl fun a hF => ?_))))
   obtain ⟨e_14, he_14, hb1⟩ := bindS hb1
   obtain ⟨vs15, at15, d15⟩ := h1.at he_14 2 rfl
   obtain rfl : vs15 = [(strV e_14.Name), (.int .i64 e_14.Levels)] := d15
   refine q_x (v := (elP s1 (k_7.toNat * 2))) hF hS (ex_indexAddr Try.underlying23 sz85 rfl rfl (h1.idx he_14)) rfl rfl fun a hF => q_x (v := (elP s1 (k_7.toNat * 2 + 1))) hF hS (ex_fieldAddrE Try.underlying85 rfl sz3 rfl (h1.idx he_14) rfl) rfl rfl fun a hF => q_x (v := (.int .i64 e_14.Levels)) hF hS (ex_loadE1 1 Try.underlying3 rfl rfl ((at15).at) rfl rfl) rfl rfl fun a hF => ?_
   obtain ⟨t_16, ht_16, hb1⟩ := bindS hb1
   refine q_x (v := (.int .i64 t_16)) hF hS (ex_quo rfl rfl ht_16) rfl rfl fun a hF => q_x (v := (.int .i64 t_16)) hF hS (ex_assign rfl) rfl rfl fun a hF => q_end (n_ib (n_sq (q_region (q_x (v := (.int .i64 k_7)) hF hS (ex_move rfl) rfl rfl fun a hF => q_x (v := (.int .i64 (w64 (k_7 - 1)))) hF hS (ex_ibin rfl rfl rfl) rfl rfl fun a hF => q_x (v := (.int .i64 (w64 (k_7 - 1)))) hF hS (ex_assign rfl) rfl rfl fun a hF => q_end ?_))))
   obtain rfl := someI hb1
   exact ⟨rfl, q13, _, _, _, rfl, hF.sub ⟨rfl, rfl, rfl, rfl, trivial⟩, hS, h13⟩
 ·rintro e a w ⟨q18, rfl, hF, hS, h18⟩
  refine x_ib (n_sq ?_)
  refine q_seq (q_region (q_x (v := s3.v) hF hS (ex_move rfl) rfl rfl fun a hF => q_x (v := s3.v) hF hS (ex_assign rfl) rfl rfl fun a hF => q_end (n_sq (q_ret ?_))))
  obtain rfl := someI hr
  exact ret_of hF hS rfl (.tmp rfl .nil) ⟨q18, s3, rfl, hS.sel [0] (by decide), h18⟩

theorem c_impl_fails (p_e : impl_Edit) (p_values : List Int) (r : Bool) (hr : impl_fails p_e p_values = some r) (w0 : World) (m : Mem) (hv : Vis m w0) (s1 : Sl) (h1 : Rd m s1 p_e.Sets) (s2 : Sl) (h2 : Rd m s2 p_values) :
  Ret Try.prog 64 [(.agg #[s1.v]), s2.v] w0 (fun v _ => v = (.bool r)) := by
 unfold impl_fails at hr
 refine ret_start Try.func64 rfl 24 rfl rfl m hv fun a hF hS => q_seq (q_region (q_box (cs := [s1.v]) hF hS rfl rfl rfl fun a w b3 hF hS => q_x (v := (.bool false)) hF hS (ex_assign rfl) rfl rfl fun a hF => q_end (n_sq (q_seq (q_seq (q_region (q_x (v := s2.v) hF hS (ex_move rfl) rfl rfl fun a hF => q_x (v := (.int .i64 (goLen p_values))) hF hS (ex_len Try.underlying24 rfl h2.len) rfl rfl fun a hF => q_x (v := (.int .i64 0)) hF hS (ex_move rfl) rfl rfl fun a hF => q_end (n_sq (q_block ?_)))))))))
 obtain ⟨o1, hl1, hr⟩ := bindS hr
 refine q_loop (fun (t_4 : Int) a w => Fr a 24 [(2, (.pointer (some ⟨b3, 0, none⟩))), (7, s2.v), (8, (.int .i64 (goLen p_values))), (9, (.int .i64 t_4))] ∧ St [] w0 w m [[⟨b3, [s1.v], 93⟩]]) (fun (o : (Unit) ⊕ (Bool)) e a w => o = .inl () ∧ e = .exit 0 ∧ Fr a 24 [] ∧ St [] w0 w m []) hl1 ⟨hF.sub ⟨rfl, rfl, rfl, rfl, trivial⟩, hS⟩ ?_ ?_
 ·clear hF hS
  rintro t_4 a w st ⟨hF, hS⟩ hb1
  unfold impl_fails_l1 at hb1
  refine q_seq (q_region (q_x (v := (.bool (decide (t_4 < (goLen p_values))))) hF hS (ex_ibin rfl rfl rfl) rfl rfl fun a hF => q_end (n_sq (q_seq ?_))))
  rcases bcase (decide (t_4 < (goLen p_values))) with hc2 | hc2
  ·have hb1 := cond_f hc2 hb1
   refine q_cond_f hF rfl hc2 (q_exit (x_sq ?_))
   obtain rfl := someI hb1
   exact ⟨nofun, .inl ⟨rfl, rfl, hF.sub trivial, hS.mask [false]⟩⟩
  ·have hb1 := cond_t hc2 hb1
   refine q_cond_t hF rfl hc2 (q_skipc (n_sq (q_seq (q_block (q_seq (q_region (q_x (v := (.int .i64 t_4)) hF hS (ex_move rfl) rfl rfl fun a hF => ?_)))))))
   obtain ⟨e_5, he_5, hb1⟩ := bindS hb1
   obtain ⟨vs6, at6, d6⟩ := h2.at he_5 1 rfl
   obtain rfl : vs6 = [(.int .i64 e_5)] := d6
   refine q_x (v := (elP s2 (t_4.toNat * 1))) hF hS (ex_indexAddr Try.underlying24 sz3 rfl rfl (h2.idx he_5)) rfl rfl fun a hF => q_x (v := (.int .i64 e_5)) hF hS (ex_loadE1 0 Try.underlying3 rfl rfl ((at6).at) rfl rfl) rfl rfl fun a hF => q_x (v := (.int .i64 t_4)) hF hS (ex_assign rfl) rfl rfl fun a hF => q_x (v := (.int .i64 e_5)) hF hS (ex_assign rfl) rfl rfl fun a hF => q_end (n_sq (q_seq (q_region (q_x (v := (.pointer (some ⟨b3, 0, none⟩))) hF hS (ex_fieldAddr Try.underlying93 rfl sz24 rfl rfl) rfl rfl fun a hF => q_x (v := s1.v) hF hS (ex_load1 0 0 Try.underlying24 rfl rfl rfl rfl) rfl rfl fun a hF => q_x (v := (.int .i64 t_4)) hF hS (ex_move rfl) rfl rfl fun a hF => ?_))))
   obtain ⟨e_7, he_7, hb1⟩ := bindS hb1
   obtain ⟨vs8, at8, d8⟩ := h1.at he_7 1 rfl
   obtain rfl : vs8 = [(.int .i64 e_7)] := d8
   refine q_x (v := (elP s1 (t_4.toNat * 1))) hF hS (ex_indexAddr Try.underlying24 sz3 rfl rfl (h1.idx he_7)) rfl rfl fun a hF => q_x (v := (.int .i64 e_7)) hF hS (ex_loadE1 0 Try.underlying3 rfl rfl ((at8).at) rfl rfl) rfl rfl fun a hF => q_x (v := (.int .i64 e_5)) hF hS (ex_move rfl) rfl rfl fun a hF => ?_
   obtain ⟨t_9, ht_9, hb1⟩ := bindS hb1
   refine q_x (v := (.int .i64 t_9)) hF hS (ex_shr rfl rfl ht_9) rfl rfl fun a hF => q_x (v := (.int .i64 (goBits .and .i64 t_9 1))) hF hS (ex_bits rfl rfl rfl) rfl rfl fun a hF => q_x (v := (.bool ((goBits .and .i64 t_9 1) == 0))) hF hS (ex_ibin rfl rfl rfl) rfl rfl fun a hF => q_end (n_sq ?_)
   rcases bcase ((goBits .and .i64 t_9 1) == 0) with hc3 | hc3
   ·have hb1 := cond_f hc3 hb1
    refine q_cond_f hF rfl hc3 (q_skipc (n_ib (n_sq (q_region (q_x (v := (.int .i64 (w64 (t_4 + 1)))) hF hS (ex_ibin rfl rfl rfl) rfl rfl fun a hF => q_x (v := (.int .i64 (w64 (t_4 + 1)))) hF hS (ex_move rfl) rfl rfl fun a hF => q_end ?_)))))
    obtain rfl := someI hb1
    exact ⟨rfl, hF.sub ⟨rfl, rfl, rfl, rfl, trivial⟩, hS⟩
   ·have hb1 := cond_t hc3 hb1
    refine q_cond_t hF rfl hc3 (q_seq (q_region (q_x (v := (.bool false)) hF hS (ex_assign rfl) rfl rfl fun a hF => q_end (n_sq (q_ret (r_ib (r_sq ?_)))))))
    obtain rfl := someI hb1
    refine ⟨nofun, .inr fun ho => ?_⟩
    subst ho
    refine r_ib (r_sq ?_)
    obtain rfl := someI hr
    exact ret_of hF hS rfl (.tmp rfl .nil) rfl
 ·rintro e a w ⟨rfl, rfl, hF, hS⟩
  refine x_ib (n_sq ?_)
  refine q_seq (q_region (q_x (v := (.bool true)) hF hS (ex_assign rfl) rfl rfl fun a hF => q_end (n_sq (q_ret ?_))))
  obtain rfl := someI hr
  exact ret_of hF hS rfl (.tmp rfl .nil) rfl

theorem c_impl_failsOne (p_l : List impl_Edit) (p_values : List Int) (r : Bool) (hr : impl_failsOne p_l p_values = some r) (w0 : World) (m : Mem) (hv : Vis m w0) (s1 : Sl) (h1 : Rd m s1 p_l) (s2 : Sl) (h2 : Rd m s2 p_values) :
  Ret Try.prog 85 [s1.v, s2.v] w0 (fun v _ => v = (.bool r)) := by
 unfold impl_failsOne at hr
 refine ret_start Try.func85 rfl 17 rfl rfl m hv fun a hF hS => q_seq (q_region (q_x (v := (.bool false)) hF hS (ex_assign rfl) rfl rfl fun a hF => q_end (n_sq (q_seq (q_seq (q_region (q_x (v := s1.v) hF hS (ex_move rfl) rfl rfl fun a hF => q_x (v := (.int .i64 (goLen p_l))) hF hS (ex_len Try.underlying48 rfl h1.len) rfl rfl fun a hF => q_x (v := (.int .i64 0)) hF hS (ex_move rfl) rfl rfl fun a hF => q_end (n_sq (q_block ?_)))))))))
 obtain ⟨o1, hl1, hr⟩ := bindS hr
 refine q_loop (fun (t_3 : Int) a w => Fr a 17 [(1, s2.v), (7, s1.v), (8, (.int .i64 (goLen p_l))), (9, (.int .i64 t_3))] ∧ St [] w0 w m []) (fun (o : (Unit) ⊕ (Bool)) e a w => o = .inl () ∧ e = .exit 0 ∧ Fr a 17 [] ∧ St [] w0 w m []) hl1 ⟨hF.sub ⟨rfl, rfl, rfl, rfl, trivial⟩, hS⟩ ?_ ?_
 ·clear hF hS
  rintro t_3 a w st ⟨hF, hS⟩ hb1
  unfold impl_failsOne_l1 at hb1
  refine q_seq (q_region (q_x (v := (.bool (decide (t_3 < (goLen p_l))))) hF hS (ex_ibin rfl rfl rfl) rfl rfl fun a hF => q_end (n_sq (q_seq ?_))))
  rcases bcase (decide (t_3 < (goLen p_l))) with hc2 | hc2
  ·have hb1 := cond_f hc2 hb1
   refine q_cond_f hF rfl hc2 (q_exit (x_sq ?_))
   obtain rfl := someI hb1
   exact ⟨nofun, .inl ⟨rfl, rfl, hF.sub trivial, hS⟩⟩
  ·have hb1 := cond_t hc2 hb1
   refine q_cond_t hF rfl hc2 (q_skipc (n_sq (q_seq (q_block (q_seq (q_region ?_))))))
   obtain ⟨e_4, he_4, hb1⟩ := bindS hb1
   obtain ⟨vs5, at5, d5⟩ := h1.at he_4 1 rfl
   obtain ⟨s6, rfl, h6⟩ : ∃ s6 : Sl, vs5 = [s6.v] ∧ Rd m s6 e_4.Sets := d5
   refine q_x (v := (elP s1 (t_3.toNat * 1))) hF hS (ex_indexAddr Try.underlying48 sz93 rfl rfl (h1.idx he_4)) rfl rfl fun a hF => q_x (v := (.agg #[s6.v])) hF hS (ex_loadEA (us := [s6.v]) 0 Try.underlying93 rfl sz93 rfl ((at5).at) rfl rfl rfl) rfl rfl fun a hF => q_alloc (cs := [nilS.v]) hF hS rfl rfl rfl fun a w b7 hF hS => q_store (vs := [s6.v]) (cs' := [s6.v]) 0 0 hF hS sz93 rfl rfl rfl rfl rfl rfl rfl rfl fun a w hF hS => q_end (n_sq (q_seq (q_region (q_x (v := (.agg #[s6.v])) hF hS (ex_loadA (vs := [s6.v]) 0 0 Try.underlying93 rfl sz93 rfl rfl rfl rfl) rfl rfl fun a hF => q_x (v := s2.v) hF hS (ex_move rfl) rfl rfl fun a hF => ?_))))
   obtain ⟨t_8, ht_8, hb1⟩ := bindS hb1
   refine q_call (vs := [(.agg #[s6.v]), s2.v]) hF hS Try.func64 (by kernel_rfl) rfl rfl rfl (c_impl_fails e_4 p_values t_8 ht_8 _ m hS.vis s6 h6 s2 h2) ?_
   rintro a w _ rfl hF hS
   refine q_end (n_sq ?_)
   rcases bcase (t_8) with hc3 | hc3
   ·have hb1 := cond_f hc3 hb1
    refine q_cond_f hF rfl hc3 (q_skipc (n_ib (n_sq (q_region (q_x (v := (.int .i64 (w64 (t_3 + 1)))) hF hS (ex_ibin rfl rfl rfl) rfl rfl fun a hF => q_x (v := (.int .i64 (w64 (t_3 + 1)))) hF hS (ex_move rfl) rfl rfl fun a hF => q_end ?_)))))
    obtain rfl := someI hb1
    exact ⟨rfl, hF.sub ⟨rfl, rfl, rfl, rfl, trivial⟩, hS.mask [false]⟩
   ·have hb1 := cond_t hc3 hb1
    refine q_cond_t hF rfl hc3 (q_seq (q_region (q_x (v := (.bool true)) hF hS (ex_assign rfl) rfl rfl fun a hF => q_end (n_sq (q_ret (r_ib (r_sq ?_)))))))
    obtain rfl := someI hb1
    refine ⟨nofun, .inr fun ho => ?_⟩
    subst ho
    refine r_ib (r_sq ?_)
    obtain rfl := someI hr
    exact ret_of hF hS rfl (.tmp rfl .nil) rfl
 ·rintro e a w ⟨rfl, rfl, hF, hS⟩
  refine x_ib (n_sq ?_)
  refine q_seq (q_region (q_x (v := (.bool false)) hF hS (ex_assign rfl) rfl rfl fun a hF => q_end (n_sq (q_ret ?_))))
  obtain rfl := someI hr
  exact ret_of hF hS rfl (.tmp rfl .nil) rfl

theorem c_impl_FirstPassing_1 (p_values : List Int) (p_x1 : List Int) (r : Bool × (List Int)) (hr : impl_FirstPassing_1 p_values p_x1 = some r) (w0 : World) (m : Mem) (b_p_x1 : Nat) (s1 : Sl) (h1 : Rd m s1 p_values) (s2 : Sl) (h2 : Rd m s2 p_x1) (h2n : NF s2 p_x1) (X : List Nat) (hS : St X w0 w0 m [[⟨b_p_x1, [s2.v], 24⟩]]) :
  RetX Try.prog 59 [s1.v, (.pointer (some ⟨b_p_x1, 0, none⟩))] w0 (fun v w => ∃ (m' : Mem) (s0' : Sl), v = (.bool r.1) ∧ MLe X w0.heap.size m m' ∧ St X w0 w m' [[⟨b_p_x1, [s0'.v], 24⟩]] ∧ Rd m' s0' r.2 ∧ NF s0' r.2) := by
 unfold impl_FirstPassing_1 at hr
 refine ret_startX Try.func59 rfl 5 rfl rfl fun a hF => ?_
 obtain ⟨_, hne0, hr⟩ := bindS hr
 refine q_seq (q_region (q_x (v := (.bool false)) hF hS (ex_assign rfl) rfl rfl fun a hF => q_end (n_sq (q_seq (q_region (q_x (v := s1.v) hF hS (ex_move rfl) rfl rfl fun a hF => q_store (vs := [s1.v]) (cs' := [s1.v]) 0 0 hF hS sz24 rfl rfl rfl rfl rfl rfl rfl rfl fun a w hF hS => q_end (n_sq (q_seq (q_region (q_x (v := (.bool false)) hF hS (ex_assign rfl) rfl rfl fun a hF => q_end (n_sq (q_ret ?_))))))))))))
 obtain rfl := someI hr
 exact ret_ofX hF hS rfl (.tmp rfl .nil) ⟨m, s1, rfl, (MLe.refl _ _), hS.sel [0] (by decide), h1, (NF.goNE hne0)⟩

theorem c_impl_passing_of_impl_FirstPassing_1 (p_s : List impl_Variable) (p_l : List impl_Edit) (p_x300 : List Int) (r : (List Int)) (hr : impl_passing_of_impl_FirstPassing_1 p_s p_l p_x300 = some r) (w0 : World) (m : Mem) (b_p_x300 : Nat) (s1 : Sl) (h1 : Rd m s1 p_s) (s2 : Sl) (h2 : Rd m s2 p_l) (s3 : Sl) (h3 : Rd m s3 p_x300) (h3n : NF s3 p_x300) (X : List Nat) (hS : St X w0 w0 m [[⟨b_p_x300, [s3.v], 24⟩]]) :
  RetX Try.prog 58 [s1.v, s2.v, (.func (.func 59) #[] #[(.pointer (some ⟨b_p_x300, 0, none⟩))])] w0 (fun v w => ∃ (m' : Mem) (s0' : Sl), v = (.tuple #[]) ∧ MLe X w0.heap.size m m' ∧ St X w0 w m' [[⟨b_p_x300, [s0'.v], 24⟩]] ∧ Rd m' s0' r ∧ NF s0' r) := by
 unfold impl_passing_of_impl_FirstPassing_1 at hr
 refine ret_startX Try.func58 rfl 27 rfl rfl fun a hF => q_seq (q_region (q_x (v := s1.v) hF hS (ex_move rfl) rfl rfl fun a hF => ?_))
 obtain ⟨t_4, ht_4, hr⟩ := bindS hr
 refine q_call (vs := [s1.v]) hF hS Try.func57 (by kernel_rfl) rfl rfl rfl (c_impl_combinations p_s t_4 ht_4 _ m hS.vis s1 h1) ?_
 rintro a w _ rfl hF hS
 refine q_x (v := (.int .i64 0)) hF hS (ex_move rfl) rfl rfl fun a hF => q_end (n_sq (q_block ?_))
 obtain ⟨o1, hl1, hr⟩ := bindS hr
 refine q_loop (fun (s : Int × (List Int)) a w => ∃ (m8 : Mem), ∃ (s7 : Sl), ∃ t_5, ∃ p_x300_6, s = (t_5, p_x300_6) ∧ Fr a 27 [(0, s1.v), (1, s2.v), (2, (.func (.func 59) #[] #[(.pointer (some ⟨b_p_x300, 0, none⟩))])), (9, (.int .i64 t_4)), (10, (.int .i64 t_5))] ∧ St X w0 w m8 [[⟨b_p_x300, [s7.v], 24⟩]] ∧ MLe X w0.heap.size m m8 ∧ Rd m8 s7 p_x300_6 ∧ NF s7 p_x300_6) (fun (o : ((List Int)) ⊕ ((List Int))) e a w => ∃ (m24 : Mem), ∃ (s23 : Sl), ∃ p_x300_22, o = .inl p_x300_22 ∧ e = .exit 0 ∧ Fr a 27 [] ∧ St X w0 w m24 [[⟨b_p_x300, [s23.v], 24⟩]] ∧ MLe X w0.heap.size m m24 ∧ Rd m24 s23 p_x300_22 ∧ NF s23 p_x300_22) hl1 ⟨m, s3, _, _, rfl, hF.sub ⟨rfl, rfl, rfl, rfl, rfl, trivial⟩, hS, (MLe.refl _ _), h3, h3n⟩ ?_ ?_
 ·clear hF hS
  rintro s a w st ⟨m8, s7, t_5, p_x300_6, rfl, hF, hS, hm8, h7, h7n⟩ hb1
  unfold impl_passing_of_impl_FirstPassing_1_l1 at hb1
  refine q_seq (q_region (q_x (v := (.bool (decide (t_5 < t_4)))) hF hS (ex_ibin rfl rfl rfl) rfl rfl fun a hF => q_end (n_sq (q_seq ?_))))
  rcases bcase (decide (t_5 < t_4)) with hc2 | hc2
  ·have hb1 := cond_f hc2 hb1
   refine q_cond_f hF rfl hc2 (q_exit (x_sq ?_))
   obtain rfl := someI hb1
   exact ⟨nofun, .inl ⟨m8, s7, _, rfl, rfl, hF.sub trivial, hS, hm8, h7, h7n⟩⟩
  ·have hb1 := cond_t hc2 hb1
   refine q_cond_t hF rfl hc2 (q_skipc (n_sq (q_seq (q_block (q_seq (q_region (q_x (v := (.int .i64 t_5)) hF hS (ex_move rfl) rfl rfl fun a hF => q_x (v := (.int .i64 t_5)) hF hS (ex_assign rfl) rfl rfl fun a hF => q_end (n_sq (q_seq (q_region (q_x (v := s1.v) hF hS (ex_move rfl) rfl rfl fun a hF => q_x (v := (.int .i64 t_5)) hF hS (ex_move rfl) rfl rfl fun a hF => ?_)))))))))))
   obtain ⟨t_9, ht_9, hb1⟩ := bindS hb1
   refine q_call (vs := [s1.v, (.int .i64 t_5)]) hF hS Try.func84 (by kernel_rfl) rfl rfl rfl (c_impl_valuesAt p_s t_5 t_9 ht_9 _ m8 hS.vis s1 (h1.mono hm8.le)) ?_
   rintro a w _ ⟨q11, s11, rfl, hR10, h11⟩ hF hS2
   have hS : St _ _ _ _ [q11, [⟨b_p_x300, [s7.v], 24⟩]] := hS.joinF hR10
   refine q_x (v := s11.v) hF hS (ex_assign rfl) rfl rfl fun a hF => q_end (n_sq (q_seq ?_))
   obtain ⟨j3, hj3, hb1⟩ := bindS hb1
   refine q_join (fun a w => ∃ (m21 : Mem), ∃ (s20 : Sl), ∃ t_18, ∃ p_x300_19, j3 = (t_18, p_x300_19) ∧ Fr a 27 [(0, s1.v), (1, s2.v), (2, (.func (.func 59) #[] #[(.pointer (some ⟨b_p_x300, 0, none⟩))])), (9, (.int .i64 t_4)), (10, (.int .i64 t_5)), (25, (.bool t_18))] ∧ St X w0 w m21 [[⟨b_p_x300, [s20.v], 24⟩]] ∧ MLe X w0.heap.size m8 m21 ∧ Rd m21 s20 p_x300_19 ∧ NF s20 p_x300_19) ?_ ?_
   ·refine q_region (q_x (v := s2.v) hF hS (ex_move rfl) rfl rfl fun a hF => q_x (v := s11.v) hF hS (ex_move rfl) rfl rfl fun a hF => ?_)
    obtain ⟨m13, hl13, hv13, hz13⟩ := hS.lend
    obtain ⟨t_12, ht_12, hj3⟩ := bindS hj3
    refine q_call (vs := [s2.v, s11.v]) hF hS Try.func85 (by kernel_rfl) rfl rfl rfl (c_impl_failsOne p_l t_9 t_12 ht_12 _ m13 hv13 s2 ((h2.mono hm8.le).mono hl13) s11 (h11.froz hl13 (hz13 0 _ rfl))) ?_
    rintro a w _ rfl hF hS
    refine q_x (v := (.bool (!t_12))) hF hS (ex_not rfl) rfl rfl fun a hF => q_x (v := (.bool (!t_12))) hF hS (ex_move rfl) rfl rfl fun a hF => ?_
    rcases bcase (!t_12) with hc4 | hc4
    ·have hj3 := cond_f hc4 hj3
     refine q_skip hF (wanted_f hF rfl rfl rfl hc4 rfl) rfl fun a hF => q_skip hF (wanted_f hF rfl rfl rfl hc4 rfl) rfl fun a hF => q_skip hF (wanted_f hF rfl rfl rfl hc4 rfl) rfl fun a hF => q_skip hF (wanted_f hF rfl rfl rfl hc4 rfl) rfl fun a hF => q_x (v := (.bool false)) hF hS (ex_pick_f rfl rfl hc4) rfl rfl fun a hF => q_end (n_jn ?_)
     obtain rfl := someI hj3
     exact ⟨m8, s7, _, _, rfl, hF.sub ⟨rfl, rfl, rfl, rfl, rfl, rfl, trivial⟩, hS.mask [false, true], (MLe.refl _ _), h7, h7n⟩
    ·have hj3 := cond_t hc4 hj3
     refine q_xg (v := (.func (.func 59) #[] #[(.pointer (some ⟨b_p_x300, 0, none⟩))])) hF hS (ex_move rfl) (wanted_t hF rfl rfl rfl hc4) rfl fun a hF => q_xg (v := s11.v) hF hS (ex_move rfl) (wanted_t hF rfl rfl rfl hc4) rfl fun a hF => ?_
     obtain ⟨m14, hm14, hS, hz14⟩ := hS.freeze
     have h14 := h11.froz hm14.le hz14
     have hS15 : St _ _ _ _ ([[⟨b_p_x300, [s7.v], 24⟩]] ++ []) := hS
     have hE15 := hS15.enter
     obtain ⟨t_16, ht_16, hj3⟩ := bindS hj3
     refine q_dog (wanted_t hF rfl rfl rfl hc4) fun _ hK => wp_callV (vs := [s11.v]) (cap := [(.pointer (some ⟨b_p_x300, 0, none⟩))]) hF rfl Try.func59 (by kernel_rfl) rfl rfl rfl (c_impl_FirstPassing_1 t_9 p_x300_6 t_16 ht_16 _ m14 b_p_x300 s11 h14 s7 (h7.mono hm14.le) h7n _ hE15) fun a w _ hR hF => hK _ _ ?_
     obtain ⟨m15', s17, rfl, hm15, hR15, h17, h17n⟩ := hR
     have hS : St _ _ _ _ [[⟨b_p_x300, [s17.v], 24⟩]] := hS15.leave hR15 hm15
     have hm15 := MLe.weakX hS15 hm15
     refine q_xg (v := (.bool (!t_16.1))) hF hS (ex_not rfl) (wanted_t hF rfl rfl rfl hc4) rfl fun a hF => q_x (v := (.bool (!t_16.1))) hF hS (ex_pick_t rfl rfl hc4) rfl rfl fun a hF => q_end (n_jn ?_)
     obtain rfl := someI hj3
     exact ⟨m15', s17, _, _, rfl, hF.sub ⟨rfl, rfl, rfl, rfl, rfl, rfl, trivial⟩, hS, (hm14.trans hm15), h17, h17n⟩
   ·rintro a w ⟨m21, s20, t_18, p_x300_19, rfl, hF, hS, hm21, h20, h20n⟩
    refine n_sq ?_
    rcases bcase (t_18) with hc5 | hc5
    ·have hb1 := cond_f hc5 hb1
     refine q_cond_f hF rfl hc5 (q_skipc (n_ib (n_sq (q_region (q_x (v := (.int .i64 (w64 (t_5 + 1)))) hF hS (ex_ibin rfl rfl rfl) rfl rfl fun a hF => q_x (v := (.int .i64 (w64 (t_5 + 1)))) hF hS (ex_move rfl) rfl rfl fun a hF => q_end ?_)))))
     obtain rfl := someI hb1
     exact ⟨rfl, m21, s20, _, _, rfl, hF.sub ⟨rfl, rfl, rfl, rfl, rfl, trivial⟩, hS, (hm8.trans hm21), h20, h20n⟩
    ·have hb1 := cond_t hc5 hb1
     refine q_cond_t hF rfl hc5 (q_ret (r_ib (r_sq ?_)))
     obtain rfl := someI hb1
     refine ⟨nofun, .inr fun ho => ?_⟩
     subst ho
     refine r_ib ?_
     obtain rfl := someI hr
     exact ret_ofX hF hS rfl .nil ⟨m21, s20, rfl, (hm8.trans hm21), hS.sel [0] (by decide), h20, h20n⟩
 ·rintro e a w ⟨m24, s23, p_x300_22, rfl, rfl, hF, hS, hm24, h23, h23n⟩
  refine x_ib (normal_ret ?_)
  obtain rfl := someI hr
  exact ret_ofX hF hS rfl .nil ⟨m24, s23, rfl, hm24, hS.sel [0] (by decide), h23, h23n⟩

theorem c_impl_FirstPassing (p_s : List impl_Variable) (p_l : List impl_Edit) (r : (List Int) × Bool) (hr : impl_FirstPassing p_s p_l = some r) (w0 : World) (m : Mem) (hv : Vis m w0) (s1 : Sl) (h1 : Rd m s1 p_s) (s2 : Sl) (h2 : Rd m s2 p_l) :
  Ret Try.prog 20 [s1.v, s2.v] w0 (fun v w => ∃ (m' : Mem) (s0' : Sl), v = (.tuple #[s0'.v, (.bool r.2)]) ∧ MLe [] w0.heap.size m m' ∧ St [] w0 w m' [] ∧ Rd m' s0' r.1 ∧ NF s0' r.1) := by
 unfold impl_FirstPassing at hr
 refine ret_start Try.func20 rfl 28 rfl rfl m hv fun a hF hS => q_seq (q_region (q_x (v := nilS.v) hF hS (ex_assign rfl) rfl rfl fun a hF => q_x (v := (.bool false)) hF hS (ex_assign rfl) rfl rfl fun a hF => q_end (n_sq (q_seq (q_seq ?_)))))
 obtain ⟨t_6, hj1, hr⟩ := bindS hr
 refine q_join (fun a w => Fr a 28 [(0, s1.v), (1, s2.v), (20, (.bool t_6))] ∧ St [] w0 w m []) ?_ ?_
 ·refine q_region (q_x (v := s1.v) hF hS (ex_move rfl) rfl rfl fun a hF => ?_)
  obtain ⟨t_3, ht_3, hj1⟩ := bindS hj1
  refine q_call (vs := [s1.v]) hF hS Try.func33 (by kernel_rfl) rfl rfl rfl (c_impl_IsSchema p_s t_3 ht_3 _ m hS.vis s1 h1) ?_
  rintro a w _ rfl hF hS
  refine q_x (v := (.bool (!t_3))) hF hS (ex_not rfl) rfl rfl fun a hF => q_x (v := (.bool (!t_3))) hF hS (ex_move rfl) rfl rfl fun a hF => ?_
  rcases bcase (!t_3) with hc2 | hc2
  ·have hj1 := cond_f hc2 hj1
   refine q_xg (v := s1.v) hF hS (ex_move rfl) (wanted_t hF rfl rfl rfl hc2) rfl fun a hF => q_xg (v := s2.v) hF hS (ex_move rfl) (wanted_t hF rfl rfl rfl hc2) rfl fun a hF => ?_
   obtain ⟨t_4, ht_4, hj1⟩ := bindS hj1
   refine q_callg (vs := [s1.v, s2.v]) hF hS (wanted_t hF rfl rfl rfl hc2) Try.func56 (by kernel_rfl) rfl rfl rfl (c_impl_areEdits p_s p_l t_4 ht_4 _ m hS.vis s1 h1 s2 h2) ?_
   rintro a w _ rfl hF hS
   refine q_xg (v := (.bool (!t_4))) hF hS (ex_not rfl) (wanted_t hF rfl rfl rfl hc2) rfl fun a hF => q_x (v := (.bool (!t_4))) hF hS (ex_pick_f rfl rfl hc2) rfl rfl fun a hF => q_x (v := (.bool (!t_4))) hF hS (ex_move rfl) rfl rfl fun a hF => ?_
   rcases bcase (!t_4) with hc3 | hc3
   ·have hj1 := cond_f hc3 hj1
    refine q_xg (v := s1.v) hF hS (ex_move rfl) (wanted_t hF rfl rfl rfl hc3) rfl fun a hF => ?_
    obtain ⟨t_5, ht_5, hj1⟩ := bindS hj1
    refine q_callg (vs := [s1.v]) hF hS (wanted_t hF rfl rfl rfl hc3) Try.func57 (by kernel_rfl) rfl rfl rfl (c_impl_combinations p_s t_5 ht_5 _ m hS.vis s1 h1) ?_
    rintro a w _ rfl hF hS
    refine q_xg (v := (.bool (decide (20000 < t_5)))) hF hS (ex_ibin rfl rfl rfl) (wanted_t hF rfl rfl rfl hc3) rfl fun a hF => q_x (v := (.bool (decide (20000 < t_5)))) hF hS (ex_pick_f rfl rfl hc3) rfl rfl fun a hF => q_end (n_jn ?_)
    obtain rfl := someI hj1
    exact ⟨hF.sub ⟨rfl, rfl, rfl, trivial⟩, hS⟩
   ·have hj1 := cond_t hc3 hj1
    refine q_skip hF (wanted_f hF rfl rfl rfl hc3 rfl) rfl fun a hF => q_skip hF (wanted_f hF rfl rfl rfl hc3 rfl) rfl fun a hF => q_skip hF (wanted_f hF rfl rfl rfl hc3 rfl) rfl fun a hF => q_x (v := (.bool true)) hF hS (ex_pick_t rfl rfl hc3) rfl rfl fun a hF => q_end (n_jn ?_)
    obtain rfl := someI hj1
    exact ⟨hF.sub ⟨rfl, rfl, rfl, trivial⟩, hS⟩
  ·have hj1 := cond_t hc2 hj1
   refine q_skip hF (wanted_f hF rfl rfl rfl hc2 rfl) rfl fun a hF => q_skip hF (wanted_f hF rfl rfl rfl hc2 rfl) rfl fun a hF => q_skip hF (wanted_f hF rfl rfl rfl hc2 rfl) rfl fun a hF => q_skip hF (wanted_f hF rfl rfl rfl hc2 rfl) rfl fun a hF => q_x (v := (.bool true)) hF hS (ex_pick_t rfl rfl hc2) rfl rfl fun a hF => q_x (v := (.bool true)) hF hS (ex_move rfl) rfl rfl fun a hF => q_skip hF (wanted_f hF rfl rfl rfl rfl rfl) rfl fun a hF => q_skip hF (wanted_f hF rfl rfl rfl rfl rfl) rfl fun a hF => q_skip hF (wanted_f hF rfl rfl rfl rfl rfl) rfl fun a hF => q_x (v := (.bool true)) hF hS (ex_pick_t rfl rfl rfl) rfl rfl fun a hF => q_end (n_jn ?_)
   obtain rfl := someI hj1
   exact ⟨hF.sub ⟨rfl, rfl, rfl, trivial⟩, hS⟩
 ·rintro a w ⟨hF, hS⟩
  refine n_sq ?_
  rcases bcase (t_6) with hc4 | hc4
  ·have hr := cond_f hc4 hr
   refine q_cond_f hF rfl hc4 (q_skipc (n_sq (q_seq (q_region (q_alloc (cs := [nilS.v]) hF hS rfl rfl rfl fun a w b7 hF hS => q_end (n_sq (q_seq (q_region (q_x (v := s1.v) hF hS (ex_move rfl) rfl rfl fun a hF => q_x (v := s2.v) hF hS (ex_move rfl) rfl rfl fun a hF => q_x (v := (.func (.func 59) #[] #[(.pointer (some ⟨b7, 0, none⟩))])) hF hS (ex_makeFunc rfl) rfl rfl fun a hF => ?_)))))))))
   have hS8 : St _ _ _ _ ([[⟨b7, [nilS.v], 24⟩]] ++ []) := hS
   have hE8 := hS8.enter
   obtain ⟨t_9, ht_9, hr⟩ := bindS hr
   refine q_do rfl fun _ hK => wp_callX (vs := [s1.v, s2.v, (.func (.func 59) #[] #[(.pointer (some ⟨b7, 0, none⟩))])]) hF Try.func58 (by kernel_rfl) rfl rfl rfl (c_impl_passing_of_impl_FirstPassing_1 p_s p_l ([] : List Int) t_9 ht_9 _ m b7 s1 h1 s2 h2 nilS (Rd.nil0 _) (NF.nil) _ hE8) fun a w _ hR hF => hK _ _ ?_
   obtain ⟨m8', s10, rfl, hm8, hR8, h10, h10n⟩ := hR
   have hS : St _ _ _ _ [[⟨b7, [s10.v], 24⟩]] := hS8.leave hR8 hm8
   have hm8 := MLe.weakX hS8 hm8
   refine q_end (n_sq (q_seq (e_region ⟨[], []⟩ mixed fun w' hw' => ?_)))
   have hS := hS.below hw'
   refine e_x (v := s10.v) 0 hF hS rfl (ex_load1 0 0 Try.underlying24 rfl rfl rfl rfl) rfl rfl (by kernel_rfl) (by kernel_rfl) (by kernel_rfl) (by kernel_rfl) fun a hF => e_x (v := s10.v) 1 hF hS rfl (ex_load1 0 0 Try.underlying24 rfl rfl rfl rfl) rfl rfl (by kernel_rfl) (by kernel_rfl) (by kernel_rfl) (by kernel_rfl) fun a hF => e_p (v := (.bool (!t_9.isEmpty))) 2 hF rfl (ex_neNilF Try.underlying24 h10n h10.nilE rfl rfl) rfl rfl (by kernel_rfl) (by kernel_rfl) (by kernel_rfl) fun a hF => e_p (v := s10.v) 3 hF rfl (ex_assign rfl) rfl rfl (by kernel_rfl) (by kernel_rfl) (by kernel_rfl) fun a hF => e_p (v := (.bool (!t_9.isEmpty))) 4 hF rfl (ex_assign rfl) rfl rfl (by kernel_rfl) (by kernel_rfl) (by kernel_rfl) fun a hF => e_end (by kernel_rfl) (n_sq (q_ret ?_)) _
   obtain rfl := someI hr
   exact ret_of hF hS rfl (.tmp rfl (.tmp rfl .nil)) ⟨m8', s10, rfl, hm8, hS.sel [] (by decide), h10, h10n⟩
  ·have hr := cond_t hc4 hr
   refine q_cond_t hF rfl hc4 (q_seq (q_region (q_x (v := nilS.v) hF hS (ex_assign rfl) rfl rfl fun a hF => q_x (v := (.bool false)) hF hS (ex_assign rfl) rfl rfl fun a hF => q_end (n_sq (q_ret (r_sq ?_))))))
   obtain rfl := someI hr
   exact ret_of hF hS rfl (.tmp rfl (.tmp rfl .nil)) ⟨m, nilS, rfl, (MLe.refl _ _), hS.sel [] (by decide), (Rd.nil0 (α := Int) m), (NF.nil)⟩

theorem c_spec_eGood (p_s : List impl_Variable) (p_e : impl_Edit) (r : Bool) (hr : spec_eGood p_s p_e = some r) (w0 : World) (m : Mem) (hv : Vis m w0) (s1 : Sl) (h1 : Rd m s1 p_s) (s2 : Sl) (h2 : Rd m s2 p_e.Sets) :
  Ret Try.prog 86 [s1.v, (.agg #[s2.v])] w0 (fun v _ => v = (.bool r)) := by
 unfold spec_eGood at hr
 refine ret_start Try.func86 rfl 28 rfl rfl m hv fun a hF hS => q_seq (q_region (q_box (cs := [s2.v]) hF hS rfl rfl rfl fun a w b3 hF hS => q_x (v := (.bool false)) hF hS (ex_assign rfl) rfl rfl fun a hF => q_end (n_sq (q_seq (q_seq (q_region (q_x (v := (.pointer (some ⟨b3, 0, none⟩))) hF hS (ex_fieldAddr Try.underlying93 rfl sz24 rfl rfl) rfl rfl fun a hF => q_x (v := s2.v) hF hS (ex_load1 0 0 Try.underlying24 rfl rfl rfl rfl) rfl rfl fun a hF => q_x (v := (.int .i64 (goLen p_e.Sets))) hF hS (ex_len Try.underlying24 rfl h2.len) rfl rfl fun a hF => q_x (v := s1.v) hF hS (ex_move rfl) rfl rfl fun a hF => q_x (v := (.int .i64 (goLen p_s))) hF hS (ex_len Try.underlying23 rfl h1.len) rfl rfl fun a hF => q_x (v := (.bool ((goLen p_e.Sets) != (goLen p_s)))) hF hS (ex_ibin rfl rfl rfl) rfl rfl fun a hF => q_end (n_sq ?_))))))))
 rcases bcase ((goLen p_e.Sets) != (goLen p_s)) with hc1 | hc1
 ·have hr := cond_f hc1 hr
  refine q_cond_f hF rfl hc1 (q_skipc (n_sq (q_seq (q_seq (q_region (q_x (v := (.pointer (some ⟨b3, 0, none⟩))) hF hS (ex_fieldAddr Try.underlying93 rfl sz24 rfl rfl) rfl rfl fun a hF => q_x (v := s2.v) hF hS (ex_load1 0 0 Try.underlying24 rfl rfl rfl rfl) rfl rfl fun a hF => q_x (v := (.int .i64 (goLen p_e.Sets))) hF hS (ex_len Try.underlying24 rfl h2.len) rfl rfl fun a hF => q_x (v := (.int .i64 0)) hF hS (ex_move rfl) rfl rfl fun a hF => q_end (n_sq (q_block ?_))))))))
  obtain ⟨o2, hl2, hr⟩ := bindS hr
  refine q_loop (fun (t_4 : Int) a w => Fr a 28 [(0, s1.v), (14, s2.v), (15, (.int .i64 (goLen p_e.Sets))), (16, (.int .i64 t_4))] ∧ St [] w0 w m []) (fun (o : (Unit) ⊕ (Bool)) e a w => o = .inl () ∧ e = .exit 0 ∧ Fr a 28 [] ∧ St [] w0 w m []) hl2 ⟨hF.sub ⟨rfl, rfl, rfl, rfl, trivial⟩, hS.mask [false]⟩ ?_ ?_
  ·clear hF hS
   rintro t_4 a w st ⟨hF, hS⟩ hb2
   unfold spec_eGood_l1 at hb2
   refine q_seq (q_region (q_x (v := (.bool (decide (t_4 < (goLen p_e.Sets))))) hF hS (ex_ibin rfl rfl rfl) rfl rfl fun a hF => q_end (n_sq (q_seq ?_))))
   rcases bcase (decide (t_4 < (goLen p_e.Sets))) with hc3 | hc3
   ·have hb2 := cond_f hc3 hb2
    refine q_cond_f hF rfl hc3 (q_exit (x_sq ?_))
    obtain rfl := someI hb2
    exact ⟨nofun, .inl ⟨rfl, rfl, hF.sub trivial, hS⟩⟩
   ·have hb2 := cond_t hc3 hb2
    refine q_cond_t hF rfl hc3 (q_skipc (n_sq (q_seq (q_block (q_seq (q_region (q_x (v := (.int .i64 t_4)) hF hS (ex_move rfl) rfl rfl fun a hF => ?_)))))))
    obtain ⟨e_5, he_5, hb2⟩ := bindS hb2
    obtain ⟨vs6, at6, d6⟩ := h2.at he_5 1 rfl
    obtain rfl : vs6 = [(.int .i64 e_5)] := d6
    refine q_x (v := (elP s2 (t_4.toNat * 1))) hF hS (ex_indexAddr Try.underlying24 sz3 rfl rfl (h2.idx he_5)) rfl rfl fun a hF => q_x (v := (.int .i64 e_5)) hF hS (ex_loadE1 0 Try.underlying3 rfl rfl ((at6).at) rfl rfl) rfl rfl fun a hF => q_x (v := (.int .i64 t_4)) hF hS (ex_assign rfl) rfl rfl fun a hF => q_x (v := (.int .i64 e_5)) hF hS (ex_assign rfl) rfl rfl fun a hF => q_end (n_sq (q_seq (q_region (q_x (v := (.int .i64 e_5)) hF hS (ex_move rfl) rfl rfl fun a hF => q_x (v := s1.v) hF hS (ex_move rfl) rfl rfl fun a hF => q_x (v := (.int .i64 t_4)) hF hS (ex_move rfl) rfl rfl fun a hF => ?_))))
    obtain ⟨t_7, ht_7, hb2⟩ := bindS hb2
    refine q_call (vs := [s1.v, (.int .i64 t_4)]) hF hS Try.func91 (by kernel_rfl) rfl rfl rfl (c_spec_eFull p_s t_4 t_7 ht_7 _ m hS.vis s1 h1) ?_
    rintro a w _ rfl hF hS
    obtain ⟨t_8, ht_8, hb2⟩ := bindS hb2
    refine q_call (vs := [(.int .i64 e_5), (.int .i64 1), (.int .i64 t_7)]) hF hS Try.func42 (by kernel_rfl) rfl rfl rfl (c_spec_l1In e_5 1 t_7 t_8 ht_8 _ m hS.vis) ?_
    rintro a w _ rfl hF hS
    refine q_x (v := (.bool (!t_8))) hF hS (ex_not rfl) rfl rfl fun a hF => q_end (n_sq ?_)
    rcases bcase (!t_8) with hc4 | hc4
    ·have hb2 := cond_f hc4 hb2
     refine q_cond_f hF rfl hc4 (q_skipc (n_ib (n_sq (q_region (q_x (v := (.int .i64 (w64 (t_4 + 1)))) hF hS (ex_ibin rfl rfl rfl) rfl rfl fun a hF => q_x (v := (.int .i64 (w64 (t_4 + 1)))) hF hS (ex_move rfl) rfl rfl fun a hF => q_end ?_)))))
     obtain rfl := someI hb2
     exact ⟨rfl, hF.sub ⟨rfl, rfl, rfl, rfl, trivial⟩, hS⟩
    ·have hb2 := cond_t hc4 hb2
     refine q_cond_t hF rfl hc4 (q_seq (q_region (q_x (v := (.bool false)) hF hS (ex_assign rfl) rfl rfl fun a hF => q_end (n_sq (q_ret (r_ib (r_sq ?_)))))))
     obtain rfl := someI hb2
     refine ⟨nofun, .inr fun ho => ?_⟩
     subst ho
     refine r_ib (r_sq ?_)
     obtain rfl := someI hr
     exact ret_of hF hS rfl (.tmp rfl .nil) rfl
  ·rintro e a w ⟨rfl, rfl, hF, hS⟩
   refine x_ib (n_sq ?_)
   refine q_seq (q_region (q_x (v := (.bool true)) hF hS (ex_assign rfl) rfl rfl fun a hF => q_end (n_sq (q_ret ?_))))
   obtain rfl := someI hr
   exact ret_of hF hS rfl (.tmp rfl .nil) rfl
 ·have hr := cond_t hc1 hr
  refine q_cond_t hF rfl hc1 (q_seq (q_region (q_x (v := (.bool false)) hF hS (ex_assign rfl) rfl rfl fun a hF => q_end (n_sq (q_ret (r_sq ?_))))))
  obtain rfl := someI hr
  exact ret_of hF hS rfl (.tmp rfl .nil) rfl

theorem c_spec_eList (p_s : List impl_Variable) (p_l : List impl_Edit) (r : Bool) (hr : spec_eList p_s p_l = some r) (w0 : World) (m : Mem) (hv : Vis m w0) (s1 : Sl) (h1 : Rd m s1 p_s) (s2 : Sl) (h2 : Rd m s2 p_l) :
  Ret Try.prog 60 [s1.v, s2.v] w0 (fun v _ => v = (.bool r)) := by
 unfold spec_eList at hr
 refine ret_start Try.func60 rfl 26 rfl rfl m hv fun a hF hS => q_seq (q_region (q_x (v := (.bool false)) hF hS (ex_assign rfl) rfl rfl fun a hF => q_end (n_sq (q_seq (q_seq ?_)))))
 obtain ⟨t_4, hj1, hr⟩ := bindS hr
 refine q_join (fun a w => Fr a 26 [(0, s1.v), (1, s2.v), (14, (.bool t_4))] ∧ St [] w0 w m []) ?_ ?_
 ·refine q_region (q_x (v := s1.v) hF hS (ex_move rfl) rfl rfl fun a hF => ?_)
  obtain ⟨t_3, ht_3, hj1⟩ := bindS hj1
  refine q_call (vs := [s1.v]) hF hS Try.func49 (by kernel_rfl) rfl rfl rfl (c_spec_sGood p_s t_3 ht_3 _ m hS.vis s1 h1) ?_
  rintro a w _ rfl hF hS
  refine q_x (v := (.bool (!t_3))) hF hS (ex_not rfl) rfl rfl fun a hF => q_x (v := (.bool (!t_3))) hF hS (ex_move rfl) rfl rfl fun a hF => ?_
  rcases bcase (!t_3) with hc2 | hc2
  ·have hj1 := cond_f hc2 hj1
   refine q_xg (v := s2.v) hF hS (ex_move rfl) (wanted_t hF rfl rfl rfl hc2) rfl fun a hF => q_xg (v := (.int .i64 (goLen p_l))) hF hS (ex_len Try.underlying48 rfl h2.len) (wanted_t hF rfl rfl rfl hc2) rfl fun a hF => q_xg (v := (.bool (decide (40 < (goLen p_l))))) hF hS (ex_ibin rfl rfl rfl) (wanted_t hF rfl rfl rfl hc2) rfl fun a hF => q_x (v := (.bool (decide (40 < (goLen p_l))))) hF hS (ex_pick_f rfl rfl hc2) rfl rfl fun a hF => q_end (n_jn ?_)
   obtain rfl := someI hj1
   exact ⟨hF.sub ⟨rfl, rfl, rfl, trivial⟩, hS⟩
  ·have hj1 := cond_t hc2 hj1
   refine q_skip hF (wanted_f hF rfl rfl rfl hc2 rfl) rfl fun a hF => q_skip hF (wanted_f hF rfl rfl rfl hc2 rfl) rfl fun a hF => q_skip hF (wanted_f hF rfl rfl rfl hc2 rfl) rfl fun a hF => q_x (v := (.bool true)) hF hS (ex_pick_t rfl rfl hc2) rfl rfl fun a hF => q_end (n_jn ?_)
   obtain rfl := someI hj1
   exact ⟨hF.sub ⟨rfl, rfl, rfl, trivial⟩, hS⟩
 ·rintro a w ⟨hF, hS⟩
  refine n_sq ?_
  rcases bcase (t_4) with hc3 | hc3
  ·have hr := cond_f hc3 hr
   refine q_cond_f hF rfl hc3 (q_skipc (n_sq (q_seq (q_seq (q_region (q_x (v := s2.v) hF hS (ex_move rfl) rfl rfl fun a hF => q_x (v := (.int .i64 (goLen p_l))) hF hS (ex_len Try.underlying48 rfl h2.len) rfl rfl fun a hF => q_x (v := (.int .i64 0)) hF hS (ex_move rfl) rfl rfl fun a hF => q_end (n_sq (q_block ?_))))))))
   obtain ⟨o4, hl4, hr⟩ := bindS hr
   refine q_loop (fun (t_5 : Int) a w => Fr a 26 [(0, s1.v), (15, s2.v), (16, (.int .i64 (goLen p_l))), (17, (.int .i64 t_5))] ∧ St [] w0 w m []) (fun (o : (Unit) ⊕ (Bool)) e a w => o = .inl () ∧ e = .exit 0 ∧ Fr a 26 [] ∧ St [] w0 w m []) hl4 ⟨hF.sub ⟨rfl, rfl, rfl, rfl, trivial⟩, hS⟩ ?_ ?_
   ·clear hF hS
    rintro t_5 a w st ⟨hF, hS⟩ hb4
    unfold spec_eList_l1 at hb4
    refine q_seq (q_region (q_x (v := (.bool (decide (t_5 < (goLen p_l))))) hF hS (ex_ibin rfl rfl rfl) rfl rfl fun a hF => q_end (n_sq (q_seq ?_))))
    rcases bcase (decide (t_5 < (goLen p_l))) with hc5 | hc5
    ·have hb4 := cond_f hc5 hb4
     refine q_cond_f hF rfl hc5 (q_exit (x_sq ?_))
     obtain rfl := someI hb4
     exact ⟨nofun, .inl ⟨rfl, rfl, hF.sub trivial, hS⟩⟩
    ·have hb4 := cond_t hc5 hb4
     refine q_cond_t hF rfl hc5 (q_skipc (n_sq (q_seq (q_block (q_seq (q_region ?_))))))
     obtain ⟨e_6, he_6, hb4⟩ := bindS hb4
     obtain ⟨vs7, at7, d7⟩ := h2.at he_6 1 rfl
     obtain ⟨s8, rfl, h8⟩ : ∃ s8 : Sl, vs7 = [s8.v] ∧ Rd m s8 e_6.Sets := d7
     refine q_x (v := (elP s2 (t_5.toNat * 1))) hF hS (ex_indexAddr Try.underlying48 sz93 rfl rfl (h2.idx he_6)) rfl rfl fun a hF => q_x (v := (.agg #[s8.v])) hF hS (ex_loadEA (us := [s8.v]) 0 Try.underlying93 rfl sz93 rfl ((at7).at) rfl rfl rfl) rfl rfl fun a hF => q_alloc (cs := [nilS.v]) hF hS rfl rfl rfl fun a w b9 hF hS => q_store (vs := [s8.v]) (cs' := [s8.v]) 0 0 hF hS sz93 rfl rfl rfl rfl rfl rfl rfl rfl fun a w hF hS => q_end (n_sq (q_seq (q_region (q_x (v := s1.v) hF hS (ex_move rfl) rfl rfl fun a hF => q_x (v := (.agg #[s8.v])) hF hS (ex_loadA (vs := [s8.v]) 0 0 Try.underlying93 rfl sz93 rfl rfl rfl rfl) rfl rfl fun a hF => ?_))))
     obtain ⟨t_10, ht_10, hb4⟩ := bindS hb4
     refine q_call (vs := [s1.v, (.agg #[s8.v])]) hF hS Try.func86 (by kernel_rfl) rfl rfl rfl (c_spec_eGood p_s e_6 t_10 ht_10 _ m hS.vis s1 h1 s8 h8) ?_
     rintro a w _ rfl hF hS
     refine q_x (v := (.bool (!t_10))) hF hS (ex_not rfl) rfl rfl fun a hF => q_end (n_sq ?_)
     rcases bcase (!t_10) with hc6 | hc6
     ·have hb4 := cond_f hc6 hb4
      refine q_cond_f hF rfl hc6 (q_skipc (n_ib (n_sq (q_region (q_x (v := (.int .i64 (w64 (t_5 + 1)))) hF hS (ex_ibin rfl rfl rfl) rfl rfl fun a hF => q_x (v := (.int .i64 (w64 (t_5 + 1)))) hF hS (ex_move rfl) rfl rfl fun a hF => q_end ?_)))))
      obtain rfl := someI hb4
      exact ⟨rfl, hF.sub ⟨rfl, rfl, rfl, rfl, trivial⟩, hS.mask [false]⟩
     ·have hb4 := cond_t hc6 hb4
      refine q_cond_t hF rfl hc6 (q_seq (q_region (q_x (v := (.bool false)) hF hS (ex_assign rfl) rfl rfl fun a hF => q_end (n_sq (q_ret (r_ib (r_sq ?_)))))))
      obtain rfl := someI hb4
      refine ⟨nofun, .inr fun ho => ?_⟩
      subst ho
      refine r_ib (r_sq ?_)
      obtain rfl := someI hr
      exact ret_of hF hS rfl (.tmp rfl .nil) rfl
   ·rintro e a w ⟨rfl, rfl, hF, hS⟩
    refine x_ib (n_sq ?_)
    refine q_seq (q_region (q_x (v := (.bool true)) hF hS (ex_assign rfl) rfl rfl fun a hF => q_end (n_sq (q_ret ?_))))
    obtain rfl := someI hr
    exact ret_of hF hS rfl (.tmp rfl .nil) rfl
  ·have hr := cond_t hc3 hr
   refine q_cond_t hF rfl hc3 (q_seq (q_region (q_x (v := (.bool false)) hF hS (ex_assign rfl) rfl rfl fun a hF => q_end (n_sq (q_ret (r_sq ?_))))))
   obtain rfl := someI hr
   exact ret_of hF hS rfl (.tmp rfl .nil) rfl

theorem c_spec_sCount (p_s : List impl_Variable) (r : Int) (hr : spec_sCount p_s = some r) (w0 : World) (m : Mem) (hv : Vis m w0) (s1 : Sl) (h1 : Rd m s1 p_s) :
  Ret Try.prog 61 [s1.v] w0 (fun v _ => v = (.int .i64 r)) := by
 unfold spec_sCount at hr
 refine ret_start Try.func61 rfl 18 rfl rfl m hv fun a hF hS => q_seq (q_region (q_x (v := (.int .i64 0)) hF hS (ex_assign rfl) rfl rfl fun a hF => q_end (n_sq (q_seq (q_region (q_x (v := (.int .i64 1)) hF hS (ex_assign rfl) rfl rfl fun a hF => q_end (n_sq (q_seq (q_seq (q_region (q_x (v := s1.v) hF hS (ex_move rfl) rfl rfl fun a hF => q_x (v := (.int .i64 (goLen p_s))) hF hS (ex_len Try.underlying23 rfl h1.len) rfl rfl fun a hF => q_x (v := (.int .i64 0)) hF hS (ex_move rfl) rfl rfl fun a hF => q_end (n_sq (q_block ?_)))))))))))))
 obtain ⟨n_7, hl1, hr⟩ := bindS hr
 refine q_loop (fun (s : Int × Int) a w => ∃ n_2, ∃ t_3, s = (n_2, t_3) ∧ Fr a 18 [(3, (.int .i64 n_2)), (6, s1.v), (7, (.int .i64 (goLen p_s))), (8, (.int .i64 t_3))] ∧ St [] w0 w m []) (fun (n_7 : Int) e a w => e = .exit 0 ∧ Fr a 18 [(3, (.int .i64 n_7))] ∧ St [] w0 w m []) hl1 ⟨_, _, rfl, hF.sub ⟨rfl, rfl, rfl, rfl, trivial⟩, hS⟩ ?_ ?_
 ·clear hF hS
  rintro s a w st ⟨n_2, t_3, rfl, hF, hS⟩ hb1
  unfold spec_sCount_l1 at hb1
  refine q_seq (q_region (q_x (v := (.bool (decide (t_3 < (goLen p_s))))) hF hS (ex_ibin rfl rfl rfl) rfl rfl fun a hF => q_end (n_sq (q_seq ?_))))
  rcases bcase (decide (t_3 < (goLen p_s))) with hc2 | hc2
  ·have hb1 := cond_f hc2 hb1
   refine q_cond_f hF rfl hc2 (q_exit (x_sq ?_))
   obtain rfl := someI hb1
   exact ⟨nofun, .inl ⟨rfl, hF.sub ⟨rfl, trivial⟩, hS⟩⟩
  ·have hb1 := cond_t hc2 hb1
   refine q_cond_t hF rfl hc2 (q_skipc (n_sq (q_seq (q_block (q_seq (q_region ?_))))))
   obtain ⟨e_4, he_4, hb1⟩ := bindS hb1
   obtain ⟨vs5, at5, d5⟩ := h1.at he_4 2 rfl
   obtain rfl : vs5 = [(strV e_4.Name), (.int .i64 e_4.Levels)] := d5
   refine q_x (v := (elP s1 (t_3.toNat * 2))) hF hS (ex_indexAddr Try.underlying23 sz85 rfl rfl (h1.idx he_4)) rfl rfl fun a hF => q_x (v := (.agg #[(strV e_4.Name), (.int .i64 e_4.Levels)])) hF hS (ex_loadEA (us := [(strV e_4.Name), (.int .i64 e_4.Levels)]) 0 Try.underlying85 rfl sz85 rfl ((at5).at) rfl rfl rfl) rfl rfl fun a hF => q_alloc (cs := [(strV ([] : List UInt8)), (.int .i64 0)]) hF hS rfl rfl rfl fun a w b6 hF hS => q_store (vs := [(strV e_4.Name), (.int .i64 e_4.Levels)]) (cs' := [(strV e_4.Name), (.int .i64 e_4.Levels)]) 0 0 hF hS sz85 rfl rfl rfl rfl rfl rfl rfl rfl fun a w hF hS => q_end (n_sq (q_region (q_x (v := (.int .i64 n_2)) hF hS (ex_move rfl) rfl rfl fun a hF => q_x (v := (.pointer (some ⟨b6, 1, none⟩))) hF hS (ex_fieldAddr Try.underlying85 rfl sz3 rfl rfl) rfl rfl fun a hF => q_x (v := (.int .i64 e_4.Levels)) hF hS (ex_load1 0 0 Try.underlying3 rfl rfl rfl rfl) rfl rfl fun a hF => q_x (v := (.int .i64 (w64 (n_2 * e_4.Levels)))) hF hS (ex_ibin rfl rfl rfl) rfl rfl fun a hF => q_x (v := (.int .i64 (w64 (n_2 * e_4.Levels)))) hF hS (ex_assign rfl) rfl rfl fun a hF => q_end (n_ib (n_sq (q_region (q_x (v := (.int .i64 (w64 (t_3 + 1)))) hF hS (ex_ibin rfl rfl rfl) rfl rfl fun a hF => q_x (v := (.int .i64 (w64 (t_3 + 1)))) hF hS (ex_move rfl) rfl rfl fun a hF => q_end ?_)))))))
   obtain rfl := someI hb1
   exact ⟨rfl, _, _, rfl, hF.sub ⟨rfl, rfl, rfl, rfl, trivial⟩, hS.mask [false]⟩
 ·rintro e a w ⟨rfl, hF, hS⟩
  refine x_ib (n_sq ?_)
  refine q_seq (q_region (q_x (v := (.int .i64 n_7)) hF hS (ex_move rfl) rfl rfl fun a hF => q_x (v := (.int .i64 n_7)) hF hS (ex_assign rfl) rfl rfl fun a hF => q_end (n_sq (q_ret ?_))))
  obtain rfl := someI hr
  exact ret_of hF hS rfl (.tmp rfl .nil) rfl

theorem c_spec_sAt (p_s : List impl_Variable) (p_i : Int) (r : (List Int)) (hr : spec_sAt p_s p_i = some r) (w0 : World) (m : Mem) (hv : Vis m w0) (s1 : Sl) (h1 : Rd m s1 p_s) :
  Ret Try.prog 87 [s1.v, (.int .i64 p_i)] w0 (fun v w => ∃ (q0' : Piece) (s0' : Sl), v = s0'.v ∧ St [] w0 w m [q0'] ∧ OwnL m 3 q0' s0' r) := by
 unfold spec_sAt at hr
 refine ret_start Try.func87 rfl 35 rfl rfl m hv fun a hF hS => q_seq (q_region (q_x (v := nilS.v) hF hS (ex_assign rfl) rfl rfl fun a hF => q_end (n_sq (q_seq (q_region (q_x (v := s1.v) hF hS (ex_move rfl) rfl rfl fun a hF => q_x (v := (.int .i64 (goLen p_s))) hF hS (ex_len Try.underlying23 rfl h1.len) rfl rfl fun a hF => ?_))))))
 obtain ⟨l_2, hl_2, hr⟩ := bindS hr
 refine q_do rfl fun _ hK => wp_make (z := (0 : Int)) hF hS Try.underlying24 inf3 rfl rfl rfl rfl rfl (by decide) hl_2 rfl fun a w q3 s3 hF hS h3 _ => hK _ _ (q_x (v := s3.v) hF hS (ex_assign rfl) rfl rfl fun a hF => q_end (n_sq (q_seq (q_seq (q_region (q_x (v := s1.v) hF hS (ex_move rfl) rfl rfl fun a hF => q_x (v := (.int .i64 (goLen p_s))) hF hS (ex_len Try.underlying23 rfl h1.len) rfl rfl fun a hF => q_x (v := (.int .i64 (w64 ((goLen p_s) - 1)))) hF hS (ex_ibin rfl rfl rfl) rfl rfl fun a hF => q_x (v := (.int .i64 (w64 ((goLen p_s) - 1)))) hF hS (ex_assign rfl) rfl rfl fun a hF => q_end (n_sq (q_block ?_))))))))
 obtain ⟨out_17, hl1, hr⟩ := bindS hr
 refine q_loop (fun (s : Int × (List Int) × Int) a w => ∃ (q6 : Piece), ∃ i_4, ∃ out_5, ∃ k_7, s = (i_4, out_5, k_7) ∧ Fr a 35 [(0, s1.v), (1, (.int .i64 i_4)), (5, s3.v), (6, (.int .i64 k_7))] ∧ St [] w0 w m [q6] ∧ OwnL m 3 q6 s3 out_5) (fun (out_17 : (List Int)) e a w => ∃ (q18 : Piece), e = .exit 0 ∧ Fr a 35 [(5, s3.v)] ∧ St [] w0 w m [q18] ∧ OwnL m 3 q18 s3 out_17) hl1 ⟨q3, _, _, _, rfl, hF.sub ⟨rfl, rfl, rfl, rfl, trivial⟩, hS, h3⟩ ?_ ?_
 ·clear hF hS
  rintro s a w st ⟨q6, i_4, out_5, k_7, rfl, hF, hS, h6⟩ hb1
  unfold spec_sAt_l1 at hb1
  refine q_seq (q_seq (q_region (q_x (v := (.int .i64 k_7)) hF hS (ex_move rfl) rfl rfl fun a hF => q_x (v := (.bool (decide (0 ≤ k_7)))) hF hS (ex_ibin rfl rfl rfl) rfl rfl fun a hF => q_end (n_sq ?_))))
  rcases bcase (decide (0 ≤ k_7)) with hc2 | hc2
  ·have hb1 := cond_f hc2 hb1
   refine q_cond_f hF rfl hc2 (q_exit (x_sq ?_))
   obtain rfl := someI hb1
   exact ⟨nofun, .inl ⟨q6, rfl, hF.sub ⟨rfl, trivial⟩, hS, h6⟩⟩
  ·have hb1 := cond_t hc2 hb1
   refine q_cond_t hF rfl hc2 (q_skipc (n_sq (q_seq (q_block (q_seq (q_region (q_x (v := s3.v) hF hS (ex_move rfl) rfl rfl fun a hF => q_x (v := (.int .i64 k_7)) hF hS (ex_move rfl) rfl rfl fun a hF => q_x (v := (.int .i64 i_4)) hF hS (ex_move rfl) rfl rfl fun a hF => q_x (v := s1.v) hF hS (ex_move rfl) rfl rfl fun a hF => q_x (v := (.int .i64 k_7)) hF hS (ex_move rfl) rfl rfl fun a hF => ?_)))))))
   obtain ⟨e_8, he_8, hb1⟩ := bindS hb1
   obtain ⟨vs9, at9, d9⟩ := h1.at he_8 2 rfl
   obtain rfl : vs9 = [(strV e_8.Name), (.int .i64 e_8.Levels)] := d9
   refine q_x (v := (elP s1 (k_7.toNat * 2))) hF hS (ex_indexAddr Try.underlying23 sz85 rfl rfl (h1.idx he_8)) rfl rfl fun a hF => q_x (v := (elP s1 (k_7.toNat * 2 + 1))) hF hS (ex_fieldAddrE Try.underlying85 rfl sz3 rfl (h1.idx he_8) rfl) rfl rfl fun a hF => q_x (v := (.int .i64 e_8.Levels)) hF hS (ex_loadE1 1 Try.underlying3 rfl rfl ((at9).at) rfl rfl) rfl rfl fun a hF => ?_
   obtain ⟨t_10, ht_10, hb1⟩ := bindS hb1
   refine q_x (v := (.int .i64 t_10)) hF hS (ex_rem rfl rfl ht_10) rfl rfl fun a hF => ?_
   obtain ⟨e_11, he_11, hb1⟩ := bindS hb1
   obtain ⟨vs12, at12, d12⟩ := h6.at he_11 1 rfl
   obtain rfl : vs12 = [(.int .i64 e_11)] := d12
   refine q_x (v := (elP s3 (k_7.toNat * 1))) hF hS (ex_indexAddr Try.underlying24 sz3 rfl rfl (h6.idx he_11)) rfl rfl fun a hF => q_do rfl fun _ hK => wp_storeE (e' := t_10) (us := [(.int .i64 t_10)]) (vs := [(.int .i64 e_11)]) 0 hF hS h6 sz3 rfl rfl rfl rfl rfl rfl rfl he_11 at12 rfl rfl rfl fun w q13 hS h13 => hK _ _ (q_end (n_sq (q_region (q_x (v := (.int .i64 i_4)) hF hS (ex_move rfl) rfl rfl fun a hF => q_x (v := s1.v) hF hS (ex_move rfl) rfl rfl fun a hF => q_x (v := (.int .i64 k_7)) hF hS (ex_move rfl) rfl rfl fun a hF => ?_))))
   obtain ⟨e_14, he_14, hb1⟩ := bindS hb1
   obtain ⟨vs15, at15, d15⟩ := h1.at he_14 2 rfl
   obtain rfl : vs15 = [(strV e_14.Name), (.int .i64 e_14.Levels)] := d15
   refine q_x (v := (elP s1 (k_7.toNat * 2))) hF hS (ex_indexAddr Try.underlying23 sz85 rfl rfl (h1.idx he_14)) rfl rfl fun a hF => q_x (v := (elP s1 (k_7.toNat * 2 + 1))) hF hS (ex_fieldAddrE Try.underlying85 rfl sz3 rfl (h1.idx he_14) rfl) rfl rfl fun a hF => q_x (v := (.int .i64 e_14.Levels)) hF hS (ex_loadE1 1 Try.underlying3 rfl rfl ((at15).at) rfl rfl) rfl rfl fun a hF => ?_
   obtain ⟨t_16, ht_16, hb1⟩ := bindS hb1
   refine q_x (v := (.int .i64 t_16)) hF hS (ex_quo rfl rfl ht_16) rfl rfl fun a hF => q_x (v := (.int .i64 t_16)) hF hS (ex_assign rfl) rfl rfl fun a hF => q_end (n_ib (n_sq (q_region (q_x (v := (.int .i64 k_7)) hF hS (ex_move rfl) rfl rfl fun a hF => q_x (v := (.int .i64 (w64 (k_7 - 1)))) hF hS (ex_ibin rfl rfl rfl) rfl rfl fun a hF => q_x (v := (.int .i64 (w64 (k_7 - 1)))) hF hS (ex_assign rfl) rfl rfl fun a hF => q_end ?_))))
   obtain rfl := someI hb1
   exact ⟨rfl, q13, _, _, _, rfl, hF.sub ⟨rfl, rfl, rfl, rfl, trivial⟩, hS, h13⟩
 ·rintro e a w ⟨q18, rfl, hF, hS, h18⟩
  refine x_ib (n_sq ?_)
  refine q_seq (q_region (q_x (v := s3.v) hF hS (ex_move rfl) rfl rfl fun a hF => q_x (v := s3.v) hF hS (ex_assign rfl) rfl rfl fun a hF => q_end (n_sq (q_ret ?_))))
  obtain rfl := someI hr
  exact ret_of hF hS rfl (.tmp rfl .nil) ⟨q18, s3, rfl, hS.sel [0] (by decide), h18⟩

theorem c_spec_eFails (p_e : impl_Edit) (p_values : List Int) (r : Bool) (hr : spec_eFails p_e p_values = some r) (w0 : World) (m : Mem) (hv : Vis m w0) (s1 : Sl) (h1 : Rd m s1 p_e.Sets) (s2 : Sl) (h2 : Rd m s2 p_values) :
  Ret Try.prog 89 [(.agg #[s1.v]), s2.v] w0 (fun v _ => v = (.bool r)) := by
 unfold spec_eFails at hr
 refine ret_start Try.func89 rfl 25 rfl rfl m hv fun a hF hS => q_seq (q_region (q_box (cs := [s1.v]) hF hS rfl rfl rfl fun a w b3 hF hS => q_x (v := (.bool false)) hF hS (ex_assign rfl) rfl rfl fun a hF => q_end (n_sq (q_seq (q_seq (q_region (q_x (v := s2.v) hF hS (ex_move rfl) rfl rfl fun a hF => q_x (v := (.int .i64 (goLen p_values))) hF hS (ex_len Try.underlying24 rfl h2.len) rfl rfl fun a hF => q_x (v := (.int .i64 0)) hF hS (ex_move rfl) rfl rfl fun a hF => q_end (n_sq (q_block ?_)))))))))
 obtain ⟨o1, hl1, hr⟩ := bindS hr
 refine q_loop (fun (t_4 : Int) a w => Fr a 25 [(2, (.pointer (some ⟨b3, 0, none⟩))), (7, s2.v), (8, (.int .i64 (goLen p_values))), (9, (.int .i64 t_4))] ∧ St [] w0 w m [[⟨b3, [s1.v], 93⟩]]) (fun (o : (Unit) ⊕ (Bool)) e a w => o = .inl () ∧ e = .exit 0 ∧ Fr a 25 [] ∧ St [] w0 w m []) hl1 ⟨hF.sub ⟨rfl, rfl, rfl, rfl, trivial⟩, hS⟩ ?_ ?_
 ·clear hF hS
  rintro t_4 a w st ⟨hF, hS⟩ hb1
  unfold spec_eFails_l1 at hb1
  refine q_seq (q_region (q_x (v := (.bool (decide (t_4 < (goLen p_values))))) hF hS (ex_ibin rfl rfl rfl) rfl rfl fun a hF => q_end (n_sq (q_seq ?_))))
  rcases bcase (decide (t_4 < (goLen p_values))) with hc2 | hc2
  ·have hb1 := cond_f hc2 hb1
   refine q_cond_f hF rfl hc2 (q_exit (x_sq ?_))
   obtain rfl := someI hb1
   exact ⟨nofun, .inl ⟨rfl, rfl, hF.sub trivial, hS.mask [false]⟩⟩
  ·have hb1 := cond_t hc2 hb1
   refine q_cond_t hF rfl hc2 (q_skipc (n_sq (q_seq (q_block (q_seq (q_region (q_x (v := (.int .i64 t_4)) hF hS (ex_move rfl) rfl rfl fun a hF => ?_)))))))
   obtain ⟨e_5, he_5, hb1⟩ := bindS hb1
   obtain ⟨vs6, at6, d6⟩ := h2.at he_5 1 rfl
   obtain rfl : vs6 = [(.int .i64 e_5)] := d6
   refine q_x (v := (elP s2 (t_4.toNat * 1))) hF hS (ex_indexAddr Try.underlying24 sz3 rfl rfl (h2.idx he_5)) rfl rfl fun a hF => q_x (v := (.int .i64 e_5)) hF hS (ex_loadE1 0 Try.underlying3 rfl rfl ((at6).at) rfl rfl) rfl rfl fun a hF => q_x (v := (.int .i64 t_4)) hF hS (ex_assign rfl) rfl rfl fun a hF => q_x (v := (.int .i64 e_5)) hF hS (ex_assign rfl) rfl rfl fun a hF => q_end (n_sq (q_seq (q_region (q_x (v := (.pointer (some ⟨b3, 0, none⟩))) hF hS (ex_fieldAddr Try.underlying93 rfl sz24 rfl rfl) rfl rfl fun a hF => q_x (v := s1.v) hF hS (ex_load1 0 0 Try.underlying24 rfl rfl rfl rfl) rfl rfl fun a hF => q_x (v := (.int .i64 t_4)) hF hS (ex_move rfl) rfl rfl fun a hF => ?_))))
   obtain ⟨e_7, he_7, hb1⟩ := bindS hb1
   obtain ⟨vs8, at8, d8⟩ := h1.at he_7 1 rfl
   obtain rfl : vs8 = [(.int .i64 e_7)] := d8
   refine q_x (v := (elP s1 (t_4.toNat * 1))) hF hS (ex_indexAddr Try.underlying24 sz3 rfl rfl (h1.idx he_7)) rfl rfl fun a hF => q_x (v := (.int .i64 e_7)) hF hS (ex_loadE1 0 Try.underlying3 rfl rfl ((at8).at) rfl rfl) rfl rfl fun a hF => q_x (v := (.int .i64 e_5)) hF hS (ex_move rfl) rfl rfl fun a hF => q_x (v := (.int .u64 (IntKind.wrap .u64 e_5))) hF hS (ex_conv Try.underlying3 Try.underlying114 rfl) rfl rfl fun a hF => ?_
   obtain ⟨t_9, ht_9, hb1⟩ := bindS hb1
   refine q_x (v := (.int .i64 t_9)) hF hS (ex_shr rfl rfl ht_9) rfl rfl fun a hF => q_x (v := (.int .i64 (goBits .and .i64 t_9 1))) hF hS (ex_bits rfl rfl rfl) rfl rfl fun a hF => q_x (v := (.bool ((goBits .and .i64 t_9 1) == 0))) hF hS (ex_ibin rfl rfl rfl) rfl rfl fun a hF => q_end (n_sq ?_)
   rcases bcase ((goBits .and .i64 t_9 1) == 0) with hc3 | hc3
   ·have hb1 := cond_f hc3 hb1
    refine q_cond_f hF rfl hc3 (q_skipc (n_ib (n_sq (q_region (q_x (v := (.int .i64 (w64 (t_4 + 1)))) hF hS (ex_ibin rfl rfl rfl) rfl rfl fun a hF => q_x (v := (.int .i64 (w64 (t_4 + 1)))) hF hS (ex_move rfl) rfl rfl fun a hF => q_end ?_)))))
    obtain rfl := someI hb1
    exact ⟨rfl, hF.sub ⟨rfl, rfl, rfl, rfl, trivial⟩, hS⟩
   ·have hb1 := cond_t hc3 hb1
    refine q_cond_t hF rfl hc3 (q_seq (q_region (q_x (v := (.bool false)) hF hS (ex_assign rfl) rfl rfl fun a hF => q_end (n_sq (q_ret (r_ib (r_sq ?_)))))))
    obtain rfl := someI hb1
    refine ⟨nofun, .inr fun ho => ?_⟩
    subst ho
    refine r_ib (r_sq ?_)
    obtain rfl := someI hr
    exact ret_of hF hS rfl (.tmp rfl .nil) rfl
 ·rintro e a w ⟨rfl, rfl, hF, hS⟩
  refine x_ib (n_sq ?_)
  refine q_seq (q_region (q_x (v := (.bool true)) hF hS (ex_assign rfl) rfl rfl fun a hF => q_end (n_sq (q_ret ?_))))
  obtain rfl := someI hr
  exact ret_of hF hS rfl (.tmp rfl .nil) rfl

theorem c_spec_eFailed (p_l : List impl_Edit) (p_values : List Int) (r : (List Int)) (hr : spec_eFailed p_l p_values = some r) (w0 : World) (m : Mem) (hv : Vis m w0) (s1 : Sl) (h1 : Rd m s1 p_l) (s2 : Sl) (h2 : Rd m s2 p_values) :
  Ret Try.prog 67 [s1.v, s2.v] w0 (fun v w => ∃ (q0' : Piece) (s0' : Sl), v = s0'.v ∧ St [] w0 w m [q0'] ∧ OwnL m 3 q0' s0' r) := by
 unfold spec_eFailed at hr
 refine ret_start Try.func67 rfl 24 rfl rfl m hv fun a hF hS => q_seq (q_region (q_x (v := nilS.v) hF hS (ex_assign rfl) rfl rfl fun a hF => q_end (n_sq (q_seq (q_region (q_x (v := nilS.v) hF hS (ex_assign rfl) rfl rfl fun a hF => q_end (n_sq (q_seq (q_seq (q_region (q_x (v := s1.v) hF hS (ex_move rfl) rfl rfl fun a hF => q_x (v := (.int .i64 (goLen p_l))) hF hS (ex_len Try.underlying48 rfl h1.len) rfl rfl fun a hF => q_x (v := (.int .i64 0)) hF hS (ex_move rfl) rfl rfl fun a hF => q_end (n_sq (q_block ?_)))))))))))))
 obtain ⟨out_16, hl1, hr⟩ := bindS hr
 refine q_loop (fun (s : (List Int) × Int) a w => ∃ (q4 : Piece), ∃ (s4 : Sl), ∃ out_3, ∃ t_5, s = (out_3, t_5) ∧ Fr a 24 [(1, s2.v), (5, s4.v), (8, s1.v), (9, (.int .i64 (goLen p_l))), (10, (.int .i64 t_5))] ∧ St [] w0 w m [q4] ∧ OwnL m 3 q4 s4 out_3) (fun (out_16 : (List Int)) e a w => ∃ (q17 : Piece), ∃ (s17 : Sl), e = .exit 0 ∧ Fr a 24 [(5, s17.v)] ∧ St [] w0 w m [q17] ∧ OwnL m 3 q17 s17 out_16) hl1 ⟨[], nilS, _, _, rfl, hF.sub ⟨rfl, rfl, rfl, rfl, rfl, trivial⟩, hS.sel [0] (by decide), (OwnL.nil (α := Int) m 3)⟩ ?_ ?_
 ·clear hF hS
  rintro s a w st ⟨q4, s4, out_3, t_5, rfl, hF, hS, h4⟩ hb1
  unfold spec_eFailed_l1 at hb1
  refine q_seq (q_region (q_x (v := (.bool (decide (t_5 < (goLen p_l))))) hF hS (ex_ibin rfl rfl rfl) rfl rfl fun a hF => q_end (n_sq (q_seq ?_))))
  rcases bcase (decide (t_5 < (goLen p_l))) with hc2 | hc2
  ·have hb1 := cond_f hc2 hb1
   refine q_cond_f hF rfl hc2 (q_exit (x_sq ?_))
   obtain rfl := someI hb1
   exact ⟨nofun, .inl ⟨q4, s4, rfl, hF.sub ⟨rfl, trivial⟩, hS, h4⟩⟩
  ·have hb1 := cond_t hc2 hb1
   refine q_cond_t hF rfl hc2 (q_skipc (n_sq (q_seq (q_block (q_seq (q_region (q_x (v := (.int .i64 t_5)) hF hS (ex_move rfl) rfl rfl fun a hF => ?_)))))))
   obtain ⟨e_6, he_6, hb1⟩ := bindS hb1
   obtain ⟨vs7, at7, d7⟩ := h1.at he_6 1 rfl
   obtain ⟨s8, rfl, h8⟩ : ∃ s8 : Sl, vs7 = [s8.v] ∧ Rd m s8 e_6.Sets := d7
   refine q_x (v := (elP s1 (t_5.toNat * 1))) hF hS (ex_indexAddr Try.underlying48 sz93 rfl rfl (h1.idx he_6)) rfl rfl fun a hF => q_x (v := (.agg #[s8.v])) hF hS (ex_loadEA (us := [s8.v]) 0 Try.underlying93 rfl sz93 rfl ((at7).at) rfl rfl rfl) rfl rfl fun a hF => q_alloc (cs := [nilS.v]) hF hS rfl rfl rfl fun a w b9 hF hS => q_x (v := (.int .i64 t_5)) hF hS (ex_assign rfl) rfl rfl fun a hF => q_store (vs := [s8.v]) (cs' := [s8.v]) 0 0 hF hS sz93 rfl rfl rfl rfl rfl rfl rfl rfl fun a w hF hS => q_end (n_sq (q_seq (q_region (q_x (v := (.agg #[s8.v])) hF hS (ex_loadA (vs := [s8.v]) 0 0 Try.underlying93 rfl sz93 rfl rfl rfl rfl) rfl rfl fun a hF => q_x (v := s2.v) hF hS (ex_move rfl) rfl rfl fun a hF => ?_))))
   obtain ⟨t_10, ht_10, hb1⟩ := bindS hb1
   refine q_call (vs := [(.agg #[s8.v]), s2.v]) hF hS Try.func89 (by kernel_rfl) rfl rfl rfl (c_spec_eFails e_6 p_values t_10 ht_10 _ m hS.vis s8 h8 s2 h2) ?_
   rintro a w _ rfl hF hS
   refine q_end (n_sq ?_)
   obtain ⟨out_14, hj3, hb1⟩ := bindS hb1
   refine q_join (fun a w => ∃ (q15 : Piece), ∃ (s15 : Sl), Fr a 24 [(1, s2.v), (5, s15.v), (8, s1.v), (9, (.int .i64 (goLen p_l))), (10, (.int .i64 t_5))] ∧ St [] w0 w m [q15] ∧ OwnL m 3 q15 s15 out_14) ?_ ?_
   ·rcases bcase (t_10) with hc4 | hc4
    ·have hj3 := cond_f hc4 hj3
     refine q_cond_f hF rfl hc4 (q_skipc (n_jn ?_))
     obtain rfl := someI hj3
     exact ⟨q4, s4, hF.sub ⟨rfl, rfl, rfl, rfl, rfl, trivial⟩, hS.mask [false, true], h4⟩
    ·have hj3 := cond_t hc4 hj3
     refine q_cond_t hF rfl hc4 (q_region (q_x (v := s4.v) hF hS (ex_move rfl) rfl rfl fun a hF => q_x (v := (.int .i64 t_5)) hF hS (ex_move rfl) rfl rfl fun a hF => q_do rfl fun _ hK => wp_buildSlice' (l := ([t_5] : List Int)) (cells := [(.int .i64 t_5)]) hF hS Try.underlying24 inf3 rfl rfl (by kernel_rfl) rfl rfl rfl ⟨rfl, rfl⟩ rfl rfl fun a w q11 s11 hF hS h11 _ => hK _ _ ?_))
     have hS : St _ _ _ _ [q4, q11, [⟨b9, [s8.v], 93⟩]] := hS.sel [2, 0, 1] (by decide)
     obtain ⟨l_12, hl_12, hj3⟩ := bindS hj3
     refine q_do rfl fun _ hK => wp_append hF hS h4 Try.underlying24 inf3 rfl rfl rfl rfl (h11.vw hS (j := 1) rfl) rfl (by decide) hl_12 rfl fun a w q13 s13 hF hS h13 => hK _ _ (q_x (v := s13.v) hF hS (ex_assign rfl) rfl rfl fun a hF => q_end (n_jn ?_))
     obtain rfl := someI hj3
     exact ⟨q13, s13, hF.sub ⟨rfl, rfl, rfl, rfl, rfl, trivial⟩, hS.mask [true, false, false], h13⟩
   ·rintro a w ⟨q15, s15, hF, hS, h15⟩
    refine n_ib (n_sq ?_)
    refine q_region (q_x (v := (.int .i64 (w64 (t_5 + 1)))) hF hS (ex_ibin rfl rfl rfl) rfl rfl fun a hF => q_x (v := (.int .i64 (w64 (t_5 + 1)))) hF hS (ex_move rfl) rfl rfl fun a hF => q_end ?_)
    obtain rfl := someI hb1
    exact ⟨rfl, q15, s15, _, _, rfl, hF.sub ⟨rfl, rfl, rfl, rfl, rfl, trivial⟩, hS, h15⟩
 ·rintro e a w ⟨q17, s17, rfl, hF, hS, h17⟩
  refine x_ib (n_sq ?_)
  refine q_seq (q_region (q_x (v := s17.v) hF hS (ex_move rfl) rfl rfl fun a hF => q_x (v := s17.v) hF hS (ex_assign rfl) rfl rfl fun a hF => q_end (n_sq (q_ret ?_))))
  obtain rfl := someI hr
  exact ret_of hF hS rfl (.tmp rfl .nil) ⟨q17, s17, rfl, hS.sel [0] (by decide), h17⟩

end Go.Proofs.Ytebjhiflnemkhaa
