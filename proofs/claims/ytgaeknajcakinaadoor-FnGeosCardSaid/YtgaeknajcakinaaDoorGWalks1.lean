/- The walks of the functions: each returns what its plain function says. -/
import Derived.Test.YtgaeknajcakinaaDoorGDefs
import Derived.Test.YtgaeknajcakinaaDoorRows
import Derived.Test.YtgaeknajcakinaaDoorGItoa
namespace Go.Proofs.YtgaeknajcakinaaDoor
open Go.Gx Go.Gx.F Go.RowKit
set_option linter.all false
set_option maxRecDepth 10000

theorem mixed : Tryd.prog.follows .mixedOrders = true := by kernel_rfl
theorem inf3 : inf Tryd.prog 3 = some (1, 8, [(.int .i64 0)]) := by kernel_rfl
theorem inf5 : inf Tryd.prog 5 = some (1, 1, [(.int .u8 0)]) := by kernel_rfl
theorem inf9 : inf Tryd.prog 9 = some (1, 16, [(strV ([] : List UInt8))]) := by kernel_rfl
theorem inf42 : inf Tryd.prog 42 = some (1, 24, [nilS.v]) := by kernel_rfl
theorem sz3 : szOf Tryd.prog 3 = some 1 := by kernel_rfl
theorem sz5 : szOf Tryd.prog 5 = some 1 := by kernel_rfl
theorem sz9 : szOf Tryd.prog 9 = some 1 := by kernel_rfl
theorem sz22 : szOf Tryd.prog 22 = some 1 := by kernel_rfl
theorem sz42 : szOf Tryd.prog 42 = some 1 := by kernel_rfl
theorem sz60 : szOf Tryd.prog 60 = some 1 := by kernel_rfl
theorem sz74 : szOf Tryd.prog 74 = some 1 := by kernel_rfl

theorem c_laws_big (p_code : List (K .u8)) (p_more : List (K .u8)) (r : Bool) (hr : laws_big p_code p_more = some r) (w0 : World) (m : Mem) (hv : Vis m w0) (s1 : Sl) (h1 : Rd m s1 p_code) (s2 : Sl) (h2 : Rd m s2 p_more) :
  Ret Tryd.prog 33 [s1.v, s2.v] w0 (fun v _ => v = (.bool r)) := by
 unfold laws_big at hr
 refine ret_start Tryd.func33 rfl 16 rfl rfl m hv fun a hF hS => q_seq (q_region (q_x (v := (.bool false)) hF hS (ex_assign rfl) rfl rfl fun a hF => q_end (n_sq (q_seq ?_))))
 obtain ⟨t_3, hj1, hr⟩ := bindS hr
 refine q_join (fun a w => Fr a 16 [(4, (.bool t_3))] ∧ St [] w0 w m []) ?_ ?_
 ·refine q_region (q_x (v := s1.v) hF hS (ex_move rfl) rfl rfl fun a hF => q_x (v := (.int .i64 (goLen p_code))) hF hS (ex_len Tryd.underlying22 rfl h1.len) rfl rfl fun a hF => q_x (v := (.bool (decide (1048576 < (goLen p_code))))) hF hS (ex_ibin rfl rfl rfl) rfl rfl fun a hF => q_x (v := (.bool (decide (1048576 < (goLen p_code))))) hF hS (ex_move rfl) rfl rfl fun a hF => ?_)
  rcases bcase (decide (1048576 < (goLen p_code))) with hc2 | hc2
  ·have hj1 := cond_f hc2 hj1
   refine q_xg (v := s2.v) hF hS (ex_move rfl) (wanted_t hF rfl rfl rfl hc2) rfl fun a hF => q_xg (v := (.int .i64 (goLen p_more))) hF hS (ex_len Tryd.underlying22 rfl h2.len) (wanted_t hF rfl rfl rfl hc2) rfl fun a hF => q_xg (v := s1.v) hF hS (ex_move rfl) (wanted_t hF rfl rfl rfl hc2) rfl fun a hF => q_xg (v := (.int .i64 (goLen p_code))) hF hS (ex_len Tryd.underlying22 rfl h1.len) (wanted_t hF rfl rfl rfl hc2) rfl fun a hF => q_xg (v := (.int .i64 (w64 (1048576 - (goLen p_code))))) hF hS (ex_ibin rfl rfl rfl) (wanted_t hF rfl rfl rfl hc2) rfl fun a hF => q_xg (v := (.bool (decide ((w64 (1048576 - (goLen p_code))) < (goLen p_more))))) hF hS (ex_ibin rfl rfl rfl) (wanted_t hF rfl rfl rfl hc2) rfl fun a hF => q_x (v := (.bool (decide ((w64 (1048576 - (goLen p_code))) < (goLen p_more))))) hF hS (ex_pick_f rfl rfl hc2) rfl rfl fun a hF => q_x (v := (.bool (decide ((w64 (1048576 - (goLen p_code))) < (goLen p_more))))) hF hS (ex_assign rfl) rfl rfl fun a hF => q_end (n_jn ?_)
   obtain rfl := someI hj1
   exact ⟨hF.sub ⟨rfl, trivial⟩, hS⟩
  ·have hj1 := cond_t hc2 hj1
   refine q_skip hF (wanted_f hF rfl rfl rfl hc2 rfl) rfl fun a hF => q_skip hF (wanted_f hF rfl rfl rfl hc2 rfl) rfl fun a hF => q_skip hF (wanted_f hF rfl rfl rfl hc2 rfl) rfl fun a hF => q_skip hF (wanted_f hF rfl rfl rfl hc2 rfl) rfl fun a hF => q_skip hF (wanted_f hF rfl rfl rfl hc2 rfl) rfl fun a hF => q_skip hF (wanted_f hF rfl rfl rfl hc2 rfl) rfl fun a hF => q_x (v := (.bool true)) hF hS (ex_pick_t rfl rfl hc2) rfl rfl fun a hF => q_x (v := (.bool true)) hF hS (ex_assign rfl) rfl rfl fun a hF => q_end (n_jn ?_)
   obtain rfl := someI hj1
   exact ⟨hF.sub ⟨rfl, trivial⟩, hS⟩
 ·rintro a w ⟨hF, hS⟩
  refine n_sq (q_ret ?_)
  obtain rfl := someI hr
  exact ret_of hF hS rfl (.tmp rfl .nil) rfl

theorem c_spec_l1Cur_next (p_c : spec_l1Cur) (r : Int × spec_l1Cur) (hr : spec_l1Cur_next p_c = some r) (w0 : World) (m : Mem) (b_p_c : Nat) (s1 : Sl) (h1 : Rd m s1 p_c.code) (X : List Nat) (hS : St X w0 w0 m [[⟨b_p_c, [s1.v, (.int .i64 p_c.at_), (.int .u64 p_c.seed.v)], 76⟩]]) :
  RetX Tryd.prog 107 [(.pointer (some ⟨b_p_c, 0, none⟩))] w0 (fun v w => v = (.int .i64 r.1) ∧ St X w0 w m [[⟨b_p_c, [s1.v, (.int .i64 r.2.at_), (.int .u64 r.2.seed.v)], 76⟩]] ∧ r.2.code = p_c.code) := by
 unfold spec_l1Cur_next at hr
 refine ret_startX Tryd.func107 rfl 62 rfl rfl fun a hF => q_seq (q_region (q_x (v := (.int .i64 0)) hF hS (ex_assign rfl) rfl rfl fun a hF => q_end (n_sq (q_seq (q_region (q_x (v := (.int .i64 0)) hF hS (ex_assign rfl) rfl rfl fun a hF => q_end (n_sq (q_seq (q_seq (e_region ⟨[], []⟩ mixed fun w' hw' => ?_))))))))))
 have hS := hS.below hw'
 refine e_p (v := (.pointer (some ⟨b_p_c, 0, none⟩))) 0 hF rfl (ex_move rfl) rfl rfl (by kernel_rfl) (by kernel_rfl) (by kernel_rfl) fun a hF => e_p (v := (.pointer (some ⟨b_p_c, 0, none⟩))) 1 hF rfl (ex_nilCheck rfl) rfl rfl (by kernel_rfl) (by kernel_rfl) (by kernel_rfl) fun a hF => e_p (v := (.pointer (some ⟨b_p_c, 1, none⟩))) 2 hF rfl (ex_fieldAddr Tryd.underlying76 rfl sz3 rfl rfl) rfl rfl (by kernel_rfl) (by kernel_rfl) (by kernel_rfl) fun a hF => e_x (v := (.int .i64 p_c.at_)) 3 hF hS rfl (ex_load1 0 0 Tryd.underlying3 rfl rfl rfl rfl) rfl rfl (by kernel_rfl) (by kernel_rfl) (by kernel_rfl) (by kernel_rfl) fun a hF => e_p (v := (.pointer (some ⟨b_p_c, 0, none⟩))) 4 hF rfl (ex_move rfl) rfl rfl (by kernel_rfl) (by kernel_rfl) (by kernel_rfl) fun a hF => e_p (v := (.pointer (some ⟨b_p_c, 0, none⟩))) 5 hF rfl (ex_nilCheck rfl) rfl rfl (by kernel_rfl) (by kernel_rfl) (by kernel_rfl) fun a hF => e_p (v := (.pointer (some ⟨b_p_c, 0, none⟩))) 6 hF rfl (ex_fieldAddr Tryd.underlying76 rfl sz22 rfl rfl) rfl rfl (by kernel_rfl) (by kernel_rfl) (by kernel_rfl) fun a hF => e_x (v := s1.v) 7 hF hS rfl (ex_load1 0 0 Tryd.underlying22 rfl rfl rfl rfl) rfl rfl (by kernel_rfl) (by kernel_rfl) (by kernel_rfl) (by kernel_rfl) fun a hF => e_p (v := (.int .i64 (goLen p_c.code))) 8 hF rfl (ex_len Tryd.underlying22 rfl h1.len) rfl rfl (by kernel_rfl) (by kernel_rfl) (by kernel_rfl) fun a hF => e_p (v := (.bool (decide (p_c.at_ < (goLen p_c.code))))) 9 hF rfl (ex_ibin rfl rfl rfl) rfl rfl (by kernel_rfl) (by kernel_rfl) (by kernel_rfl) fun a hF => e_end (by kernel_rfl) (n_sq ?_) _
 obtain ⟨b_4, hj1, hr⟩ := bindS hr
 refine q_join (fun a w => Fr a 62 [(0, (.pointer (some ⟨b_p_c, 0, none⟩))), (3, (.int .i64 b_4))] ∧ St X w0 w m [[⟨b_p_c, [s1.v, (.int .i64 p_c.at_), (.int .u64 p_c.seed.v)], 76⟩]]) ?_ ?_
 ·rcases bcase (decide (p_c.at_ < (goLen p_c.code))) with hc2 | hc2
  ·have hj1 := cond_f hc2 hj1
   refine q_cond_f hF rfl hc2 (q_skipc (n_jn ?_))
   obtain rfl := someI hj1
   exact ⟨hF.sub ⟨rfl, rfl, trivial⟩, hS⟩
  ·have hj1 := cond_t hc2 hj1
   refine q_cond_t hF rfl hc2 (e_region ⟨[], []⟩ mixed fun w' hw' => ?_)
   have hS := hS.below hw'
   refine e_p (v := (.pointer (some ⟨b_p_c, 0, none⟩))) 0 hF rfl (ex_move rfl) rfl rfl (by kernel_rfl) (by kernel_rfl) (by kernel_rfl) fun a hF => e_p (v := (.pointer (some ⟨b_p_c, 0, none⟩))) 1 hF rfl (ex_nilCheck rfl) rfl rfl (by kernel_rfl) (by kernel_rfl) (by kernel_rfl) fun a hF => e_p (v := (.pointer (some ⟨b_p_c, 0, none⟩))) 2 hF rfl (ex_fieldAddr Tryd.underlying76 rfl sz22 rfl rfl) rfl rfl (by kernel_rfl) (by kernel_rfl) (by kernel_rfl) fun a hF => e_x (v := s1.v) 3 hF hS rfl (ex_load1 0 0 Tryd.underlying22 rfl rfl rfl rfl) rfl rfl (by kernel_rfl) (by kernel_rfl) (by kernel_rfl) (by kernel_rfl) fun a hF => e_p (v := (.pointer (some ⟨b_p_c, 0, none⟩))) 4 hF rfl (ex_move rfl) rfl rfl (by kernel_rfl) (by kernel_rfl) (by kernel_rfl) fun a hF => e_p (v := (.pointer (some ⟨b_p_c, 0, none⟩))) 5 hF rfl (ex_nilCheck rfl) rfl rfl (by kernel_rfl) (by kernel_rfl) (by kernel_rfl) fun a hF => e_p (v := (.pointer (some ⟨b_p_c, 1, none⟩))) 6 hF rfl (ex_fieldAddr Tryd.underlying76 rfl sz3 rfl rfl) rfl rfl (by kernel_rfl) (by kernel_rfl) (by kernel_rfl) fun a hF => e_x (v := (.int .i64 p_c.at_)) 7 hF hS rfl (ex_load1 0 0 Tryd.underlying3 rfl rfl rfl rfl) rfl rfl (by kernel_rfl) (by kernel_rfl) (by kernel_rfl) (by kernel_rfl) fun a hF => ?_
   obtain ⟨e_2, he_2, hj1⟩ := bindS hj1
   obtain ⟨vs3, at3, d3⟩ := h1.at he_2 1 rfl
   obtain rfl : vs3 = [(.int .u8 e_2.v)] := d3
   refine e_p (v := (elP s1 (p_c.at_.toNat * 1))) 8 hF rfl (ex_indexAddr Tryd.underlying22 sz5 rfl rfl (h1.idx he_2)) rfl rfl (by kernel_rfl) (by kernel_rfl) (by kernel_rfl) fun a hF => e_x (v := (.int .u8 e_2.v)) 9 hF hS rfl (ex_loadE1 0 Tryd.underlying5 rfl rfl ((at3).at) rfl rfl) rfl rfl (by kernel_rfl) (by kernel_rfl) (by kernel_rfl) (by kernel_rfl) fun a hF => e_p (v := (.int .i64 (w64 e_2.v))) 10 hF rfl (ex_conv Tryd.underlying5 Tryd.underlying3 rfl) rfl rfl (by kernel_rfl) (by kernel_rfl) (by kernel_rfl) fun a hF => e_p (v := (.int .i64 (w64 e_2.v))) 11 hF rfl (ex_assign rfl) rfl rfl (by kernel_rfl) (by kernel_rfl) (by kernel_rfl) fun a hF => e_end (by kernel_rfl) (n_jn ?_) _
   obtain rfl := someI hj1
   exact ⟨hF.sub ⟨rfl, rfl, trivial⟩, hS⟩
 ·rintro a w ⟨hF, hS⟩
  refine n_sq ?_
  refine q_seq (q_region (q_x (v := (.pointer (some ⟨b_p_c, 0, none⟩))) hF hS (ex_move rfl) rfl rfl fun a hF => q_x (v := (.pointer (some ⟨b_p_c, 0, none⟩))) hF hS (ex_nilCheck rfl) rfl rfl fun a hF => q_x (v := (.pointer (some ⟨b_p_c, 1, none⟩))) hF hS (ex_fieldAddr Tryd.underlying76 rfl sz3 rfl rfl) rfl rfl fun a hF => q_x (v := (.int .i64 p_c.at_)) hF hS (ex_load1 0 0 Tryd.underlying3 rfl rfl rfl rfl) rfl rfl fun a hF => q_x (v := (.int .i64 (w64 (p_c.at_ + 1)))) hF hS (ex_ibin rfl rfl rfl) rfl rfl fun a hF => q_x (v := (.pointer (some ⟨b_p_c, 0, none⟩))) hF hS (ex_nilCheck rfl) rfl rfl fun a hF => q_x (v := (.pointer (some ⟨b_p_c, 1, none⟩))) hF hS (ex_fieldAddr Tryd.underlying76 rfl sz3 rfl rfl) rfl rfl fun a hF => q_store (vs := [(.int .i64 (w64 (p_c.at_ + 1)))]) (cs' := [s1.v, (.int .i64 (w64 (p_c.at_ + 1))), (.int .u64 p_c.seed.v)]) 0 0 hF hS sz3 rfl rfl rfl rfl rfl rfl rfl rfl fun a w hF hS => q_end (n_sq (q_seq (q_region (q_x (v := (.pointer (some ⟨b_p_c, 0, none⟩))) hF hS (ex_move rfl) rfl rfl fun a hF => q_x (v := (.pointer (some ⟨b_p_c, 0, none⟩))) hF hS (ex_move rfl) rfl rfl fun a hF => q_x (v := (.pointer (some ⟨b_p_c, 0, none⟩))) hF hS (ex_nilCheck rfl) rfl rfl fun a hF => q_x (v := (.pointer (some ⟨b_p_c, 2, none⟩))) hF hS (ex_fieldAddr Tryd.underlying76 rfl sz74 rfl rfl) rfl rfl fun a hF => q_x (v := (.int .u64 p_c.seed.v)) hF hS (ex_load1 0 0 Tryd.underlying74 rfl rfl rfl rfl) rfl rfl fun a hF => q_x (v := (.int .u64 (IntKind.wrap .u64 (p_c.seed.v * 6364136223846793005)))) hF hS (ex_ibin rfl rfl rfl) rfl rfl fun a hF => q_x (v := (.int .i64 b_4)) hF hS (ex_move rfl) rfl rfl fun a hF => q_x (v := (.int .u64 (IntKind.wrap .u64 b_4))) hF hS (ex_conv Tryd.underlying3 Tryd.underlying74 rfl) rfl rfl fun a hF => q_x (v := (.int .u64 (IntKind.wrap .u64 ((IntKind.wrap .u64 (p_c.seed.v * 6364136223846793005)) + (IntKind.wrap .u64 b_4))))) hF hS (ex_ibin rfl rfl rfl) rfl rfl fun a hF => q_x (v := (.int .u64 (IntKind.wrap .u64 ((IntKind.wrap .u64 ((IntKind.wrap .u64 (p_c.seed.v * 6364136223846793005)) + (IntKind.wrap .u64 b_4))) + 1442695040888963407)))) hF hS (ex_ibin rfl rfl rfl) rfl rfl fun a hF => q_x (v := (.pointer (some ⟨b_p_c, 0, none⟩))) hF hS (ex_nilCheck rfl) rfl rfl fun a hF => q_x (v := (.pointer (some ⟨b_p_c, 2, none⟩))) hF hS (ex_fieldAddr Tryd.underlying76 rfl sz74 rfl rfl) rfl rfl fun a hF => ?_))))))
  refine q_store (vs := [(.int .u64 (IntKind.wrap .u64 ((IntKind.wrap .u64 ((IntKind.wrap .u64 (p_c.seed.v * 6364136223846793005)) + (IntKind.wrap .u64 b_4))) + 1442695040888963407)))]) (cs' := [s1.v, (.int .i64 (w64 (p_c.at_ + 1))), (.int .u64 (IntKind.wrap .u64 ((IntKind.wrap .u64 ((IntKind.wrap .u64 (p_c.seed.v * 6364136223846793005)) + (IntKind.wrap .u64 b_4))) + 1442695040888963407)))]) 0 0 hF hS sz74 rfl rfl rfl rfl rfl rfl rfl rfl fun a w hF hS => q_end (n_sq (q_seq (q_seq (e_region ⟨[], []⟩ mixed fun w' hw' => ?_))))
  have hS := hS.below hw'
  refine e_p (v := (.pointer (some ⟨b_p_c, 0, none⟩))) 0 hF rfl (ex_move rfl) rfl rfl (by kernel_rfl) (by kernel_rfl) (by kernel_rfl) fun a hF => e_p (v := (.pointer (some ⟨b_p_c, 0, none⟩))) 1 hF rfl (ex_nilCheck rfl) rfl rfl (by kernel_rfl) (by kernel_rfl) (by kernel_rfl) fun a hF => e_p (v := (.pointer (some ⟨b_p_c, 1, none⟩))) 2 hF rfl (ex_fieldAddr Tryd.underlying76 rfl sz3 rfl rfl) rfl rfl (by kernel_rfl) (by kernel_rfl) (by kernel_rfl) fun a hF => e_x (v := (.int .i64 (w64 (p_c.at_ + 1)))) 3 hF hS rfl (ex_load1 0 0 Tryd.underlying3 rfl rfl rfl rfl) rfl rfl (by kernel_rfl) (by kernel_rfl) (by kernel_rfl) (by kernel_rfl) fun a hF => e_p (v := (.pointer (some ⟨b_p_c, 0, none⟩))) 4 hF rfl (ex_move rfl) rfl rfl (by kernel_rfl) (by kernel_rfl) (by kernel_rfl) fun a hF => e_p (v := (.pointer (some ⟨b_p_c, 0, none⟩))) 5 hF rfl (ex_nilCheck rfl) rfl rfl (by kernel_rfl) (by kernel_rfl) (by kernel_rfl) fun a hF => e_p (v := (.pointer (some ⟨b_p_c, 0, none⟩))) 6 hF rfl (ex_fieldAddr Tryd.underlying76 rfl sz22 rfl rfl) rfl rfl (by kernel_rfl) (by kernel_rfl) (by kernel_rfl) fun a hF => e_x (v := s1.v) 7 hF hS rfl (ex_load1 0 0 Tryd.underlying22 rfl rfl rfl rfl) rfl rfl (by kernel_rfl) (by kernel_rfl) (by kernel_rfl) (by kernel_rfl) fun a hF => e_p (v := (.int .i64 (goLen p_c.code))) 8 hF rfl (ex_len Tryd.underlying22 rfl h1.len) rfl rfl (by kernel_rfl) (by kernel_rfl) (by kernel_rfl) fun a hF => e_p (v := (.bool (decide ((w64 (p_c.at_ + 1)) ≤ (goLen p_c.code))))) 9 hF rfl (ex_ibin rfl rfl rfl) rfl rfl (by kernel_rfl) (by kernel_rfl) (by kernel_rfl) fun a hF => e_end (by kernel_rfl) (n_sq ?_) _
  rcases bcase (decide ((w64 (p_c.at_ + 1)) ≤ (goLen p_c.code))) with hc3 | hc3
  ·have hr := cond_f hc3 hr
   refine q_cond_f hF rfl hc3 (q_skipc (n_sq (q_seq (q_region (q_x (v := (.pointer (some ⟨b_p_c, 0, none⟩))) hF hS (ex_move rfl) rfl rfl fun a hF => q_x (v := (.pointer (some ⟨b_p_c, 0, none⟩))) hF hS (ex_nilCheck rfl) rfl rfl fun a hF => q_x (v := (.pointer (some ⟨b_p_c, 2, none⟩))) hF hS (ex_fieldAddr Tryd.underlying76 rfl sz74 rfl rfl) rfl rfl fun a hF => q_x (v := (.int .u64 (IntKind.wrap .u64 ((IntKind.wrap .u64 ((IntKind.wrap .u64 (p_c.seed.v * 6364136223846793005)) + (IntKind.wrap .u64 b_4))) + 1442695040888963407)))) hF hS (ex_load1 0 0 Tryd.underlying74 rfl rfl rfl rfl) rfl rfl fun a hF => ?_)))))
   obtain ⟨t_5, ht_5, hr⟩ := bindS hr
   refine q_x (v := (.int .u64 t_5)) hF hS (ex_shr rfl rfl ht_5) rfl rfl fun a hF => q_x (v := (.int .u64 (goBits .and .u64 t_5 255))) hF hS (ex_bits rfl rfl rfl) rfl rfl fun a hF => q_x (v := (.int .i64 (w64 (goBits .and .u64 t_5 255)))) hF hS (ex_conv Tryd.underlying74 Tryd.underlying3 rfl) rfl rfl fun a hF => q_x (v := (.int .i64 (w64 (goBits .and .u64 t_5 255)))) hF hS (ex_assign rfl) rfl rfl fun a hF => q_end (n_sq (q_ret ?_))
   obtain rfl := someI hr
   exact ret_ofX hF hS rfl (.tmp rfl .nil) ⟨rfl, hS.sel [0] (by decide), rfl⟩
  ·have hr := cond_t hc3 hr
   refine q_cond_t hF rfl hc3 (q_seq (q_region (q_x (v := (.int .i64 b_4)) hF hS (ex_move rfl) rfl rfl fun a hF => q_x (v := (.int .i64 b_4)) hF hS (ex_assign rfl) rfl rfl fun a hF => q_end (n_sq (q_ret (r_sq ?_))))))
   obtain rfl := someI hr
   exact ret_ofX hF hS rfl (.tmp rfl .nil) ⟨rfl, hS.sel [0] (by decide), rfl⟩

theorem c_spec_l1Cur_pick (p_c : spec_l1Cur) (p_n : Int) (r : Int × spec_l1Cur) (hr : spec_l1Cur_pick p_c p_n = some r) (w0 : World) (m : Mem) (b_p_c : Nat) (s1 : Sl) (h1 : Rd m s1 p_c.code) (X : List Nat) (hS : St X w0 w0 m [[⟨b_p_c, [s1.v, (.int .i64 p_c.at_), (.int .u64 p_c.seed.v)], 76⟩]]) :
  RetX Tryd.prog 52 [(.pointer (some ⟨b_p_c, 0, none⟩)), (.int .i64 p_n)] w0 (fun v w => v = (.int .i64 r.1) ∧ St X w0 w m [[⟨b_p_c, [s1.v, (.int .i64 r.2.at_), (.int .u64 r.2.seed.v)], 76⟩]] ∧ r.2.code = p_c.code) := by
 unfold spec_l1Cur_pick at hr
 refine ret_startX Tryd.func52 rfl 20 rfl rfl fun a hF => q_seq (q_region (q_x (v := (.int .i64 0)) hF hS (ex_assign rfl) rfl rfl fun a hF => q_end (n_sq (q_seq (q_seq (q_region (q_x (v := (.int .i64 p_n)) hF hS (ex_move rfl) rfl rfl fun a hF => q_x (v := (.bool (decide (p_n ≤ 1)))) hF hS (ex_ibin rfl rfl rfl) rfl rfl fun a hF => q_end (n_sq ?_))))))))
 rcases bcase (decide (p_n ≤ 1)) with hc1 | hc1
 ·have hr := cond_f hc1 hr
  refine q_cond_f hF rfl hc1 (q_skipc (n_sq (q_seq (q_region (q_x (v := (.pointer (some ⟨b_p_c, 0, none⟩))) hF hS (ex_move rfl) rfl rfl fun a hF => ?_)))))
  have hS2 : St _ _ _ _ ([[⟨b_p_c, [s1.v, (.int .i64 p_c.at_), (.int .u64 p_c.seed.v)], 76⟩]] ++ []) := hS
  have hE2 := hS2.enter
  obtain ⟨t_3, ht_3, hr⟩ := bindS hr
  refine q_do rfl fun _ hK => wp_callX (vs := [(.pointer (some ⟨b_p_c, 0, none⟩))]) hF Tryd.func107 (by kernel_rfl) rfl rfl rfl (c_spec_l1Cur_next p_c t_3 ht_3 _ m b_p_c s1 h1 _ hE2) fun a w _ hR hF => hK _ _ ?_
  obtain ⟨rfl, hR2, hk4⟩ := hR
  have hS : St _ _ _ _ [[⟨b_p_c, [s1.v, (.int .i64 t_3.2.at_), (.int .u64 t_3.2.seed.v)], 76⟩]] := hS2.leaveF hR2
  have h4 : Rd m s1 t_3.2.code := by rw [hk4]; exact h1
  refine q_x (v := (.int .i64 t_3.1)) hF hS (ex_assign rfl) rfl rfl fun a hF => q_end (n_sq (q_seq (q_seq (q_region (q_x (v := (.int .i64 p_n)) hF hS (ex_move rfl) rfl rfl fun a hF => q_x (v := (.bool (decide (200 < p_n)))) hF hS (ex_ibin rfl rfl rfl) rfl rfl fun a hF => q_end (n_sq ?_))))))
  obtain ⟨j2, hj2, hr⟩ := bindS hr
  refine q_join (fun a w => ∃ x_8, ∃ p_c_9, j2 = (x_8, p_c_9) ∧ Fr a 20 [(1, (.int .i64 p_n)), (5, (.int .i64 x_8))] ∧ St X w0 w m [[⟨b_p_c, [s1.v, (.int .i64 p_c_9.at_), (.int .u64 p_c_9.seed.v)], 76⟩]] ∧ Rd m s1 p_c_9.code ∧ p_c_9.code = p_c.code) ?_ ?_
  ·rcases bcase (decide (200 < p_n)) with hc3 | hc3
   ·have hj2 := cond_f hc3 hj2
    refine q_cond_f hF rfl hc3 (q_skipc (n_jn ?_))
    obtain rfl := someI hj2
    exact ⟨_, _, rfl, hF.sub ⟨rfl, rfl, trivial⟩, hS, h4, hk4⟩
   ·have hj2 := cond_t hc3 hj2
    refine q_cond_t hF rfl hc3 (q_region (q_x (v := (.int .i64 t_3.1)) hF hS (ex_move rfl) rfl rfl fun a hF => q_x (v := (.int .i64 (w64 (t_3.1 * 256)))) hF hS (ex_ibin rfl rfl rfl) rfl rfl fun a hF => q_x (v := (.pointer (some ⟨b_p_c, 0, none⟩))) hF hS (ex_move rfl) rfl rfl fun a hF => ?_))
    have hS5 : St _ _ _ _ ([[⟨b_p_c, [s1.v, (.int .i64 t_3.2.at_), (.int .u64 t_3.2.seed.v)], 76⟩]] ++ []) := hS
    have hE5 := hS5.enter
    obtain ⟨t_6, ht_6, hj2⟩ := bindS hj2
    refine q_do rfl fun _ hK => wp_callX (vs := [(.pointer (some ⟨b_p_c, 0, none⟩))]) hF Tryd.func107 (by kernel_rfl) rfl rfl rfl (c_spec_l1Cur_next t_3.2 t_6 ht_6 _ m b_p_c s1 h4 _ hE5) fun a w _ hR hF => hK _ _ ?_
    obtain ⟨rfl, hR5, hk7⟩ := hR
    have hS : St _ _ _ _ [[⟨b_p_c, [s1.v, (.int .i64 t_6.2.at_), (.int .u64 t_6.2.seed.v)], 76⟩]] := hS5.leaveF hR5
    have h7 : Rd m s1 t_6.2.code := by rw [hk7]; exact h4
    refine q_x (v := (.int .i64 (w64 ((w64 (t_3.1 * 256)) + t_6.1)))) hF hS (ex_ibin rfl rfl rfl) rfl rfl fun a hF => q_x (v := (.int .i64 (w64 ((w64 (t_3.1 * 256)) + t_6.1)))) hF hS (ex_assign rfl) rfl rfl fun a hF => q_end (n_jn ?_)
    obtain rfl := someI hj2
    exact ⟨_, _, rfl, hF.sub ⟨rfl, rfl, trivial⟩, hS, h7, (hk7.trans hk4)⟩
  ·rintro a w ⟨x_8, p_c_9, rfl, hF, hS, h10, h10k⟩
   refine n_sq ?_
   refine q_seq (q_region (q_x (v := (.int .i64 x_8)) hF hS (ex_move rfl) rfl rfl fun a hF => q_x (v := (.int .i64 p_n)) hF hS (ex_move rfl) rfl rfl fun a hF => ?_))
   obtain ⟨t_11, ht_11, hr⟩ := bindS hr
   refine q_x (v := (.int .i64 t_11)) hF hS (ex_rem rfl rfl ht_11) rfl rfl fun a hF => q_x (v := (.int .i64 t_11)) hF hS (ex_assign rfl) rfl rfl fun a hF => q_end (n_sq (q_ret ?_))
   obtain rfl := someI hr
   exact ret_ofX hF hS rfl (.tmp rfl .nil) ⟨rfl, hS.sel [0] (by decide), h10k⟩
 ·have hr := cond_t hc1 hr
  refine q_cond_t hF rfl hc1 (q_seq (q_region (q_x (v := (.int .i64 0)) hF hS (ex_assign rfl) rfl rfl fun a hF => q_end (n_sq (q_ret (r_sq ?_))))))
  obtain rfl := someI hr
  exact ret_ofX hF hS rfl (.tmp rfl .nil) ⟨rfl, hS.sel [0] (by decide), rfl⟩

theorem c_spec_l1Own (p_l : List Int) (r : (List Int)) (hr : spec_l1Own p_l = some r) (w0 : World) (m : Mem) (hv : Vis m w0) (s1 : Sl) (h1 : Rd m s1 p_l) :
  Ret Tryd.prog 84 [s1.v] w0 (fun v w => ∃ (q0' : Piece) (s0' : Sl), v = s0'.v ∧ St [] w0 w m [q0'] ∧ OwnL m 3 q0' s0' r) := by
 unfold spec_l1Own at hr
 refine ret_start Tryd.func84 rfl 6 rfl rfl m hv fun a hF hS => q_seq (q_region (q_x (v := nilS.v) hF hS (ex_assign rfl) rfl rfl fun a hF => q_end (n_sq (q_seq (q_region (q_do rfl fun _ hK => wp_build0 (α := Int) hF hS Tryd.underlying42 inf3 rfl fun a w q2 s2 hF hS h2 _ => hK _ _ (q_x (v := s1.v) hF hS (ex_move rfl) rfl rfl fun a hF => ?_)))))))
 obtain ⟨l_3, hl_3, hr⟩ := bindS hr
 refine q_do rfl fun _ hK => wp_append hF hS h2 Tryd.underlying42 inf3 rfl rfl rfl rfl (h1.vw hS.vis) rfl (by decide) hl_3 rfl fun a w q4 s4 hF hS h4 => hK _ _ (q_x (v := s4.v) hF hS (ex_assign rfl) rfl rfl fun a hF => q_end (n_sq (q_ret ?_)))
 obtain rfl := someI hr
 exact ret_of hF hS rfl (.tmp rfl .nil) ⟨q4, s4, rfl, hS.sel [0] (by decide), h4⟩

theorem c_spec_l1Cur_geo (p_c : spec_l1Cur) (r : impl_Geo × spec_l1Cur) (hr : spec_l1Cur_geo p_c = some r) (w0 : World) (m : Mem) (b_p_c : Nat) (s1 : Sl) (h1 : Rd m s1 p_c.code) (X : List Nat) (hS : St X w0 w0 m [[⟨b_p_c, [s1.v, (.int .i64 p_c.at_), (.int .u64 p_c.seed.v)], 76⟩]]) :
  RetX Tryd.prog 99 [(.pointer (some ⟨b_p_c, 0, none⟩))] w0 (fun v w => ∃ (m' : Mem) (q0' : Piece) (s0' : Sl), v = (.agg #[s0'.v]) ∧ MLe X w0.heap.size m m' ∧ St X w0 w m' [[⟨b_p_c, [s1.v, (.int .i64 r.2.at_), (.int .u64 r.2.seed.v)], 76⟩], q0'] ∧ OwnL m' 3 q0' s0' r.1.Parents ∧ r.2.code = p_c.code) := by
 unfold spec_l1Cur_geo at hr
 refine ret_startX Tryd.func99 rfl 39 rfl rfl fun a hF => q_seq (q_region (q_alloc (cs := [nilS.v]) hF hS rfl rfl rfl fun a w b2 hF hS => q_end (n_sq (q_seq (q_region (q_do rfl fun _ hK => wp_buildSlice' (l := ([-1, 0, 0] : List Int)) (cells := [(.int .i64 (-1)), (.int .i64 0), (.int .i64 0)]) hF hS Tryd.underlying42 inf3 rfl rfl (by kernel_rfl) rfl rfl rfl ⟨rfl, rfl, rfl, rfl⟩ rfl rfl fun a w q3 s3 hF hS h3 _ => hK _ _ (q_do rfl fun _ hK => wp_buildSlice' (l := ([-1, 0, 0, 1, 1, 2, 2] : List Int)) (cells := [(.int .i64 (-1)), (.int .i64 0), (.int .i64 0), (.int .i64 1), (.int .i64 1), (.int .i64 2), (.int .i64 2)]) hF hS Tryd.underlying42 inf3 rfl rfl (by kernel_rfl) rfl rfl rfl ⟨rfl, rfl, rfl, rfl, rfl, rfl, rfl, rfl⟩ rfl rfl fun a w q4 s4 hF hS h4 _ => hK _ _ (q_do rfl fun _ hK => wp_buildSlice' (l := ([-1, 0, 0, 0, 1, 1, 2, 3] : List Int)) (cells := [(.int .i64 (-1)), (.int .i64 0), (.int .i64 0), (.int .i64 0), (.int .i64 1), (.int .i64 1), (.int .i64 2), (.int .i64 3)]) hF hS Tryd.underlying42 inf3 rfl rfl (by kernel_rfl) rfl rfl rfl ⟨rfl, rfl, rfl, rfl, rfl, rfl, rfl, rfl, rfl⟩ rfl rfl fun a w q5 s5 hF hS h5 _ => hK _ _ (q_do rfl fun _ hK => wp_buildSlice' (l := ([-1, 0, 0, 1, 1] : List Int)) (cells := [(.int .i64 (-1)), (.int .i64 0), (.int .i64 0), (.int .i64 1), (.int .i64 1)]) hF hS Tryd.underlying42 inf3 rfl rfl (by kernel_rfl) rfl rfl rfl ⟨rfl, rfl, rfl, rfl, rfl, rfl⟩ rfl rfl fun a w q6 s6 hF hS h6 _ => hK _ _ (q_do rfl fun _ hK => wp_buildSlice' (l := ([-1] : List Int)) (cells := [(.int .i64 (-1))]) hF hS Tryd.underlying42 inf3 rfl rfl (by kernel_rfl) rfl rfl rfl ⟨rfl, rfl⟩ rfl rfl fun a w q7 s7 hF hS h7 _ => hK _ _ (q_do rfl fun _ hK => wp_buildSlice' (l := ([-1, 0, 1, 2] : List Int)) (cells := [(.int .i64 (-1)), (.int .i64 0), (.int .i64 1), (.int .i64 2)]) hF hS Tryd.underlying42 inf3 rfl rfl (by kernel_rfl) rfl rfl rfl ⟨rfl, rfl, rfl, rfl, rfl⟩ rfl rfl fun a w q8 s8 hF hS h8 _ => hK _ _ ?_)))))))))))
 have hS : St _ _ _ _ [q3, q8, q7, q6, q5, q4, [⟨b2, [nilS.v], 60⟩], [⟨b_p_c, [s1.v, (.int .i64 p_c.at_), (.int .u64 p_c.seed.v)], 76⟩]] := hS.sel [5, 0, 1, 2, 3, 4, 6, 7] (by decide)
 obtain ⟨m10, hm10, hS, hz10⟩ := hS.freeze
 have h10 := h3.froz hm10.le hz10
 have hS : St _ _ _ _ [q4, q8, q7, q6, q5, [⟨b2, [nilS.v], 60⟩], [⟨b_p_c, [s1.v, (.int .i64 p_c.at_), (.int .u64 p_c.seed.v)], 76⟩]] := hS.sel [4, 0, 1, 2, 3, 5, 6] (by decide)
 obtain ⟨m11, hm11, hS, hz11⟩ := hS.freeze
 have h11 := (h4.mono hm10.le).froz hm11.le hz11
 have hS : St _ _ _ _ [q5, q8, q7, q6, [⟨b2, [nilS.v], 60⟩], [⟨b_p_c, [s1.v, (.int .i64 p_c.at_), (.int .u64 p_c.seed.v)], 76⟩]] := hS.sel [3, 0, 1, 2, 4, 5] (by decide)
 obtain ⟨m12, hm12, hS, hz12⟩ := hS.freeze
 have h12 := ((h5.mono hm10.le).mono hm11.le).froz hm12.le hz12
 have hS : St _ _ _ _ [q6, q8, q7, [⟨b2, [nilS.v], 60⟩], [⟨b_p_c, [s1.v, (.int .i64 p_c.at_), (.int .u64 p_c.seed.v)], 76⟩]] := hS.sel [2, 0, 1, 3, 4] (by decide)
 obtain ⟨m13, hm13, hS, hz13⟩ := hS.freeze
 have h13 := (((h6.mono hm10.le).mono hm11.le).mono hm12.le).froz hm13.le hz13
 have hS : St _ _ _ _ [q7, q8, [⟨b2, [nilS.v], 60⟩], [⟨b_p_c, [s1.v, (.int .i64 p_c.at_), (.int .u64 p_c.seed.v)], 76⟩]] := hS.sel [1, 0, 2, 3] (by decide)
 obtain ⟨m14, hm14, hS, hz14⟩ := hS.freeze
 have h14 := ((((h7.mono hm10.le).mono hm11.le).mono hm12.le).mono hm13.le).froz hm14.le hz14
 obtain ⟨m15, hm15, hS, hz15⟩ := hS.freeze
 have h15 := (((((h8.mono hm10.le).mono hm11.le).mono hm12.le).mono hm13.le).mono hm14.le).froz hm15.le hz15
 refine q_do rfl fun _ hK => wp_buildSlice' (l := ([([-1, 0, 0] : List Int), ([-1, 0, 0, 1, 1, 2, 2] : List Int), ([-1, 0, 0, 0, 1, 1, 2, 3] : List Int), ([-1, 0, 0, 1, 1] : List Int), ([-1] : List Int), ([-1, 0, 1, 2] : List Int)] : List (List Int))) (cells := [s3.v, s4.v, s5.v, s6.v, s7.v, s8.v]) hF hS Tryd.underlying128 inf42 rfl rfl (by kernel_rfl) rfl rfl rfl ⟨⟨s3, rfl, (((((h10.mono hm11.le).mono hm12.le).mono hm13.le).mono hm14.le).mono hm15.le)⟩, ⟨s4, rfl, ((((h11.mono hm12.le).mono hm13.le).mono hm14.le).mono hm15.le)⟩, ⟨s5, rfl, (((h12.mono hm13.le).mono hm14.le).mono hm15.le)⟩, ⟨s6, rfl, ((h13.mono hm14.le).mono hm15.le)⟩, ⟨s7, rfl, (h14.mono hm15.le)⟩, ⟨s8, rfl, h15⟩, rfl⟩ rfl rfl fun a w q9 s9 hF hS h9 _ => hK _ _ (q_x (v := s9.v) hF hS (ex_assign rfl) rfl rfl fun a hF => q_end (n_sq (q_seq (q_region (q_x (v := s9.v) hF hS (ex_move rfl) rfl rfl fun a hF => q_x (v := (.pointer (some ⟨b_p_c, 0, none⟩))) hF hS (ex_move rfl) rfl rfl fun a hF => q_x (v := s9.v) hF hS (ex_move rfl) rfl rfl fun a hF => q_x (v := (.int .i64 (goLen ([([-1, 0, 0] : List Int), ([-1, 0, 0, 1, 1, 2, 2] : List Int), ([-1, 0, 0, 0, 1, 1, 2, 3] : List Int), ([-1, 0, 0, 1, 1] : List Int), ([-1] : List Int), ([-1, 0, 1, 2] : List Int)] : List (List Int))))) hF hS (ex_len Tryd.underlying128 rfl h9.len) rfl rfl fun a hF => ?_)))))
 have hS : St _ _ _ _ [[⟨b_p_c, [s1.v, (.int .i64 p_c.at_), (.int .u64 p_c.seed.v)], 76⟩], q9, [⟨b2, [nilS.v], 60⟩]] := hS.sel [2, 0, 1] (by decide)
 have hS16 : St _ _ _ _ ([[⟨b_p_c, [s1.v, (.int .i64 p_c.at_), (.int .u64 p_c.seed.v)], 76⟩]] ++ [q9, [⟨b2, [nilS.v], 60⟩]]) := hS
 have hE16 := hS16.enter
 obtain ⟨t_17, ht_17, hr⟩ := bindS hr
 refine q_do rfl fun _ hK => wp_callX (vs := [(.pointer (some ⟨b_p_c, 0, none⟩)), (.int .i64 (goLen ([([-1, 0, 0] : List Int), ([-1, 0, 0, 1, 1, 2, 2] : List Int), ([-1, 0, 0, 0, 1, 1, 2, 3] : List Int), ([-1, 0, 0, 1, 1] : List Int), ([-1] : List Int), ([-1, 0, 1, 2] : List Int)] : List (List Int))))]) hF Tryd.func52 (by kernel_rfl) rfl rfl rfl (c_spec_l1Cur_pick p_c (goLen ([([-1, 0, 0] : List Int), ([-1, 0, 0, 1, 1, 2, 2] : List Int), ([-1, 0, 0, 0, 1, 1, 2, 3] : List Int), ([-1, 0, 0, 1, 1] : List Int), ([-1] : List Int), ([-1, 0, 1, 2] : List Int)] : List (List Int))) t_17 ht_17 _ m15 b_p_c s1 ((((((h1.mono hm10.le).mono hm11.le).mono hm12.le).mono hm13.le).mono hm14.le).mono hm15.le) _ hE16) fun a w _ hR hF => hK _ _ ?_
 obtain ⟨rfl, hR16, hk18⟩ := hR
 have hS : St _ _ _ _ [[⟨b_p_c, [s1.v, (.int .i64 t_17.2.at_), (.int .u64 t_17.2.seed.v)], 76⟩], q9, [⟨b2, [nilS.v], 60⟩]] := hS16.leaveF hR16
 have h18 : Rd m15 s1 t_17.2.code := by rw [hk18]; exact ((((((h1.mono hm10.le).mono hm11.le).mono hm12.le).mono hm13.le).mono hm14.le).mono hm15.le)
 obtain ⟨e_19, he_19, hr⟩ := bindS hr
 obtain ⟨vs20, at20, d20⟩ := h9.at he_19 1 rfl
 obtain ⟨s21, rfl, h21⟩ : ∃ s21 : Sl, vs20 = [s21.v] ∧ Rd m15 s21 e_19 := d20
 refine q_x (v := (elP s9 (t_17.1.toNat * 1))) hF hS (ex_indexAddr Tryd.underlying128 sz42 rfl rfl (h9.idx he_19)) rfl rfl fun a hF => q_x (v := s21.v) hF hS (ex_loadE1 0 Tryd.underlying42 rfl rfl (at20.at 1 rfl) rfl rfl) rfl rfl fun a hF => ?_
 obtain ⟨t_22, ht_22, hr⟩ := bindS hr
 refine q_call (vs := [s21.v]) hF hS Tryd.func84 (by kernel_rfl) rfl rfl rfl (c_spec_l1Own e_19 t_22 ht_22 _ m15 hS.vis s21 h21) ?_
 rintro a w _ ⟨q24, s24, rfl, hR23, h24⟩ hF hS2
 have hS : St _ _ _ _ [q24, [⟨b_p_c, [s1.v, (.int .i64 t_17.2.at_), (.int .u64 t_17.2.seed.v)], 76⟩], q9, [⟨b2, [nilS.v], 60⟩]] := hS.joinF hR23
 refine q_x (v := (.agg #[s24.v])) hF hS (ex_build (cells := [s24.v]) rfl (by kernel_rfl)) rfl rfl fun a hF => q_alloc (cs := [nilS.v]) hF hS rfl rfl rfl fun a w b25 hF hS => q_store (vs := [s24.v]) (cs' := [s24.v]) 0 0 hF hS sz60 rfl rfl rfl rfl rfl rfl rfl rfl fun a w hF hS => q_end (n_sq (q_seq (q_seq (q_region (q_x (v := (.pointer (some ⟨b_p_c, 0, none⟩))) hF hS (ex_move rfl) rfl rfl fun a hF => ?_)))))
 have hS : St _ _ _ _ [[⟨b_p_c, [s1.v, (.int .i64 t_17.2.at_), (.int .u64 t_17.2.seed.v)], 76⟩], [⟨b25, [s24.v], 60⟩], q24, q9, [⟨b2, [nilS.v], 60⟩]] := hS.sel [2, 0, 1, 3, 4] (by decide)
 have hS26 : St _ _ _ _ ([[⟨b_p_c, [s1.v, (.int .i64 t_17.2.at_), (.int .u64 t_17.2.seed.v)], 76⟩]] ++ [[⟨b25, [s24.v], 60⟩], q24, q9, [⟨b2, [nilS.v], 60⟩]]) := hS
 have hE26 := hS26.enter
 obtain ⟨t_27, ht_27, hr⟩ := bindS hr
 refine q_do rfl fun _ hK => wp_callX (vs := [(.pointer (some ⟨b_p_c, 0, none⟩)), (.int .i64 4)]) hF Tryd.func52 (by kernel_rfl) rfl rfl rfl (c_spec_l1Cur_pick t_17.2 4 t_27 ht_27 _ m15 b_p_c s1 h18 _ hE26) fun a w _ hR hF => hK _ _ ?_
 obtain ⟨rfl, hR26, hk28⟩ := hR
 have hS : St _ _ _ _ [[⟨b_p_c, [s1.v, (.int .i64 t_27.2.at_), (.int .u64 t_27.2.seed.v)], 76⟩], [⟨b25, [s24.v], 60⟩], q24, q9, [⟨b2, [nilS.v], 60⟩]] := hS26.leaveF hR26
 have h28 : Rd m15 s1 t_27.2.code := by rw [hk28]; exact h18
 refine q_x (v := (.int .i64 t_27.1)) hF hS (ex_assign rfl) rfl rfl fun a hF => q_end (n_sq (q_block ?_))
 obtain ⟨o1, hl1, hr⟩ := bindS hr
 refine q_loop (fun (s : Int × spec_l1Cur × impl_Geo) a w => ∃ (q33 : Piece), ∃ (s33 : Sl), ∃ k_29, ∃ p_c_30, ∃ g_32, s = (k_29, p_c_30, g_32) ∧ Fr a 39 [(0, (.pointer (some ⟨b_p_c, 0, none⟩))), (2, (.pointer (some ⟨b2, 0, none⟩))), (4, (.pointer (some ⟨b25, 0, none⟩))), (5, (.int .i64 k_29))] ∧ St X w0 w m15 [q33, [⟨b_p_c, [s1.v, (.int .i64 p_c_30.at_), (.int .u64 p_c_30.seed.v)], 76⟩], [⟨b25, [s33.v], 60⟩], [⟨b2, [nilS.v], 60⟩]] ∧ Rd m15 s1 p_c_30.code ∧ p_c_30.code = p_c.code ∧ OwnL m15 3 q33 s33 g_32.Parents) (fun (o : spec_l1Cur × impl_Geo) e a w => ∃ (q47 : Piece), ∃ (s47 : Sl), ∃ p_c_44, ∃ g_46, o = (p_c_44, g_46) ∧ e = .exit 0 ∧ Fr a 39 [(2, (.pointer (some ⟨b2, 0, none⟩))), (4, (.pointer (some ⟨b25, 0, none⟩)))] ∧ St X w0 w m15 [q47, [⟨b_p_c, [s1.v, (.int .i64 p_c_44.at_), (.int .u64 p_c_44.seed.v)], 76⟩], [⟨b25, [s47.v], 60⟩], [⟨b2, [nilS.v], 60⟩]] ∧ Rd m15 s1 p_c_44.code ∧ p_c_44.code = p_c.code ∧ OwnL m15 3 q47 s47 g_46.Parents) hl1 ⟨q24, s24, _, _, _, rfl, hF.sub ⟨rfl, rfl, rfl, rfl, trivial⟩, hS.sel [2, 0, 1, 4] (by decide), h28, (hk28.trans hk18), h24⟩ ?_ ?_
 ·clear hF hS
  rintro s a w st ⟨q33, s33, k_29, p_c_30, g_32, rfl, hF, hS, h31, h31k, h33⟩ hb1
  unfold spec_l1Cur_geo_l1 at hb1
  refine q_seq (q_seq (q_region (q_x (v := (.int .i64 k_29)) hF hS (ex_move rfl) rfl rfl fun a hF => q_x (v := (.bool (decide (0 < k_29)))) hF hS (ex_ibin rfl rfl rfl) rfl rfl fun a hF => q_end (n_sq ?_))))
  rcases bcase (decide (0 < k_29)) with hc2 | hc2
  ·have hb1 := cond_f hc2 hb1
   refine q_cond_f hF rfl hc2 (q_exit (x_sq ?_))
   obtain rfl := someI hb1
   exact ⟨nofun, .inl ⟨q33, s33, _, _, rfl, rfl, hF.sub ⟨rfl, rfl, trivial⟩, hS, h31, h31k, h33⟩⟩
  ·have hb1 := cond_t hc2 hb1
   refine q_cond_t hF rfl hc2 (q_skipc (n_sq (q_seq (q_block ?_))))
   obtain ⟨j3, hj3, hb1⟩ := bindS hb1
   refine q_join (fun a w => ∃ (q43 : Piece), ∃ (s43 : Sl), ∃ p_c_40, ∃ g_42, j3 = (p_c_40, g_42) ∧ Fr a 39 [(0, (.pointer (some ⟨b_p_c, 0, none⟩))), (2, (.pointer (some ⟨b2, 0, none⟩))), (4, (.pointer (some ⟨b25, 0, none⟩))), (5, (.int .i64 k_29))] ∧ St X w0 w m15 [q43, [⟨b_p_c, [s1.v, (.int .i64 p_c_40.at_), (.int .u64 p_c_40.seed.v)], 76⟩], [⟨b25, [s43.v], 60⟩], [⟨b2, [nilS.v], 60⟩]] ∧ Rd m15 s1 p_c_40.code ∧ p_c_40.code = p_c.code ∧ OwnL m15 3 q43 s43 g_42.Parents) ?_ ?_
   ·refine e_region ⟨[6, 8, 10], []⟩ mixed fun w' hw' => ?_
    have hS := hS.below hw'
    refine e_p (v := (.pointer (some ⟨b25, 0, none⟩))) 0 hF rfl (ex_fieldAddr Tryd.underlying60 rfl sz42 rfl rfl) rfl rfl (by kernel_rfl) (by kernel_rfl) (by kernel_rfl) fun a hF => e_p (v := (.pointer (some ⟨b_p_c, 0, none⟩))) 2 hF rfl (ex_move rfl) rfl rfl (by kernel_rfl) (by kernel_rfl) (by kernel_rfl) fun a hF => e_p (v := (.pointer (some ⟨b25, 0, none⟩))) 3 hF rfl (ex_fieldAddr Tryd.underlying60 rfl sz42 rfl rfl) rfl rfl (by kernel_rfl) (by kernel_rfl) (by kernel_rfl) fun a hF => ?_
    obtain ⟨t_35, ht_35, hj3⟩ := bindS hj3
    obtain ⟨l_38, hl_38, hj3⟩ := bindS hj3
    refine e_all [1, 4] (by kernel_rfl) rfl ⟨?_, ?_, trivial⟩
    ·refine e_lx (v := s33.v) hF hS rfl (ex_load1 2 0 Tryd.underlying42 rfl rfl rfl rfl) rfl rfl fun a hF => e_one 4 (by kernel_rfl) (e_lx (v := s33.v) hF hS rfl (ex_load1 2 0 Tryd.underlying42 rfl rfl rfl rfl) rfl rfl fun a hF => e_p (v := (.int .i64 (goLen g_32.Parents))) 5 hF rfl (ex_len Tryd.underlying42 rfl h33.len) rfl rfl (by kernel_rfl) (by kernel_rfl) (by kernel_rfl) fun a hF => e_one 6 (by kernel_rfl) ?_)
     have hS : St _ _ _ _ [[⟨b_p_c, [s1.v, (.int .i64 p_c_30.at_), (.int .u64 p_c_30.seed.v)], 76⟩], q33, [⟨b25, [s33.v], 60⟩], [⟨b2, [nilS.v], 60⟩]] := hS.sel [1, 0, 2, 3] (by decide)
     have hS34 : St _ _ _ _ ([[⟨b_p_c, [s1.v, (.int .i64 p_c_30.at_), (.int .u64 p_c_30.seed.v)], 76⟩]] ++ [q33, [⟨b25, [s33.v], 60⟩], [⟨b2, [nilS.v], 60⟩]]) := hS
     have hE34 := hS34.enter
     refine e_opl rfl rfl rfl fun _ hK => wp_callX (vs := [(.pointer (some ⟨b_p_c, 0, none⟩)), (.int .i64 (goLen g_32.Parents))]) hF Tryd.func52 (by kernel_rfl) rfl rfl rfl (c_spec_l1Cur_pick p_c_30 (goLen g_32.Parents) t_35 ht_35 _ m15 b_p_c s1 h31 _ hE34) fun a w _ hR hF => hK _ _ ?_
     obtain ⟨rfl, hR34, hk36⟩ := hR
     have hS : St _ _ _ _ [[⟨b_p_c, [s1.v, (.int .i64 t_35.2.at_), (.int .u64 t_35.2.seed.v)], 76⟩], q33, [⟨b25, [s33.v], 60⟩], [⟨b2, [nilS.v], 60⟩]] := hS34.leaveF hR34
     have h36 : Rd m15 s1 t_35.2.code := by rw [hk36]; exact h31
     refine ⟨kpN, ?_⟩
     refine e_one 7 (by kernel_rfl) (e_op rfl rfl fun _ hK => wp_buildSlice' (l := ([t_35.1] : List Int)) (cells := [(.int .i64 t_35.1)]) hF hS Tryd.underlying42 inf3 rfl rfl (by kernel_rfl) rfl rfl rfl ⟨rfl, rfl⟩ rfl rfl fun a w q37 s37 hF hS h37 hb => hK _ _ hb (e_one 8 (by kernel_rfl) ?_))
     have hS : St _ _ _ _ [q33, q37, [⟨b_p_c, [s1.v, (.int .i64 t_35.2.at_), (.int .u64 t_35.2.seed.v)], 76⟩], [⟨b25, [s33.v], 60⟩], [⟨b2, [nilS.v], 60⟩]] := hS.sel [2, 0, 1, 3, 4] (by decide)
     refine e_opl rfl rfl rfl fun _ hK => wp_append hF hS h33 Tryd.underlying42 inf3 rfl rfl rfl rfl (h37.vw hS (j := 1) rfl) rfl (by decide) hl_38 rfl fun a w q39 s39 hF hS h39 => hK _ _ (⟨kpN, ?_⟩)
     refine e_p (v := (.pointer (some ⟨b25, 0, none⟩))) 9 hF rfl (ex_fieldAddr Tryd.underlying60 rfl sz42 rfl rfl) rfl rfl (by kernel_rfl) (by kernel_rfl) (by kernel_rfl) fun a hF => e_one 10 (by kernel_rfl) (e_store (vs := [s39.v]) (cs' := [s39.v]) 3 0 hF hS rfl rfl sz42 rfl rfl rfl rfl rfl rfl rfl rfl fun a w hF hS => ⟨kpN, ?_⟩)
     refine e_end (by kernel_rfl) (n_jn ?_) _
     obtain rfl := someI hj3
     exact ⟨q39, s39, _, _, rfl, hF.sub ⟨rfl, rfl, rfl, rfl, trivial⟩, hS.mask [true, false, true, true, true], h36, (hk36.trans h31k), h39⟩
    ·refine e_lx (v := s33.v) hF hS rfl (ex_load1 2 0 Tryd.underlying42 rfl rfl rfl rfl) rfl rfl fun a hF => e_p (v := (.int .i64 (goLen g_32.Parents))) 5 hF rfl (ex_len Tryd.underlying42 rfl h33.len) rfl rfl (by kernel_rfl) (by kernel_rfl) (by kernel_rfl) fun a hF => e_all [1, 6] (by kernel_rfl) rfl ⟨?_, ?_, trivial⟩
     ·refine e_lx (v := s33.v) hF hS rfl (ex_load1 2 0 Tryd.underlying42 rfl rfl rfl rfl) rfl rfl fun a hF => e_one 6 (by kernel_rfl) ?_
      have hS : St _ _ _ _ [[⟨b_p_c, [s1.v, (.int .i64 p_c_30.at_), (.int .u64 p_c_30.seed.v)], 76⟩], q33, [⟨b25, [s33.v], 60⟩], [⟨b2, [nilS.v], 60⟩]] := hS.sel [1, 0, 2, 3] (by decide)
      have hS34 : St _ _ _ _ ([[⟨b_p_c, [s1.v, (.int .i64 p_c_30.at_), (.int .u64 p_c_30.seed.v)], 76⟩]] ++ [q33, [⟨b25, [s33.v], 60⟩], [⟨b2, [nilS.v], 60⟩]]) := hS
      have hE34 := hS34.enter
      refine e_opl rfl rfl rfl fun _ hK => wp_callX (vs := [(.pointer (some ⟨b_p_c, 0, none⟩)), (.int .i64 (goLen g_32.Parents))]) hF Tryd.func52 (by kernel_rfl) rfl rfl rfl (c_spec_l1Cur_pick p_c_30 (goLen g_32.Parents) t_35 ht_35 _ m15 b_p_c s1 h31 _ hE34) fun a w _ hR hF => hK _ _ ?_
      obtain ⟨rfl, hR34, hk36⟩ := hR
      have hS : St _ _ _ _ [[⟨b_p_c, [s1.v, (.int .i64 t_35.2.at_), (.int .u64 t_35.2.seed.v)], 76⟩], q33, [⟨b25, [s33.v], 60⟩], [⟨b2, [nilS.v], 60⟩]] := hS34.leaveF hR34
      have h36 : Rd m15 s1 t_35.2.code := by rw [hk36]; exact h31
      refine ⟨kpN, ?_⟩
      refine e_one 7 (by kernel_rfl) (e_op rfl rfl fun _ hK => wp_buildSlice' (l := ([t_35.1] : List Int)) (cells := [(.int .i64 t_35.1)]) hF hS Tryd.underlying42 inf3 rfl rfl (by kernel_rfl) rfl rfl rfl ⟨rfl, rfl⟩ rfl rfl fun a w q37 s37 hF hS h37 hb => hK _ _ hb (e_one 8 (by kernel_rfl) ?_))
      have hS : St _ _ _ _ [q33, q37, [⟨b_p_c, [s1.v, (.int .i64 t_35.2.at_), (.int .u64 t_35.2.seed.v)], 76⟩], [⟨b25, [s33.v], 60⟩], [⟨b2, [nilS.v], 60⟩]] := hS.sel [2, 0, 1, 3, 4] (by decide)
      refine e_opl rfl rfl rfl fun _ hK => wp_append hF hS h33 Tryd.underlying42 inf3 rfl rfl rfl rfl (h37.vw hS (j := 1) rfl) rfl (by decide) hl_38 rfl fun a w q39 s39 hF hS h39 => hK _ _ (⟨kpN, ?_⟩)
      refine e_p (v := (.pointer (some ⟨b25, 0, none⟩))) 9 hF rfl (ex_fieldAddr Tryd.underlying60 rfl sz42 rfl rfl) rfl rfl (by kernel_rfl) (by kernel_rfl) (by kernel_rfl) fun a hF => e_one 10 (by kernel_rfl) (e_store (vs := [s39.v]) (cs' := [s39.v]) 3 0 hF hS rfl rfl sz42 rfl rfl rfl rfl rfl rfl rfl rfl fun a w hF hS => ⟨kpN, ?_⟩)
      refine e_end (by kernel_rfl) (n_jn ?_) _
      obtain rfl := someI hj3
      exact ⟨q39, s39, _, _, rfl, hF.sub ⟨rfl, rfl, rfl, rfl, trivial⟩, hS.mask [true, false, true, true, true], h36, (hk36.trans h31k), h39⟩
     ·have hS : St _ _ _ _ [[⟨b_p_c, [s1.v, (.int .i64 p_c_30.at_), (.int .u64 p_c_30.seed.v)], 76⟩], q33, [⟨b25, [s33.v], 60⟩], [⟨b2, [nilS.v], 60⟩]] := hS.sel [1, 0, 2, 3] (by decide)
      have hS34 : St _ _ _ _ ([[⟨b_p_c, [s1.v, (.int .i64 p_c_30.at_), (.int .u64 p_c_30.seed.v)], 76⟩]] ++ [q33, [⟨b25, [s33.v], 60⟩], [⟨b2, [nilS.v], 60⟩]]) := hS
      have hE34 := hS34.enter
      refine e_opl rfl rfl rfl fun _ hK => wp_callX (vs := [(.pointer (some ⟨b_p_c, 0, none⟩)), (.int .i64 (goLen g_32.Parents))]) hF Tryd.func52 (by kernel_rfl) rfl rfl rfl (c_spec_l1Cur_pick p_c_30 (goLen g_32.Parents) t_35 ht_35 _ m15 b_p_c s1 h31 _ hE34) fun a w _ hR hF => hK _ _ ?_
      obtain ⟨rfl, hR34, hk36⟩ := hR
      have hS : St _ _ _ _ [[⟨b_p_c, [s1.v, (.int .i64 t_35.2.at_), (.int .u64 t_35.2.seed.v)], 76⟩], q33, [⟨b25, [s33.v], 60⟩], [⟨b2, [nilS.v], 60⟩]] := hS34.leaveF hR34
      have h36 : Rd m15 s1 t_35.2.code := by rw [hk36]; exact h31
      refine ⟨kpN, ?_⟩
      refine e_x (v := s33.v) 1 hF hS rfl (ex_load1 2 0 Tryd.underlying42 rfl rfl rfl rfl) rfl rfl (by kernel_rfl) (by kernel_rfl) (by kernel_rfl) (by kernel_rfl) fun a hF => e_one 7 (by kernel_rfl) (e_op rfl rfl fun _ hK => wp_buildSlice' (l := ([t_35.1] : List Int)) (cells := [(.int .i64 t_35.1)]) hF hS Tryd.underlying42 inf3 rfl rfl (by kernel_rfl) rfl rfl rfl ⟨rfl, rfl⟩ rfl rfl fun a w q37 s37 hF hS h37 hb => hK _ _ hb (e_one 8 (by kernel_rfl) ?_))
      have hS : St _ _ _ _ [q33, q37, [⟨b_p_c, [s1.v, (.int .i64 t_35.2.at_), (.int .u64 t_35.2.seed.v)], 76⟩], [⟨b25, [s33.v], 60⟩], [⟨b2, [nilS.v], 60⟩]] := hS.sel [2, 0, 1, 3, 4] (by decide)
      refine e_opl rfl rfl rfl fun _ hK => wp_append hF hS h33 Tryd.underlying42 inf3 rfl rfl rfl rfl (h37.vw hS (j := 1) rfl) rfl (by decide) hl_38 rfl fun a w q39 s39 hF hS h39 => hK _ _ (⟨kpN, ?_⟩)
      refine e_p (v := (.pointer (some ⟨b25, 0, none⟩))) 9 hF rfl (ex_fieldAddr Tryd.underlying60 rfl sz42 rfl rfl) rfl rfl (by kernel_rfl) (by kernel_rfl) (by kernel_rfl) fun a hF => e_one 10 (by kernel_rfl) (e_store (vs := [s39.v]) (cs' := [s39.v]) 3 0 hF hS rfl rfl sz42 rfl rfl rfl rfl rfl rfl rfl rfl fun a w hF hS => ⟨kpN, ?_⟩)
      refine e_end (by kernel_rfl) (n_jn ?_) _
      obtain rfl := someI hj3
      exact ⟨q39, s39, _, _, rfl, hF.sub ⟨rfl, rfl, rfl, rfl, trivial⟩, hS.mask [true, false, true, true, true], h36, (hk36.trans h31k), h39⟩
   ·rintro a w ⟨q43, s43, p_c_40, g_42, rfl, hF, hS, h41, h41k, h43⟩
    refine n_ib (n_sq ?_)
    refine q_region (q_x (v := (.int .i64 k_29)) hF hS (ex_move rfl) rfl rfl fun a hF => q_x (v := (.int .i64 (w64 (k_29 - 1)))) hF hS (ex_ibin rfl rfl rfl) rfl rfl fun a hF => q_x (v := (.int .i64 (w64 (k_29 - 1)))) hF hS (ex_assign rfl) rfl rfl fun a hF => q_end ?_)
    obtain rfl := someI hb1
    exact ⟨rfl, q43, s43, _, _, _, rfl, hF.sub ⟨rfl, rfl, rfl, rfl, trivial⟩, hS, h41, h41k, h43⟩
 ·rintro e a w ⟨q47, s47, p_c_44, g_46, rfl, rfl, hF, hS, h45, h45k, h47⟩
  refine x_ib (n_sq ?_)
  refine q_seq (q_region (q_x (v := (.agg #[s47.v])) hF hS (ex_loadA (vs := [s47.v]) 2 0 Tryd.underlying60 rfl sz60 rfl rfl rfl rfl) rfl rfl fun a hF => q_store (vs := [s47.v]) (cs' := [s47.v]) 3 0 hF hS sz60 rfl rfl rfl rfl rfl rfl rfl rfl fun a w hF hS => q_end (n_sq (q_ret ?_))))
  obtain rfl := someI hr
  exact ret_ofX hF hS rfl (.cellA (us := [s47.v]) 3 0 Tryd.underlying60 rfl sz60 rfl rfl rfl rfl .nil) ⟨m15, q47, s47, rfl, (((((hm10.trans hm11).trans hm12).trans hm13).trans hm14).trans hm15), hS.sel [1, 0] (by decide), h47, h45k⟩

theorem c_spec_l1Cur_among (p_c : spec_l1Cur) (p_list : List Int) (r : Int × spec_l1Cur) (hr : spec_l1Cur_among p_c p_list = some r) (w0 : World) (m : Mem) (b_p_c : Nat) (s1 : Sl) (h1 : Rd m s1 p_c.code) (s2 : Sl) (h2 : Rd m s2 p_list) (X : List Nat) (hS : St X w0 w0 m [[⟨b_p_c, [s1.v, (.int .i64 p_c.at_), (.int .u64 p_c.seed.v)], 76⟩]]) :
  RetX Tryd.prog 60 [(.pointer (some ⟨b_p_c, 0, none⟩)), s2.v] w0 (fun v w => v = (.int .i64 r.1) ∧ St X w0 w m [[⟨b_p_c, [s1.v, (.int .i64 r.2.at_), (.int .u64 r.2.seed.v)], 76⟩]] ∧ r.2.code = p_c.code) := by
 unfold spec_l1Cur_among at hr
 refine ret_startX Tryd.func60 rfl 12 rfl rfl fun a hF => q_seq (q_region (q_x (v := (.int .i64 0)) hF hS (ex_assign rfl) rfl rfl fun a hF => q_end (n_sq (q_seq (q_region (q_x (v := s2.v) hF hS (ex_move rfl) rfl rfl fun a hF => q_x (v := (.pointer (some ⟨b_p_c, 0, none⟩))) hF hS (ex_move rfl) rfl rfl fun a hF => q_x (v := s2.v) hF hS (ex_move rfl) rfl rfl fun a hF => q_x (v := (.int .i64 (goLen p_list))) hF hS (ex_len Tryd.underlying42 rfl h2.len) rfl rfl fun a hF => ?_))))))
 have hS3 : St _ _ _ _ ([[⟨b_p_c, [s1.v, (.int .i64 p_c.at_), (.int .u64 p_c.seed.v)], 76⟩]] ++ []) := hS
 have hE3 := hS3.enter
 obtain ⟨t_4, ht_4, hr⟩ := bindS hr
 refine q_do rfl fun _ hK => wp_callX (vs := [(.pointer (some ⟨b_p_c, 0, none⟩)), (.int .i64 (goLen p_list))]) hF Tryd.func52 (by kernel_rfl) rfl rfl rfl (c_spec_l1Cur_pick p_c (goLen p_list) t_4 ht_4 _ m b_p_c s1 h1 _ hE3) fun a w _ hR hF => hK _ _ ?_
 obtain ⟨rfl, hR3, hk5⟩ := hR
 have hS : St _ _ _ _ [[⟨b_p_c, [s1.v, (.int .i64 t_4.2.at_), (.int .u64 t_4.2.seed.v)], 76⟩]] := hS3.leaveF hR3
 have h5 : Rd m s1 t_4.2.code := by rw [hk5]; exact h1
 obtain ⟨e_6, he_6, hr⟩ := bindS hr
 obtain ⟨vs7, at7, d7⟩ := h2.at he_6 1 rfl
 obtain rfl : vs7 = [(.int .i64 e_6)] := d7
 refine q_x (v := (elP s2 (t_4.1.toNat * 1))) hF hS (ex_indexAddr Tryd.underlying42 sz3 rfl rfl (h2.idx he_6)) rfl rfl fun a hF => q_x (v := (.int .i64 e_6)) hF hS (ex_loadE1 0 Tryd.underlying3 rfl rfl ((at7).at) rfl rfl) rfl rfl fun a hF => q_x (v := (.int .i64 e_6)) hF hS (ex_assign rfl) rfl rfl fun a hF => q_end (n_sq (q_ret ?_))
 obtain rfl := someI hr
 exact ret_ofX hF hS rfl (.tmp rfl .nil) ⟨rfl, hS.sel [0] (by decide), hk5⟩

theorem c_spec_l1Cur_anyGeo (p_c : spec_l1Cur) (r : impl_Geo × spec_l1Cur) (hr : spec_l1Cur_anyGeo p_c = some r) (w0 : World) (m : Mem) (b_p_c : Nat) (s1 : Sl) (h1 : Rd m s1 p_c.code) (X : List Nat) (hS : St X w0 w0 m [[⟨b_p_c, [s1.v, (.int .i64 p_c.at_), (.int .u64 p_c.seed.v)], 76⟩]]) :
  RetX Tryd.prog 102 [(.pointer (some ⟨b_p_c, 0, none⟩))] w0 (fun v w => ∃ (m' : Mem) (q0' : Piece) (s0' : Sl), v = (.agg #[s0'.v]) ∧ MLe X w0.heap.size m m' ∧ St X w0 w m' [[⟨b_p_c, [s1.v, (.int .i64 r.2.at_), (.int .u64 r.2.seed.v)], 76⟩], q0'] ∧ OwnL m' 3 q0' s0' r.1.Parents ∧ r.2.code = p_c.code) := by
 unfold spec_l1Cur_anyGeo at hr
 refine ret_startX Tryd.func102 rfl 43 rfl rfl fun a hF => q_seq (q_region (q_alloc (cs := [nilS.v]) hF hS rfl rfl rfl fun a w b2 hF hS => q_end (n_sq (q_seq (q_region (q_x (v := (.pointer (some ⟨b_p_c, 0, none⟩))) hF hS (ex_move rfl) rfl rfl fun a hF => ?_))))))
 have hS : St _ _ _ _ [[⟨b_p_c, [s1.v, (.int .i64 p_c.at_), (.int .u64 p_c.seed.v)], 76⟩], [⟨b2, [nilS.v], 60⟩]] := hS.sel [1, 0] (by decide)
 have hS3 : St _ _ _ _ ([[⟨b_p_c, [s1.v, (.int .i64 p_c.at_), (.int .u64 p_c.seed.v)], 76⟩]] ++ [[⟨b2, [nilS.v], 60⟩]]) := hS
 have hE3 := hS3.enter
 obtain ⟨t_4, ht_4, hr⟩ := bindS hr
 refine q_do rfl fun _ hK => wp_callX (vs := [(.pointer (some ⟨b_p_c, 0, none⟩))]) hF Tryd.func99 (by kernel_rfl) rfl rfl rfl (c_spec_l1Cur_geo p_c t_4 ht_4 _ m b_p_c s1 h1 _ hE3) fun a w _ hR hF => hK _ _ ?_
 obtain ⟨m3', q5, s5, rfl, hm3, hR3, h5, hk6⟩ := hR
 have hS : St _ _ _ _ [[⟨b_p_c, [s1.v, (.int .i64 t_4.2.at_), (.int .u64 t_4.2.seed.v)], 76⟩], q5, [⟨b2, [nilS.v], 60⟩]] := hS3.leave hR3 hm3
 have hm3 := MLe.weakX hS3 hm3
 have h6 : Rd m3' s1 t_4.2.code := by rw [hk6]; exact (h1.mono hm3.le)
 refine q_alloc (cs := [nilS.v]) hF hS rfl rfl rfl fun a w b7 hF hS => q_store (vs := [s5.v]) (cs' := [s5.v]) 0 0 hF hS sz60 rfl rfl rfl rfl rfl rfl rfl rfl fun a w hF hS => q_end (n_sq (q_seq (q_seq (q_region (q_x (v := (.pointer (some ⟨b_p_c, 0, none⟩))) hF hS (ex_move rfl) rfl rfl fun a hF => ?_)))))
 have hS : St _ _ _ _ [[⟨b_p_c, [s1.v, (.int .i64 t_4.2.at_), (.int .u64 t_4.2.seed.v)], 76⟩], [⟨b7, [s5.v], 60⟩], q5, [⟨b2, [nilS.v], 60⟩]] := hS.sel [1, 0, 2, 3] (by decide)
 have hS8 : St _ _ _ _ ([[⟨b_p_c, [s1.v, (.int .i64 t_4.2.at_), (.int .u64 t_4.2.seed.v)], 76⟩]] ++ [[⟨b7, [s5.v], 60⟩], q5, [⟨b2, [nilS.v], 60⟩]]) := hS
 have hE8 := hS8.enter
 obtain ⟨t_9, ht_9, hr⟩ := bindS hr
 refine q_do rfl fun _ hK => wp_callX (vs := [(.pointer (some ⟨b_p_c, 0, none⟩)), (.int .i64 24)]) hF Tryd.func52 (by kernel_rfl) rfl rfl rfl (c_spec_l1Cur_pick t_4.2 24 t_9 ht_9 _ m3' b_p_c s1 h6 _ hE8) fun a w _ hR hF => hK _ _ ?_
 obtain ⟨rfl, hR8, hk10⟩ := hR
 have hS : St _ _ _ _ [[⟨b_p_c, [s1.v, (.int .i64 t_9.2.at_), (.int .u64 t_9.2.seed.v)], 76⟩], [⟨b7, [s5.v], 60⟩], q5, [⟨b2, [nilS.v], 60⟩]] := hS8.leaveF hR8
 have h10 : Rd m3' s1 t_9.2.code := by rw [hk10]; exact h6
 refine q_end (n_sq (q_block (q_seq (q_region (q_x (v := (.bool (t_9.1 == 0))) hF hS (ex_ibin rfl rfl rfl) rfl rfl fun a hF => q_x (v := (.bool (t_9.1 == 0))) hF hS (ex_assign rfl) rfl rfl fun a hF => q_end (n_sq ?_))))))
 obtain ⟨j1, hj1, hr⟩ := bindS hr
 refine q_join (fun a w => ∃ (q44 : Piece), ∃ (s44 : Sl), ∃ p_c_41, ∃ g_43, j1 = .inl (p_c_41, g_43) ∧ Fr a 43 [(2, (.pointer (some ⟨b2, 0, none⟩))), (3, (.pointer (some ⟨b7, 0, none⟩)))] ∧ St X w0 w m3' [q44, [⟨b_p_c, [s1.v, (.int .i64 p_c_41.at_), (.int .u64 p_c_41.seed.v)], 76⟩], [⟨b7, [s44.v], 60⟩], [⟨b2, [nilS.v], 60⟩]] ∧ Rd m3' s1 p_c_41.code ∧ p_c_41.code = p_c.code ∧ OwnL m3' 3 q44 s44 g_43.Parents) ?_ ?_
 ·rcases bcase (t_9.1 == 0) with hc2 | hc2
  ·have hj1 := cond_f hc2 hj1
   refine q_cond_f hF rfl hc2 (q_seq (q_region (q_x (v := (.bool (t_9.1 == 1))) hF hS (ex_ibin rfl rfl rfl) rfl rfl fun a hF => q_x (v := (.bool (t_9.1 == 1))) hF hS (ex_assign rfl) rfl rfl fun a hF => q_end (n_sq ?_))))
   obtain ⟨j3, hj3, hj1⟩ := bindS hj1
   refine q_join (fun a w => ∃ (q37 : Piece), ∃ (s37 : Sl), ∃ p_c_34, ∃ g_36, j3 = .inl (p_c_34, g_36) ∧ Fr a 43 [(2, (.pointer (some ⟨b2, 0, none⟩))), (3, (.pointer (some ⟨b7, 0, none⟩)))] ∧ St X w0 w m3' [q37, [⟨b_p_c, [s1.v, (.int .i64 p_c_34.at_), (.int .u64 p_c_34.seed.v)], 76⟩], [⟨b7, [s37.v], 60⟩], [⟨b2, [nilS.v], 60⟩]] ∧ Rd m3' s1 p_c_34.code ∧ p_c_34.code = p_c.code ∧ OwnL m3' 3 q37 s37 g_36.Parents) ?_ ?_
   ·rcases bcase (t_9.1 == 1) with hc4 | hc4
    ·have hj3 := cond_f hc4 hj3
     refine q_cond_f hF rfl hc4 (q_seq (q_region (q_x (v := (.bool (t_9.1 == 2))) hF hS (ex_ibin rfl rfl rfl) rfl rfl fun a hF => q_x (v := (.bool (t_9.1 == 2))) hF hS (ex_assign rfl) rfl rfl fun a hF => q_end (n_sq ?_))))
     rcases bcase (t_9.1 == 2) with hc5 | hc5
     ·have hj3 := cond_f hc5 hj3
      refine q_cond_f hF rfl hc5 (q_seq (q_region (q_x (v := (.bool (t_9.1 == 3))) hF hS (ex_ibin rfl rfl rfl) rfl rfl fun a hF => q_x (v := (.bool (t_9.1 == 3))) hF hS (ex_assign rfl) rfl rfl fun a hF => q_end (n_sq ?_))))
      obtain ⟨j6, hj6, hj3⟩ := bindS hj3
      refine q_join (fun a w => ∃ (q22 : Piece), ∃ (s22 : Sl), ∃ p_c_19, ∃ g_21, j6 = (p_c_19, g_21) ∧ Fr a 43 [(2, (.pointer (some ⟨b2, 0, none⟩))), (3, (.pointer (some ⟨b7, 0, none⟩)))] ∧ St X w0 w m3' [q22, [⟨b_p_c, [s1.v, (.int .i64 p_c_19.at_), (.int .u64 p_c_19.seed.v)], 76⟩], [⟨b7, [s22.v], 60⟩], [⟨b2, [nilS.v], 60⟩]] ∧ Rd m3' s1 p_c_19.code ∧ p_c_19.code = p_c.code ∧ OwnL m3' 3 q22 s22 g_21.Parents) ?_ ?_
      ·rcases bcase (t_9.1 == 3) with hc7 | hc7
       ·have hj6 := cond_f hc7 hj6
        refine q_cond_f hF rfl hc7 (q_skipc (n_jn ?_))
        obtain rfl := someI hj6
        exact ⟨q5, s5, _, _, rfl, hF.sub ⟨rfl, rfl, trivial⟩, hS.sel [2, 0, 1, 3] (by decide), h10, (hk10.trans hk6), h5⟩
       ·have hj6 := cond_t hc7 hj6
        refine q_cond_t hF rfl hc7 (e_region ⟨[7, 9, 11], []⟩ mixed fun w' hw' => ?_)
        have hS := hS.below hw'
        refine e_p (v := (.pointer (some ⟨b7, 0, none⟩))) 0 hF rfl (ex_fieldAddr Tryd.underlying60 rfl sz42 rfl rfl) rfl rfl (by kernel_rfl) (by kernel_rfl) (by kernel_rfl) fun a hF => e_p (v := (.pointer (some ⟨b7, 0, none⟩))) 2 hF rfl (ex_fieldAddr Tryd.underlying60 rfl sz42 rfl rfl) rfl rfl (by kernel_rfl) (by kernel_rfl) (by kernel_rfl) fun a hF => e_p (v := (.pointer (some ⟨b_p_c, 0, none⟩))) 6 hF rfl (ex_move rfl) rfl rfl (by kernel_rfl) (by kernel_rfl) (by kernel_rfl) fun a hF => ?_
        obtain ⟨t_15, ht_15, hj6⟩ := bindS hj6
        obtain ⟨l_17, hl_17, hj6⟩ := bindS hj6
        refine e_all [1, 3, 7] (by kernel_rfl) rfl ⟨?_, ?_, ?_, trivial⟩
        ·refine e_lx (v := s5.v) hF hS rfl (ex_load1 1 0 Tryd.underlying42 rfl rfl rfl rfl) rfl rfl fun a hF => e_all [3, 7] (by kernel_rfl) rfl ⟨?_, ?_, trivial⟩
         ·refine e_lx (v := s5.v) hF hS rfl (ex_load1 1 0 Tryd.underlying42 rfl rfl rfl rfl) rfl rfl fun a hF => e_p (v := (.int .i64 (goLen t_4.1.Parents))) 4 hF rfl (ex_len Tryd.underlying42 rfl h5.len) rfl rfl (by kernel_rfl) (by kernel_rfl) (by kernel_rfl) fun a hF => e_p (v := (.int .i64 (w64 (30 - (goLen t_4.1.Parents))))) 5 hF rfl (ex_ibin rfl rfl rfl) rfl rfl (by kernel_rfl) (by kernel_rfl) (by kernel_rfl) fun a hF => e_one 7 (by kernel_rfl) ?_
          have hS14 : St _ _ _ _ ([[⟨b_p_c, [s1.v, (.int .i64 t_9.2.at_), (.int .u64 t_9.2.seed.v)], 76⟩]] ++ [[⟨b7, [s5.v], 60⟩], q5, [⟨b2, [nilS.v], 60⟩]]) := hS
          have hE14 := hS14.enter
          refine e_opl rfl rfl rfl fun _ hK => wp_callX (vs := [(.pointer (some ⟨b_p_c, 0, none⟩)), (.int .i64 2)]) hF Tryd.func52 (by kernel_rfl) rfl rfl rfl (c_spec_l1Cur_pick t_9.2 2 t_15 ht_15 _ m3' b_p_c s1 h10 _ hE14) fun a w _ hR hF => hK _ _ ?_
          obtain ⟨rfl, hR14, hk16⟩ := hR
          have hS : St _ _ _ _ [[⟨b_p_c, [s1.v, (.int .i64 t_15.2.at_), (.int .u64 t_15.2.seed.v)], 76⟩], [⟨b7, [s5.v], 60⟩], q5, [⟨b2, [nilS.v], 60⟩]] := hS14.leaveF hR14
          have h16 : Rd m3' s1 t_15.2.code := by rw [hk16]; exact h10
          refine ⟨kpN, ?_⟩
          refine e_p (v := (.int .i64 (w64 ((w64 (30 - (goLen t_4.1.Parents))) + t_15.1)))) 8 hF rfl (ex_ibin rfl rfl rfl) rfl rfl (by kernel_rfl) (by kernel_rfl) (by kernel_rfl) fun a hF => e_one 9 (by kernel_rfl) ?_
          have hS : St _ _ _ _ [q5, [⟨b_p_c, [s1.v, (.int .i64 t_15.2.at_), (.int .u64 t_15.2.seed.v)], 76⟩], [⟨b7, [s5.v], 60⟩], [⟨b2, [nilS.v], 60⟩]] := hS.sel [2, 0, 1, 3] (by decide)
          refine e_opl rfl rfl rfl fun _ hK => wp_appendZ (z := (0 : Int)) hF hS h5 Tryd.underlying42 Tryd.underlying3 inf3 rfl rfl rfl rfl rfl rfl (by decide) hl_17 rfl fun a w q18 s18 hF hS h18 => hK _ _ (⟨kpN, ?_⟩)
          refine e_p (v := (.pointer (some ⟨b7, 0, none⟩))) 10 hF rfl (ex_fieldAddr Tryd.underlying60 rfl sz42 rfl rfl) rfl rfl (by kernel_rfl) (by kernel_rfl) (by kernel_rfl) fun a hF => e_one 11 (by kernel_rfl) (e_store (vs := [s18.v]) (cs' := [s18.v]) 2 0 hF hS rfl rfl sz42 rfl rfl rfl rfl rfl rfl rfl rfl fun a w hF hS => ⟨kpN, ?_⟩)
          refine e_end (by kernel_rfl) (n_jn ?_) _
          obtain rfl := someI hj6
          exact ⟨q18, s18, _, _, rfl, hF.sub ⟨rfl, rfl, trivial⟩, hS, h16, (hk16.trans (hk10.trans hk6)), h18⟩
         ·have hS14 : St _ _ _ _ ([[⟨b_p_c, [s1.v, (.int .i64 t_9.2.at_), (.int .u64 t_9.2.seed.v)], 76⟩]] ++ [[⟨b7, [s5.v], 60⟩], q5, [⟨b2, [nilS.v], 60⟩]]) := hS
          have hE14 := hS14.enter
          refine e_opl rfl rfl rfl fun _ hK => wp_callX (vs := [(.pointer (some ⟨b_p_c, 0, none⟩)), (.int .i64 2)]) hF Tryd.func52 (by kernel_rfl) rfl rfl rfl (c_spec_l1Cur_pick t_9.2 2 t_15 ht_15 _ m3' b_p_c s1 h10 _ hE14) fun a w _ hR hF => hK _ _ ?_
          obtain ⟨rfl, hR14, hk16⟩ := hR
          have hS : St _ _ _ _ [[⟨b_p_c, [s1.v, (.int .i64 t_15.2.at_), (.int .u64 t_15.2.seed.v)], 76⟩], [⟨b7, [s5.v], 60⟩], q5, [⟨b2, [nilS.v], 60⟩]] := hS14.leaveF hR14
          have h16 : Rd m3' s1 t_15.2.code := by rw [hk16]; exact h10
          refine ⟨kpN, ?_⟩
          refine e_one 3 (by kernel_rfl) (e_lx (v := s5.v) hF hS rfl (ex_load1 1 0 Tryd.underlying42 rfl rfl rfl rfl) rfl rfl fun a hF => e_p (v := (.int .i64 (goLen t_4.1.Parents))) 4 hF rfl (ex_len Tryd.underlying42 rfl h5.len) rfl rfl (by kernel_rfl) (by kernel_rfl) (by kernel_rfl) fun a hF => e_p (v := (.int .i64 (w64 (30 - (goLen t_4.1.Parents))))) 5 hF rfl (ex_ibin rfl rfl rfl) rfl rfl (by kernel_rfl) (by kernel_rfl) (by kernel_rfl) fun a hF => e_p (v := (.int .i64 (w64 ((w64 (30 - (goLen t_4.1.Parents))) + t_15.1)))) 8 hF rfl (ex_ibin rfl rfl rfl) rfl rfl (by kernel_rfl) (by kernel_rfl) (by kernel_rfl) fun a hF => e_one 9 (by kernel_rfl) ?_)
          have hS : St _ _ _ _ [q5, [⟨b_p_c, [s1.v, (.int .i64 t_15.2.at_), (.int .u64 t_15.2.seed.v)], 76⟩], [⟨b7, [s5.v], 60⟩], [⟨b2, [nilS.v], 60⟩]] := hS.sel [2, 0, 1, 3] (by decide)
          refine e_opl rfl rfl rfl fun _ hK => wp_appendZ (z := (0 : Int)) hF hS h5 Tryd.underlying42 Tryd.underlying3 inf3 rfl rfl rfl rfl rfl rfl (by decide) hl_17 rfl fun a w q18 s18 hF hS h18 => hK _ _ (⟨kpN, ?_⟩)
          refine e_p (v := (.pointer (some ⟨b7, 0, none⟩))) 10 hF rfl (ex_fieldAddr Tryd.underlying60 rfl sz42 rfl rfl) rfl rfl (by kernel_rfl) (by kernel_rfl) (by kernel_rfl) fun a hF => e_one 11 (by kernel_rfl) (e_store (vs := [s18.v]) (cs' := [s18.v]) 2 0 hF hS rfl rfl sz42 rfl rfl rfl rfl rfl rfl rfl rfl fun a w hF hS => ⟨kpN, ?_⟩)
          refine e_end (by kernel_rfl) (n_jn ?_) _
          obtain rfl := someI hj6
          exact ⟨q18, s18, _, _, rfl, hF.sub ⟨rfl, rfl, trivial⟩, hS, h16, (hk16.trans (hk10.trans hk6)), h18⟩
        ·refine e_lx (v := s5.v) hF hS rfl (ex_load1 1 0 Tryd.underlying42 rfl rfl rfl rfl) rfl rfl fun a hF => e_p (v := (.int .i64 (goLen t_4.1.Parents))) 4 hF rfl (ex_len Tryd.underlying42 rfl h5.len) rfl rfl (by kernel_rfl) (by kernel_rfl) (by kernel_rfl) fun a hF => e_p (v := (.int .i64 (w64 (30 - (goLen t_4.1.Parents))))) 5 hF rfl (ex_ibin rfl rfl rfl) rfl rfl (by kernel_rfl) (by kernel_rfl) (by kernel_rfl) fun a hF => e_all [1, 7] (by kernel_rfl) rfl ⟨?_, ?_, trivial⟩
         ·refine e_lx (v := s5.v) hF hS rfl (ex_load1 1 0 Tryd.underlying42 rfl rfl rfl rfl) rfl rfl fun a hF => e_one 7 (by kernel_rfl) ?_
          have hS14 : St _ _ _ _ ([[⟨b_p_c, [s1.v, (.int .i64 t_9.2.at_), (.int .u64 t_9.2.seed.v)], 76⟩]] ++ [[⟨b7, [s5.v], 60⟩], q5, [⟨b2, [nilS.v], 60⟩]]) := hS
          have hE14 := hS14.enter
          refine e_opl rfl rfl rfl fun _ hK => wp_callX (vs := [(.pointer (some ⟨b_p_c, 0, none⟩)), (.int .i64 2)]) hF Tryd.func52 (by kernel_rfl) rfl rfl rfl (c_spec_l1Cur_pick t_9.2 2 t_15 ht_15 _ m3' b_p_c s1 h10 _ hE14) fun a w _ hR hF => hK _ _ ?_
          obtain ⟨rfl, hR14, hk16⟩ := hR
          have hS : St _ _ _ _ [[⟨b_p_c, [s1.v, (.int .i64 t_15.2.at_), (.int .u64 t_15.2.seed.v)], 76⟩], [⟨b7, [s5.v], 60⟩], q5, [⟨b2, [nilS.v], 60⟩]] := hS14.leaveF hR14
          have h16 : Rd m3' s1 t_15.2.code := by rw [hk16]; exact h10
          refine ⟨kpN, ?_⟩
          refine e_p (v := (.int .i64 (w64 ((w64 (30 - (goLen t_4.1.Parents))) + t_15.1)))) 8 hF rfl (ex_ibin rfl rfl rfl) rfl rfl (by kernel_rfl) (by kernel_rfl) (by kernel_rfl) fun a hF => e_one 9 (by kernel_rfl) ?_
          have hS : St _ _ _ _ [q5, [⟨b_p_c, [s1.v, (.int .i64 t_15.2.at_), (.int .u64 t_15.2.seed.v)], 76⟩], [⟨b7, [s5.v], 60⟩], [⟨b2, [nilS.v], 60⟩]] := hS.sel [2, 0, 1, 3] (by decide)
          refine e_opl rfl rfl rfl fun _ hK => wp_appendZ (z := (0 : Int)) hF hS h5 Tryd.underlying42 Tryd.underlying3 inf3 rfl rfl rfl rfl rfl rfl (by decide) hl_17 rfl fun a w q18 s18 hF hS h18 => hK _ _ (⟨kpN, ?_⟩)
          refine e_p (v := (.pointer (some ⟨b7, 0, none⟩))) 10 hF rfl (ex_fieldAddr Tryd.underlying60 rfl sz42 rfl rfl) rfl rfl (by kernel_rfl) (by kernel_rfl) (by kernel_rfl) fun a hF => e_one 11 (by kernel_rfl) (e_store (vs := [s18.v]) (cs' := [s18.v]) 2 0 hF hS rfl rfl sz42 rfl rfl rfl rfl rfl rfl rfl rfl fun a w hF hS => ⟨kpN, ?_⟩)
          refine e_end (by kernel_rfl) (n_jn ?_) _
          obtain rfl := someI hj6
          exact ⟨q18, s18, _, _, rfl, hF.sub ⟨rfl, rfl, trivial⟩, hS, h16, (hk16.trans (hk10.trans hk6)), h18⟩
         ·have hS14 : St _ _ _ _ ([[⟨b_p_c, [s1.v, (.int .i64 t_9.2.at_), (.int .u64 t_9.2.seed.v)], 76⟩]] ++ [[⟨b7, [s5.v], 60⟩], q5, [⟨b2, [nilS.v], 60⟩]]) := hS
          have hE14 := hS14.enter
          refine e_opl rfl rfl rfl fun _ hK => wp_callX (vs := [(.pointer (some ⟨b_p_c, 0, none⟩)), (.int .i64 2)]) hF Tryd.func52 (by kernel_rfl) rfl rfl rfl (c_spec_l1Cur_pick t_9.2 2 t_15 ht_15 _ m3' b_p_c s1 h10 _ hE14) fun a w _ hR hF => hK _ _ ?_
          obtain ⟨rfl, hR14, hk16⟩ := hR
          have hS : St _ _ _ _ [[⟨b_p_c, [s1.v, (.int .i64 t_15.2.at_), (.int .u64 t_15.2.seed.v)], 76⟩], [⟨b7, [s5.v], 60⟩], q5, [⟨b2, [nilS.v], 60⟩]] := hS14.leaveF hR14
          have h16 : Rd m3' s1 t_15.2.code := by rw [hk16]; exact h10
          refine ⟨kpN, ?_⟩
          refine e_x (v := s5.v) 1 hF hS rfl (ex_load1 1 0 Tryd.underlying42 rfl rfl rfl rfl) rfl rfl (by kernel_rfl) (by kernel_rfl) (by kernel_rfl) (by kernel_rfl) fun a hF => e_p (v := (.int .i64 (w64 ((w64 (30 - (goLen t_4.1.Parents))) + t_15.1)))) 8 hF rfl (ex_ibin rfl rfl rfl) rfl rfl (by kernel_rfl) (by kernel_rfl) (by kernel_rfl) fun a hF => e_one 9 (by kernel_rfl) ?_
          have hS : St _ _ _ _ [q5, [⟨b_p_c, [s1.v, (.int .i64 t_15.2.at_), (.int .u64 t_15.2.seed.v)], 76⟩], [⟨b7, [s5.v], 60⟩], [⟨b2, [nilS.v], 60⟩]] := hS.sel [2, 0, 1, 3] (by decide)
          refine e_opl rfl rfl rfl fun _ hK => wp_appendZ (z := (0 : Int)) hF hS h5 Tryd.underlying42 Tryd.underlying3 inf3 rfl rfl rfl rfl rfl rfl (by decide) hl_17 rfl fun a w q18 s18 hF hS h18 => hK _ _ (⟨kpN, ?_⟩)
          refine e_p (v := (.pointer (some ⟨b7, 0, none⟩))) 10 hF rfl (ex_fieldAddr Tryd.underlying60 rfl sz42 rfl rfl) rfl rfl (by kernel_rfl) (by kernel_rfl) (by kernel_rfl) fun a hF => e_one 11 (by kernel_rfl) (e_store (vs := [s18.v]) (cs' := [s18.v]) 2 0 hF hS rfl rfl sz42 rfl rfl rfl rfl rfl rfl rfl rfl fun a w hF hS => ⟨kpN, ?_⟩)
          refine e_end (by kernel_rfl) (n_jn ?_) _
          obtain rfl := someI hj6
          exact ⟨q18, s18, _, _, rfl, hF.sub ⟨rfl, rfl, trivial⟩, hS, h16, (hk16.trans (hk10.trans hk6)), h18⟩
        ·have hS14 : St _ _ _ _ ([[⟨b_p_c, [s1.v, (.int .i64 t_9.2.at_), (.int .u64 t_9.2.seed.v)], 76⟩]] ++ [[⟨b7, [s5.v], 60⟩], q5, [⟨b2, [nilS.v], 60⟩]]) := hS
         have hE14 := hS14.enter
         refine e_opl rfl rfl rfl fun _ hK => wp_callX (vs := [(.pointer (some ⟨b_p_c, 0, none⟩)), (.int .i64 2)]) hF Tryd.func52 (by kernel_rfl) rfl rfl rfl (c_spec_l1Cur_pick t_9.2 2 t_15 ht_15 _ m3' b_p_c s1 h10 _ hE14) fun a w _ hR hF => hK _ _ ?_
         obtain ⟨rfl, hR14, hk16⟩ := hR
         have hS : St _ _ _ _ [[⟨b_p_c, [s1.v, (.int .i64 t_15.2.at_), (.int .u64 t_15.2.seed.v)], 76⟩], [⟨b7, [s5.v], 60⟩], q5, [⟨b2, [nilS.v], 60⟩]] := hS14.leaveF hR14
         have h16 : Rd m3' s1 t_15.2.code := by rw [hk16]; exact h10
         refine ⟨kpN, ?_⟩
         refine e_x (v := s5.v) 1 hF hS rfl (ex_load1 1 0 Tryd.underlying42 rfl rfl rfl rfl) rfl rfl (by kernel_rfl) (by kernel_rfl) (by kernel_rfl) (by kernel_rfl) fun a hF => e_one 3 (by kernel_rfl) (e_lx (v := s5.v) hF hS rfl (ex_load1 1 0 Tryd.underlying42 rfl rfl rfl rfl) rfl rfl fun a hF => e_p (v := (.int .i64 (goLen t_4.1.Parents))) 4 hF rfl (ex_len Tryd.underlying42 rfl h5.len) rfl rfl (by kernel_rfl) (by kernel_rfl) (by kernel_rfl) fun a hF => e_p (v := (.int .i64 (w64 (30 - (goLen t_4.1.Parents))))) 5 hF rfl (ex_ibin rfl rfl rfl) rfl rfl (by kernel_rfl) (by kernel_rfl) (by kernel_rfl) fun a hF => e_p (v := (.int .i64 (w64 ((w64 (30 - (goLen t_4.1.Parents))) + t_15.1)))) 8 hF rfl (ex_ibin rfl rfl rfl) rfl rfl (by kernel_rfl) (by kernel_rfl) (by kernel_rfl) fun a hF => e_one 9 (by kernel_rfl) ?_)
         have hS : St _ _ _ _ [q5, [⟨b_p_c, [s1.v, (.int .i64 t_15.2.at_), (.int .u64 t_15.2.seed.v)], 76⟩], [⟨b7, [s5.v], 60⟩], [⟨b2, [nilS.v], 60⟩]] := hS.sel [2, 0, 1, 3] (by decide)
         refine e_opl rfl rfl rfl fun _ hK => wp_appendZ (z := (0 : Int)) hF hS h5 Tryd.underlying42 Tryd.underlying3 inf3 rfl rfl rfl rfl rfl rfl (by decide) hl_17 rfl fun a w q18 s18 hF hS h18 => hK _ _ (⟨kpN, ?_⟩)
         refine e_p (v := (.pointer (some ⟨b7, 0, none⟩))) 10 hF rfl (ex_fieldAddr Tryd.underlying60 rfl sz42 rfl rfl) rfl rfl (by kernel_rfl) (by kernel_rfl) (by kernel_rfl) fun a hF => e_one 11 (by kernel_rfl) (e_store (vs := [s18.v]) (cs' := [s18.v]) 2 0 hF hS rfl rfl sz42 rfl rfl rfl rfl rfl rfl rfl rfl fun a w hF hS => ⟨kpN, ?_⟩)
         refine e_end (by kernel_rfl) (n_jn ?_) _
         obtain rfl := someI hj6
         exact ⟨q18, s18, _, _, rfl, hF.sub ⟨rfl, rfl, trivial⟩, hS, h16, (hk16.trans (hk10.trans hk6)), h18⟩
      ·rintro a w ⟨q22, s22, p_c_19, g_21, rfl, hF, hS, h20, h20k, h22⟩
       refine n_jn ?_
       obtain rfl := someI hj3
       exact ⟨q22, s22, _, _, rfl, hF.sub ⟨rfl, rfl, trivial⟩, hS, h20, h20k, h22⟩
     ·have hj3 := cond_t hc5 hj3
      refine q_cond_t hF rfl hc5 (q_seq (q_region (q_x (v := (.agg #[nilS.v])) hF hS (ex_build (cells := [nilS.v]) rfl (by kernel_rfl)) rfl rfl fun a hF => q_store (vs := [nilS.v]) (cs' := [nilS.v]) 3 0 hF hS sz60 rfl rfl rfl rfl rfl rfl rfl rfl fun a w hF hS => q_end (n_sq (q_ret (r_jn ?_))))))
      obtain rfl := someI hj3
      refine r_jn ?_
      obtain rfl := someI hj1
      refine r_ib (r_sq ?_)
      obtain rfl := someI hr
      exact ret_ofX hF hS rfl (.cellA (us := [nilS.v]) 3 0 Tryd.underlying60 rfl sz60 rfl rfl rfl rfl .nil) ⟨m3', [], nilS, rfl, hm3, hS.sel [0, 4] (by decide), (OwnL.nil (α := Int) m3' 3), (hk10.trans hk6)⟩
    ·have hj3 := cond_t hc4 hj3
     refine q_cond_t hF rfl hc4 ?_
     obtain ⟨j8, hj8, hj3⟩ := bindS hj3
     refine q_join (fun a w => ∃ (q33 : Piece), ∃ (s33 : Sl), ∃ p_c_30, ∃ g_32, j8 = (p_c_30, g_32) ∧ Fr a 43 [(2, (.pointer (some ⟨b2, 0, none⟩))), (3, (.pointer (some ⟨b7, 0, none⟩)))] ∧ St X w0 w m3' [q33, [⟨b_p_c, [s1.v, (.int .i64 p_c_30.at_), (.int .u64 p_c_30.seed.v)], 76⟩], [⟨b7, [s33.v], 60⟩], [⟨b2, [nilS.v], 60⟩]] ∧ Rd m3' s1 p_c_30.code ∧ p_c_30.code = p_c.code ∧ OwnL m3' 3 q33 s33 g_32.Parents) ?_ ?_
     ·refine e_region ⟨[7, 9, 11], []⟩ mixed fun w' hw' => ?_
      have hS := hS.below hw'
      refine e_p (v := (.pointer (some ⟨b7, 0, none⟩))) 0 hF rfl (ex_fieldAddr Tryd.underlying60 rfl sz42 rfl rfl) rfl rfl (by kernel_rfl) (by kernel_rfl) (by kernel_rfl) fun a hF => e_p (v := (.pointer (some ⟨b_p_c, 0, none⟩))) 2 hF rfl (ex_move rfl) rfl rfl (by kernel_rfl) (by kernel_rfl) (by kernel_rfl) fun a hF => e_p (v := (.pointer (some ⟨b7, 0, none⟩))) 3 hF rfl (ex_fieldAddr Tryd.underlying60 rfl sz42 rfl rfl) rfl rfl (by kernel_rfl) (by kernel_rfl) (by kernel_rfl) fun a hF => ?_
      obtain ⟨t_25, ht_25, hj8⟩ := bindS hj8
      obtain ⟨l_28, hl_28, hj8⟩ := bindS hj8
      refine e_all [1, 4] (by kernel_rfl) rfl ⟨?_, ?_, trivial⟩
      ·refine e_lx (v := s5.v) hF hS rfl (ex_load1 1 0 Tryd.underlying42 rfl rfl rfl rfl) rfl rfl fun a hF => e_one 4 (by kernel_rfl) (e_lx (v := s5.v) hF hS rfl (ex_load1 1 0 Tryd.underlying42 rfl rfl rfl rfl) rfl rfl fun a hF => e_p (v := (.int .i64 (goLen t_4.1.Parents))) 5 hF rfl (ex_len Tryd.underlying42 rfl h5.len) rfl rfl (by kernel_rfl) (by kernel_rfl) (by kernel_rfl) fun a hF => e_one 6 (by kernel_rfl) (e_op rfl rfl fun _ hK => wp_buildSlice' (l := ([-1, goLen t_4.1.Parents, 0] : List Int)) (cells := [(.int .i64 (-1)), (.int .i64 (goLen t_4.1.Parents)), (.int .i64 0)]) hF hS Tryd.underlying42 inf3 rfl rfl (by kernel_rfl) rfl rfl rfl ⟨rfl, rfl, rfl, rfl⟩ rfl rfl fun a w q23 s23 hF hS h23 hb => hK _ _ hb (e_one 7 (by kernel_rfl) ?_)))
       have hS : St _ _ _ _ [[⟨b_p_c, [s1.v, (.int .i64 t_9.2.at_), (.int .u64 t_9.2.seed.v)], 76⟩], q23, [⟨b7, [s5.v], 60⟩], q5, [⟨b2, [nilS.v], 60⟩]] := hS.sel [1, 0, 2, 3, 4] (by decide)
       have hS24 : St _ _ _ _ ([[⟨b_p_c, [s1.v, (.int .i64 t_9.2.at_), (.int .u64 t_9.2.seed.v)], 76⟩]] ++ [q23, [⟨b7, [s5.v], 60⟩], q5, [⟨b2, [nilS.v], 60⟩]]) := hS
       obtain ⟨m24, hl24, hE24, hz24⟩ := hS24.lendX
       refine e_opl rfl rfl rfl fun _ hK => wp_callX (vs := [(.pointer (some ⟨b_p_c, 0, none⟩)), s23.v]) hF Tryd.func60 (by kernel_rfl) rfl rfl rfl (c_spec_l1Cur_among t_9.2 ([-1, goLen t_4.1.Parents, 0] : List Int) t_25 ht_25 _ m24 b_p_c s1 (h10.mono hl24) s23 (h23.froz hl24 (hz24 0 _ rfl)) _ hE24) fun a w _ hR hF => hK _ _ ?_
       obtain ⟨rfl, hR24, hk26⟩ := hR
       have hS : St _ _ _ _ [[⟨b_p_c, [s1.v, (.int .i64 t_25.2.at_), (.int .u64 t_25.2.seed.v)], 76⟩], q23, [⟨b7, [s5.v], 60⟩], q5, [⟨b2, [nilS.v], 60⟩]] := hS24.leaveF hR24
       have h26 : Rd m3' s1 t_25.2.code := by rw [hk26]; exact h10
       refine ⟨kpN, ?_⟩
       refine e_one 8 (by kernel_rfl) (e_op rfl rfl fun _ hK => wp_buildSlice' (l := ([t_25.1] : List Int)) (cells := [(.int .i64 t_25.1)]) hF hS Tryd.underlying42 inf3 rfl rfl (by kernel_rfl) rfl rfl rfl ⟨rfl, rfl⟩ rfl rfl fun a w q27 s27 hF hS h27 hb => hK _ _ hb (e_one 9 (by kernel_rfl) ?_))
       have hS : St _ _ _ _ [q5, q27, [⟨b_p_c, [s1.v, (.int .i64 t_25.2.at_), (.int .u64 t_25.2.seed.v)], 76⟩], q23, [⟨b7, [s5.v], 60⟩], [⟨b2, [nilS.v], 60⟩]] := hS.sel [4, 0, 1, 2, 3, 5] (by decide)
       refine e_opl rfl rfl rfl fun _ hK => wp_append hF hS h5 Tryd.underlying42 inf3 rfl rfl rfl rfl (h27.vw hS (j := 1) rfl) rfl (by decide) hl_28 rfl fun a w q29 s29 hF hS h29 => hK _ _ (⟨kpN, ?_⟩)
       refine e_p (v := (.pointer (some ⟨b7, 0, none⟩))) 10 hF rfl (ex_fieldAddr Tryd.underlying60 rfl sz42 rfl rfl) rfl rfl (by kernel_rfl) (by kernel_rfl) (by kernel_rfl) fun a hF => e_one 11 (by kernel_rfl) (e_store (vs := [s29.v]) (cs' := [s29.v]) 4 0 hF hS rfl rfl sz42 rfl rfl rfl rfl rfl rfl rfl rfl fun a w hF hS => ⟨kpN, ?_⟩)
       refine e_end (by kernel_rfl) (n_jn ?_) _
       obtain rfl := someI hj8
       exact ⟨q29, s29, _, _, rfl, hF.sub ⟨rfl, rfl, trivial⟩, hS.mask [true, false, true, false, true, true], h26, (hk26.trans (hk10.trans hk6)), h29⟩
      ·refine e_lx (v := s5.v) hF hS rfl (ex_load1 1 0 Tryd.underlying42 rfl rfl rfl rfl) rfl rfl fun a hF => e_p (v := (.int .i64 (goLen t_4.1.Parents))) 5 hF rfl (ex_len Tryd.underlying42 rfl h5.len) rfl rfl (by kernel_rfl) (by kernel_rfl) (by kernel_rfl) fun a hF => e_all [1, 6] (by kernel_rfl) rfl ⟨?_, ?_, trivial⟩
       ·refine e_lx (v := s5.v) hF hS rfl (ex_load1 1 0 Tryd.underlying42 rfl rfl rfl rfl) rfl rfl fun a hF => e_one 6 (by kernel_rfl) (e_op rfl rfl fun _ hK => wp_buildSlice' (l := ([-1, goLen t_4.1.Parents, 0] : List Int)) (cells := [(.int .i64 (-1)), (.int .i64 (goLen t_4.1.Parents)), (.int .i64 0)]) hF hS Tryd.underlying42 inf3 rfl rfl (by kernel_rfl) rfl rfl rfl ⟨rfl, rfl, rfl, rfl⟩ rfl rfl fun a w q23 s23 hF hS h23 hb => hK _ _ hb (e_one 7 (by kernel_rfl) ?_))
        have hS : St _ _ _ _ [[⟨b_p_c, [s1.v, (.int .i64 t_9.2.at_), (.int .u64 t_9.2.seed.v)], 76⟩], q23, [⟨b7, [s5.v], 60⟩], q5, [⟨b2, [nilS.v], 60⟩]] := hS.sel [1, 0, 2, 3, 4] (by decide)
        have hS24 : St _ _ _ _ ([[⟨b_p_c, [s1.v, (.int .i64 t_9.2.at_), (.int .u64 t_9.2.seed.v)], 76⟩]] ++ [q23, [⟨b7, [s5.v], 60⟩], q5, [⟨b2, [nilS.v], 60⟩]]) := hS
        obtain ⟨m24, hl24, hE24, hz24⟩ := hS24.lendX
        refine e_opl rfl rfl rfl fun _ hK => wp_callX (vs := [(.pointer (some ⟨b_p_c, 0, none⟩)), s23.v]) hF Tryd.func60 (by kernel_rfl) rfl rfl rfl (c_spec_l1Cur_among t_9.2 ([-1, goLen t_4.1.Parents, 0] : List Int) t_25 ht_25 _ m24 b_p_c s1 (h10.mono hl24) s23 (h23.froz hl24 (hz24 0 _ rfl)) _ hE24) fun a w _ hR hF => hK _ _ ?_
        obtain ⟨rfl, hR24, hk26⟩ := hR
        have hS : St _ _ _ _ [[⟨b_p_c, [s1.v, (.int .i64 t_25.2.at_), (.int .u64 t_25.2.seed.v)], 76⟩], q23, [⟨b7, [s5.v], 60⟩], q5, [⟨b2, [nilS.v], 60⟩]] := hS24.leaveF hR24
        have h26 : Rd m3' s1 t_25.2.code := by rw [hk26]; exact h10
        refine ⟨kpN, ?_⟩
        refine e_one 8 (by kernel_rfl) (e_op rfl rfl fun _ hK => wp_buildSlice' (l := ([t_25.1] : List Int)) (cells := [(.int .i64 t_25.1)]) hF hS Tryd.underlying42 inf3 rfl rfl (by kernel_rfl) rfl rfl rfl ⟨rfl, rfl⟩ rfl rfl fun a w q27 s27 hF hS h27 hb => hK _ _ hb (e_one 9 (by kernel_rfl) ?_))
        have hS : St _ _ _ _ [q5, q27, [⟨b_p_c, [s1.v, (.int .i64 t_25.2.at_), (.int .u64 t_25.2.seed.v)], 76⟩], q23, [⟨b7, [s5.v], 60⟩], [⟨b2, [nilS.v], 60⟩]] := hS.sel [4, 0, 1, 2, 3, 5] (by decide)
        refine e_opl rfl rfl rfl fun _ hK => wp_append hF hS h5 Tryd.underlying42 inf3 rfl rfl rfl rfl (h27.vw hS (j := 1) rfl) rfl (by decide) hl_28 rfl fun a w q29 s29 hF hS h29 => hK _ _ (⟨kpN, ?_⟩)
        refine e_p (v := (.pointer (some ⟨b7, 0, none⟩))) 10 hF rfl (ex_fieldAddr Tryd.underlying60 rfl sz42 rfl rfl) rfl rfl (by kernel_rfl) (by kernel_rfl) (by kernel_rfl) fun a hF => e_one 11 (by kernel_rfl) (e_store (vs := [s29.v]) (cs' := [s29.v]) 4 0 hF hS rfl rfl sz42 rfl rfl rfl rfl rfl rfl rfl rfl fun a w hF hS => ⟨kpN, ?_⟩)
        refine e_end (by kernel_rfl) (n_jn ?_) _
        obtain rfl := someI hj8
        exact ⟨q29, s29, _, _, rfl, hF.sub ⟨rfl, rfl, trivial⟩, hS.mask [true, false, true, false, true, true], h26, (hk26.trans (hk10.trans hk6)), h29⟩
       ·refine e_op rfl rfl fun _ hK => wp_buildSlice' (l := ([-1, goLen t_4.1.Parents, 0] : List Int)) (cells := [(.int .i64 (-1)), (.int .i64 (goLen t_4.1.Parents)), (.int .i64 0)]) hF hS Tryd.underlying42 inf3 rfl rfl (by kernel_rfl) rfl rfl rfl ⟨rfl, rfl, rfl, rfl⟩ rfl rfl fun a w q23 s23 hF hS h23 hb => hK _ _ hb (e_all [1, 7] (by kernel_rfl) rfl ⟨?_, ?_, trivial⟩)
        ·refine e_lx (v := s5.v) hF hS rfl (ex_load1 2 0 Tryd.underlying42 rfl rfl rfl rfl) rfl rfl fun a hF => e_one 7 (by kernel_rfl) ?_
         have hS : St _ _ _ _ [[⟨b_p_c, [s1.v, (.int .i64 t_9.2.at_), (.int .u64 t_9.2.seed.v)], 76⟩], q23, [⟨b7, [s5.v], 60⟩], q5, [⟨b2, [nilS.v], 60⟩]] := hS.sel [1, 0, 2, 3, 4] (by decide)
         have hS24 : St _ _ _ _ ([[⟨b_p_c, [s1.v, (.int .i64 t_9.2.at_), (.int .u64 t_9.2.seed.v)], 76⟩]] ++ [q23, [⟨b7, [s5.v], 60⟩], q5, [⟨b2, [nilS.v], 60⟩]]) := hS
         obtain ⟨m24, hl24, hE24, hz24⟩ := hS24.lendX
         refine e_opl rfl rfl rfl fun _ hK => wp_callX (vs := [(.pointer (some ⟨b_p_c, 0, none⟩)), s23.v]) hF Tryd.func60 (by kernel_rfl) rfl rfl rfl (c_spec_l1Cur_among t_9.2 ([-1, goLen t_4.1.Parents, 0] : List Int) t_25 ht_25 _ m24 b_p_c s1 (h10.mono hl24) s23 (h23.froz hl24 (hz24 0 _ rfl)) _ hE24) fun a w _ hR hF => hK _ _ ?_
         obtain ⟨rfl, hR24, hk26⟩ := hR
         have hS : St _ _ _ _ [[⟨b_p_c, [s1.v, (.int .i64 t_25.2.at_), (.int .u64 t_25.2.seed.v)], 76⟩], q23, [⟨b7, [s5.v], 60⟩], q5, [⟨b2, [nilS.v], 60⟩]] := hS24.leaveF hR24
         have h26 : Rd m3' s1 t_25.2.code := by rw [hk26]; exact h10
         refine ⟨kpN, ?_⟩
         refine e_one 8 (by kernel_rfl) (e_op rfl rfl fun _ hK => wp_buildSlice' (l := ([t_25.1] : List Int)) (cells := [(.int .i64 t_25.1)]) hF hS Tryd.underlying42 inf3 rfl rfl (by kernel_rfl) rfl rfl rfl ⟨rfl, rfl⟩ rfl rfl fun a w q27 s27 hF hS h27 hb => hK _ _ hb (e_one 9 (by kernel_rfl) ?_))
         have hS : St _ _ _ _ [q5, q27, [⟨b_p_c, [s1.v, (.int .i64 t_25.2.at_), (.int .u64 t_25.2.seed.v)], 76⟩], q23, [⟨b7, [s5.v], 60⟩], [⟨b2, [nilS.v], 60⟩]] := hS.sel [4, 0, 1, 2, 3, 5] (by decide)
         refine e_opl rfl rfl rfl fun _ hK => wp_append hF hS h5 Tryd.underlying42 inf3 rfl rfl rfl rfl (h27.vw hS (j := 1) rfl) rfl (by decide) hl_28 rfl fun a w q29 s29 hF hS h29 => hK _ _ (⟨kpN, ?_⟩)
         refine e_p (v := (.pointer (some ⟨b7, 0, none⟩))) 10 hF rfl (ex_fieldAddr Tryd.underlying60 rfl sz42 rfl rfl) rfl rfl (by kernel_rfl) (by kernel_rfl) (by kernel_rfl) fun a hF => e_one 11 (by kernel_rfl) (e_store (vs := [s29.v]) (cs' := [s29.v]) 4 0 hF hS rfl rfl sz42 rfl rfl rfl rfl rfl rfl rfl rfl fun a w hF hS => ⟨kpN, ?_⟩)
         refine e_end (by kernel_rfl) (n_jn ?_) _
         obtain rfl := someI hj8
         exact ⟨q29, s29, _, _, rfl, hF.sub ⟨rfl, rfl, trivial⟩, hS.mask [true, false, true, false, true, true], h26, (hk26.trans (hk10.trans hk6)), h29⟩
        ·have hS : St _ _ _ _ [[⟨b_p_c, [s1.v, (.int .i64 t_9.2.at_), (.int .u64 t_9.2.seed.v)], 76⟩], q23, [⟨b7, [s5.v], 60⟩], q5, [⟨b2, [nilS.v], 60⟩]] := hS.sel [1, 0, 2, 3, 4] (by decide)
         have hS24 : St _ _ _ _ ([[⟨b_p_c, [s1.v, (.int .i64 t_9.2.at_), (.int .u64 t_9.2.seed.v)], 76⟩]] ++ [q23, [⟨b7, [s5.v], 60⟩], q5, [⟨b2, [nilS.v], 60⟩]]) := hS
         obtain ⟨m24, hl24, hE24, hz24⟩ := hS24.lendX
         refine e_opl rfl rfl rfl fun _ hK => wp_callX (vs := [(.pointer (some ⟨b_p_c, 0, none⟩)), s23.v]) hF Tryd.func60 (by kernel_rfl) rfl rfl rfl (c_spec_l1Cur_among t_9.2 ([-1, goLen t_4.1.Parents, 0] : List Int) t_25 ht_25 _ m24 b_p_c s1 (h10.mono hl24) s23 (h23.froz hl24 (hz24 0 _ rfl)) _ hE24) fun a w _ hR hF => hK _ _ ?_
         obtain ⟨rfl, hR24, hk26⟩ := hR
         have hS : St _ _ _ _ [[⟨b_p_c, [s1.v, (.int .i64 t_25.2.at_), (.int .u64 t_25.2.seed.v)], 76⟩], q23, [⟨b7, [s5.v], 60⟩], q5, [⟨b2, [nilS.v], 60⟩]] := hS24.leaveF hR24
         have h26 : Rd m3' s1 t_25.2.code := by rw [hk26]; exact h10
         refine ⟨kpN, ?_⟩
         refine e_x (v := s5.v) 1 hF hS rfl (ex_load1 2 0 Tryd.underlying42 rfl rfl rfl rfl) rfl rfl (by kernel_rfl) (by kernel_rfl) (by kernel_rfl) (by kernel_rfl) fun a hF => e_one 8 (by kernel_rfl) (e_op rfl rfl fun _ hK => wp_buildSlice' (l := ([t_25.1] : List Int)) (cells := [(.int .i64 t_25.1)]) hF hS Tryd.underlying42 inf3 rfl rfl (by kernel_rfl) rfl rfl rfl ⟨rfl, rfl⟩ rfl rfl fun a w q27 s27 hF hS h27 hb => hK _ _ hb (e_one 9 (by kernel_rfl) ?_))
         have hS : St _ _ _ _ [q5, q27, [⟨b_p_c, [s1.v, (.int .i64 t_25.2.at_), (.int .u64 t_25.2.seed.v)], 76⟩], q23, [⟨b7, [s5.v], 60⟩], [⟨b2, [nilS.v], 60⟩]] := hS.sel [4, 0, 1, 2, 3, 5] (by decide)
         refine e_opl rfl rfl rfl fun _ hK => wp_append hF hS h5 Tryd.underlying42 inf3 rfl rfl rfl rfl (h27.vw hS (j := 1) rfl) rfl (by decide) hl_28 rfl fun a w q29 s29 hF hS h29 => hK _ _ (⟨kpN, ?_⟩)
         refine e_p (v := (.pointer (some ⟨b7, 0, none⟩))) 10 hF rfl (ex_fieldAddr Tryd.underlying60 rfl sz42 rfl rfl) rfl rfl (by kernel_rfl) (by kernel_rfl) (by kernel_rfl) fun a hF => e_one 11 (by kernel_rfl) (e_store (vs := [s29.v]) (cs' := [s29.v]) 4 0 hF hS rfl rfl sz42 rfl rfl rfl rfl rfl rfl rfl rfl fun a w hF hS => ⟨kpN, ?_⟩)
         refine e_end (by kernel_rfl) (n_jn ?_) _
         obtain rfl := someI hj8
         exact ⟨q29, s29, _, _, rfl, hF.sub ⟨rfl, rfl, trivial⟩, hS.mask [true, false, true, false, true, true], h26, (hk26.trans (hk10.trans hk6)), h29⟩
     ·rintro a w ⟨q33, s33, p_c_30, g_32, rfl, hF, hS, h31, h31k, h33⟩
      refine n_jn ?_
      obtain rfl := someI hj3
      exact ⟨q33, s33, _, _, rfl, hF.sub ⟨rfl, rfl, trivial⟩, hS, h31, h31k, h33⟩
   ·rintro a w ⟨q37, s37, p_c_34, g_36, rfl, hF, hS, h35, h35k, h37⟩
    refine n_jn ?_
    obtain rfl := someI hj1
    exact ⟨q37, s37, _, _, rfl, hF.sub ⟨rfl, rfl, trivial⟩, hS, h35, h35k, h37⟩
  ·have hj1 := cond_t hc2 hj1
   refine q_cond_t hF rfl hc2 (q_region (q_x (v := (.pointer (some ⟨b7, 0, none⟩))) hF hS (ex_fieldAddr Tryd.underlying60 rfl sz42 rfl rfl) rfl rfl fun a hF => q_x (v := s5.v) hF hS (ex_load1 1 0 Tryd.underlying42 rfl rfl rfl rfl) rfl rfl fun a hF => ?_))
   obtain ⟨e_38, he_38, hj1⟩ := bindS hj1
   obtain ⟨vs39, at39, d39⟩ := h5.at he_38 1 rfl
   obtain rfl : vs39 = [(.int .i64 e_38)] := d39
   refine q_x (v := (elP s5 ((0 : Int).toNat * 1))) hF hS (ex_indexAddr Tryd.underlying42 sz3 rfl rfl (h5.idx he_38)) rfl rfl fun a hF => ?_
   have hS : St _ _ _ _ [q5, [⟨b_p_c, [s1.v, (.int .i64 t_9.2.at_), (.int .u64 t_9.2.seed.v)], 76⟩], [⟨b7, [s5.v], 60⟩], [⟨b2, [nilS.v], 60⟩]] := hS.sel [2, 0, 1, 3] (by decide)
   refine q_do rfl fun _ hK => wp_storeE (e' := 0) (us := [(.int .i64 0)]) (vs := [(.int .i64 e_38)]) 0 hF hS h5 sz3 rfl rfl rfl rfl rfl rfl rfl he_38 at39 rfl rfl rfl fun w q40 hS h40 => hK _ _ (q_end (n_jn ?_))
   obtain rfl := someI hj1
   exact ⟨q40, s5, _, _, rfl, hF.sub ⟨rfl, rfl, trivial⟩, hS, h10, (hk10.trans hk6), h40⟩
 ·rintro a w ⟨q44, s44, p_c_41, g_43, rfl, hF, hS, h42, h42k, h44⟩
  refine n_ib (n_sq ?_)
  refine q_seq (q_region (q_x (v := (.agg #[s44.v])) hF hS (ex_loadA (vs := [s44.v]) 2 0 Tryd.underlying60 rfl sz60 rfl rfl rfl rfl) rfl rfl fun a hF => q_store (vs := [s44.v]) (cs' := [s44.v]) 3 0 hF hS sz60 rfl rfl rfl rfl rfl rfl rfl rfl fun a w hF hS => q_end (n_sq (q_ret ?_))))
  obtain rfl := someI hr
  exact ret_ofX hF hS rfl (.cellA (us := [s44.v]) 3 0 Tryd.underlying60 rfl sz60 rfl rfl rfl rfl .nil) ⟨m3', q44, s44, rfl, hm3, hS.sel [1, 0] (by decide), h44, h42k⟩

theorem c_spec_DrawIsGeo (p_code : List (K .u8)) (r : impl_Geo) (hr : spec_DrawIsGeo p_code = some r) (w0 : World) (m : Mem) (hv : Vis m w0) (s1 : Sl) (h1 : Rd m s1 p_code) :
  Ret Tryd.prog 90 [s1.v] w0 (fun v w => ∃ (m' : Mem) (q0' : Piece) (s0' : Sl), v = (.agg #[s0'.v]) ∧ MLe [] w0.heap.size m m' ∧ St [] w0 w m' [q0'] ∧ OwnL m' 3 q0' s0' r.Parents) := by
 unfold spec_DrawIsGeo at hr
 refine ret_start Tryd.func90 rfl 9 rfl rfl m hv fun a hF hS => q_seq (q_region (q_alloc (cs := [nilS.v]) hF hS rfl rfl rfl fun a w b2 hF hS => q_end (n_sq (q_seq (q_region (q_x (v := s1.v) hF hS (ex_move rfl) rfl rfl fun a hF => q_x (v := (.agg #[s1.v, (.int .i64 0), (.int .u64 0)])) hF hS (ex_build (cells := [s1.v, (.int .i64 0), (.int .u64 0)]) rfl (by kernel_rfl)) rfl rfl fun a hF => q_box (cs := [s1.v, (.int .i64 0), (.int .u64 0)]) hF hS rfl rfl rfl fun a w b3 hF hS => q_x (v := (.pointer (some ⟨b3, 0, none⟩))) hF hS (ex_assign rfl) rfl rfl fun a hF => q_end (n_sq (q_seq (q_region (q_x (v := (.pointer (some ⟨b3, 0, none⟩))) hF hS (ex_move rfl) rfl rfl fun a hF => ?_))))))))))
 have hS4 : St _ _ _ _ ([[⟨b3, [s1.v, (.int .i64 0), (.int .u64 0)], 76⟩]] ++ [[⟨b2, [nilS.v], 60⟩]]) := hS
 have hE4 := hS4.enter
 obtain ⟨t_5, ht_5, hr⟩ := bindS hr
 refine q_do rfl fun _ hK => wp_callX (vs := [(.pointer (some ⟨b3, 0, none⟩))]) hF Tryd.func102 (by kernel_rfl) rfl rfl rfl (c_spec_l1Cur_anyGeo (spec_l1Cur.mk p_code 0 (⟨0⟩ : K .u64)) t_5 ht_5 _ m b3 s1 h1 _ hE4) fun a w _ hR hF => hK _ _ ?_
 obtain ⟨m4', q6, s6, rfl, hm4, hR4, h6, hk7⟩ := hR
 have hS : St _ _ _ _ [[⟨b3, [s1.v, (.int .i64 t_5.2.at_), (.int .u64 t_5.2.seed.v)], 76⟩], q6, [⟨b2, [nilS.v], 60⟩]] := hS4.leave hR4 hm4
 have hm4 := MLe.weakX hS4 hm4
 have h7 : Rd m4' s1 t_5.2.code := by rw [hk7]; exact (h1.mono hm4.le)
 refine q_store (vs := [s6.v]) (cs' := [s6.v]) 2 0 hF hS sz60 rfl rfl rfl rfl rfl rfl rfl rfl fun a w hF hS => q_end (n_sq (q_ret ?_))
 obtain rfl := someI hr
 exact ret_of hF hS rfl (.cellA (us := [s6.v]) 2 0 Tryd.underlying60 rfl sz60 rfl rfl rfl rfl .nil) ⟨m4', q6, s6, rfl, hm4, hS.sel [1] (by decide), h6⟩

theorem c_spec_DrawGeoText (p_code : List (K .u8)) (r : impl_Geo) (hr : spec_DrawGeoText p_code = some r) (w0 : World) (m : Mem) (hv : Vis m w0) (s1 : Sl) (h1 : Rd m s1 p_code) :
  Ret Tryd.prog 34 [s1.v] w0 (fun v w => ∃ (m' : Mem) (q0' : Piece) (s0' : Sl), v = (.agg #[s0'.v]) ∧ MLe [] w0.heap.size m m' ∧ St [] w0 w m' [q0'] ∧ OwnL m' 3 q0' s0' r.Parents) := by
 unfold spec_DrawGeoText at hr
 refine ret_start Tryd.func34 rfl 5 rfl rfl m hv fun a hF hS => q_seq (q_region (q_alloc (cs := [nilS.v]) hF hS rfl rfl rfl fun a w b2 hF hS => q_end (n_sq (q_seq (q_region (q_x (v := s1.v) hF hS (ex_move rfl) rfl rfl fun a hF => ?_))))))
 obtain ⟨t_3, ht_3, hr⟩ := bindS hr
 refine q_call (vs := [s1.v]) hF hS Tryd.func90 (by kernel_rfl) rfl rfl rfl (c_spec_DrawIsGeo p_code t_3 ht_3 _ m hS.vis s1 h1) ?_
 have hT := hS
 rintro a w _ ⟨m4, q5, s5, rfl, hm4, hR4, h5⟩ hF hS2
 have hS : St _ _ _ _ [q5, [⟨b2, [nilS.v], 60⟩]] := hS.join hR4 hm4
 have hm4 := MLe.weakX (O0 := []) hT hm4
 refine q_store (vs := [s5.v]) (cs' := [s5.v]) 1 0 hF hS sz60 rfl rfl rfl rfl rfl rfl rfl rfl fun a w hF hS => q_end (n_sq (q_ret ?_))
 obtain rfl := someI hr
 exact ret_of hF hS rfl (.cellA (us := [s5.v]) 1 0 Tryd.underlying60 rfl sz60 rfl rfl rfl rfl .nil) ⟨m4, q5, s5, rfl, hm4, hS.sel [0] (by decide), h5⟩

theorem c_impl_IsGeo (p_g : impl_Geo) (r : Bool) (hr : impl_IsGeo p_g = some r) (w0 : World) (m : Mem) (hv : Vis m w0) (s1 : Sl) (h1 : Rd m s1 p_g.Parents) :
  Ret Tryd.prog 37 [(.agg #[s1.v])] w0 (fun v _ => v = (.bool r)) := by
 unfold impl_IsGeo at hr
 refine ret_start Tryd.func37 rfl 43 rfl rfl m hv fun a hF hS => q_seq (q_region (q_box (cs := [s1.v]) hF hS rfl rfl rfl fun a w b2 hF hS => q_x (v := (.bool false)) hF hS (ex_assign rfl) rfl rfl fun a hF => q_end (n_sq (q_seq (q_seq ?_)))))
 obtain ⟨t_5, hj1, hr⟩ := bindS hr
 refine q_join (fun a w => Fr a 43 [(1, (.pointer (some ⟨b2, 0, none⟩))), (20, (.bool t_5))] ∧ St [] w0 w m [[⟨b2, [s1.v], 60⟩]]) ?_ ?_
 ·refine q_region (q_x (v := (.pointer (some ⟨b2, 0, none⟩))) hF hS (ex_fieldAddr Tryd.underlying60 rfl sz42 rfl rfl) rfl rfl fun a hF => q_x (v := s1.v) hF hS (ex_load1 0 0 Tryd.underlying42 rfl rfl rfl rfl) rfl rfl fun a hF => q_x (v := (.int .i64 (goLen p_g.Parents))) hF hS (ex_len Tryd.underlying42 rfl h1.len) rfl rfl fun a hF => q_x (v := (.bool (decide ((goLen p_g.Parents) < 1)))) hF hS (ex_ibin rfl rfl rfl) rfl rfl fun a hF => q_x (v := (.bool (decide ((goLen p_g.Parents) < 1)))) hF hS (ex_move rfl) rfl rfl fun a hF => ?_)
  rcases bcase (decide ((goLen p_g.Parents) < 1)) with hc2 | hc2
  ·have hj1 := cond_f hc2 hj1
   refine q_xg (v := (.pointer (some ⟨b2, 0, none⟩))) hF hS (ex_fieldAddr Tryd.underlying60 rfl sz42 rfl rfl) (wanted_t hF rfl rfl rfl hc2) rfl fun a hF => q_xg (v := s1.v) hF hS (ex_load1 0 0 Tryd.underlying42 rfl rfl rfl rfl) (wanted_t hF rfl rfl rfl hc2) rfl fun a hF => q_xg (v := (.int .i64 (goLen p_g.Parents))) hF hS (ex_len Tryd.underlying42 rfl h1.len) (wanted_t hF rfl rfl rfl hc2) rfl fun a hF => q_xg (v := (.bool (decide (30 < (goLen p_g.Parents))))) hF hS (ex_ibin rfl rfl rfl) (wanted_t hF rfl rfl rfl hc2) rfl fun a hF => q_x (v := (.bool (decide (30 < (goLen p_g.Parents))))) hF hS (ex_pick_f rfl rfl hc2) rfl rfl fun a hF => q_x (v := (.bool (decide (30 < (goLen p_g.Parents))))) hF hS (ex_move rfl) rfl rfl fun a hF => ?_
   rcases bcase (decide (30 < (goLen p_g.Parents))) with hc3 | hc3
   ·have hj1 := cond_f hc3 hj1
    refine q_xg (v := (.pointer (some ⟨b2, 0, none⟩))) hF hS (ex_fieldAddr Tryd.underlying60 rfl sz42 rfl rfl) (wanted_t hF rfl rfl rfl hc3) rfl fun a hF => q_xg (v := s1.v) hF hS (ex_load1 0 0 Tryd.underlying42 rfl rfl rfl rfl) (wanted_t hF rfl rfl rfl hc3) rfl fun a hF => ?_
    obtain ⟨e_3, he_3, hj1⟩ := bindS hj1
    obtain ⟨vs4, at4, d4⟩ := h1.at he_3 1 rfl
    obtain rfl : vs4 = [(.int .i64 e_3)] := d4
    refine q_xg (v := (elP s1 ((0 : Int).toNat * 1))) hF hS (ex_indexAddr Tryd.underlying42 sz3 rfl rfl (h1.idx he_3)) (wanted_t hF rfl rfl rfl hc3) rfl fun a hF => q_xg (v := (.int .i64 e_3)) hF hS (ex_loadE1 0 Tryd.underlying3 rfl rfl ((at4).at) rfl rfl) (wanted_t hF rfl rfl rfl hc3) rfl fun a hF => q_xg (v := (.bool (e_3 != (-1)))) hF hS (ex_ibin rfl rfl rfl) (wanted_t hF rfl rfl rfl hc3) rfl fun a hF => q_x (v := (.bool (e_3 != (-1)))) hF hS (ex_pick_f rfl rfl hc3) rfl rfl fun a hF => q_end (n_jn ?_)
    obtain rfl := someI hj1
    exact ⟨hF.sub ⟨rfl, rfl, trivial⟩, hS⟩
   ·have hj1 := cond_t hc3 hj1
    refine q_skip hF (wanted_f hF rfl rfl rfl hc3 rfl) rfl fun a hF => q_skip hF (wanted_f hF rfl rfl rfl hc3 rfl) rfl fun a hF => q_skip hF (wanted_f hF rfl rfl rfl hc3 rfl) rfl fun a hF => q_skip hF (wanted_f hF rfl rfl rfl hc3 rfl) rfl fun a hF => q_skip hF (wanted_f hF rfl rfl rfl hc3 rfl) rfl fun a hF => q_x (v := (.bool true)) hF hS (ex_pick_t rfl rfl hc3) rfl rfl fun a hF => q_end (n_jn ?_)
    obtain rfl := someI hj1
    exact ⟨hF.sub ⟨rfl, rfl, trivial⟩, hS⟩
  ·have hj1 := cond_t hc2 hj1
   refine q_skip hF (wanted_f hF rfl rfl rfl hc2 rfl) rfl fun a hF => q_skip hF (wanted_f hF rfl rfl rfl hc2 rfl) rfl fun a hF => q_skip hF (wanted_f hF rfl rfl rfl hc2 rfl) rfl fun a hF => q_skip hF (wanted_f hF rfl rfl rfl hc2 rfl) rfl fun a hF => q_x (v := (.bool true)) hF hS (ex_pick_t rfl rfl hc2) rfl rfl fun a hF => q_x (v := (.bool true)) hF hS (ex_move rfl) rfl rfl fun a hF => q_skip hF (wanted_f hF rfl rfl rfl rfl rfl) rfl fun a hF => q_skip hF (wanted_f hF rfl rfl rfl rfl rfl) rfl fun a hF => q_skip hF (wanted_f hF rfl rfl rfl rfl rfl) rfl fun a hF => q_skip hF (wanted_f hF rfl rfl rfl rfl rfl) rfl fun a hF => q_skip hF (wanted_f hF rfl rfl rfl rfl rfl) rfl fun a hF => q_x (v := (.bool true)) hF hS (ex_pick_t rfl rfl rfl) rfl rfl fun a hF => q_end (n_jn ?_)
   obtain rfl := someI hj1
   exact ⟨hF.sub ⟨rfl, rfl, trivial⟩, hS⟩
 ·rintro a w ⟨hF, hS⟩
  refine n_sq ?_
  rcases bcase (t_5) with hc4 | hc4
  ·have hr := cond_f hc4 hr
   refine q_cond_f hF rfl hc4 (q_skipc (n_sq (q_seq (q_seq (q_region (q_x (v := (.int .i64 1)) hF hS (ex_assign rfl) rfl rfl fun a hF => q_end (n_sq (q_block ?_))))))))
   obtain ⟨o5, hl5, hr⟩ := bindS hr
   refine q_loop (fun (i_6 : Int) a w => Fr a 43 [(1, (.pointer (some ⟨b2, 0, none⟩))), (3, (.int .i64 i_6))] ∧ St [] w0 w m [[⟨b2, [s1.v], 60⟩]]) (fun (o : (Unit) ⊕ (Bool)) e a w => o = .inl () ∧ e = .exit 0 ∧ Fr a 43 [] ∧ St [] w0 w m []) hl5 ⟨hF.sub ⟨rfl, rfl, trivial⟩, hS⟩ ?_ ?_
   ·clear hF hS
    rintro i_6 a w st ⟨hF, hS⟩ hb5
    unfold impl_IsGeo_l1 at hb5
    refine q_seq (q_seq (q_region (q_x (v := (.int .i64 i_6)) hF hS (ex_move rfl) rfl rfl fun a hF => q_x (v := (.pointer (some ⟨b2, 0, none⟩))) hF hS (ex_fieldAddr Tryd.underlying60 rfl sz42 rfl rfl) rfl rfl fun a hF => q_x (v := s1.v) hF hS (ex_load1 0 0 Tryd.underlying42 rfl rfl rfl rfl) rfl rfl fun a hF => q_x (v := (.int .i64 (goLen p_g.Parents))) hF hS (ex_len Tryd.underlying42 rfl h1.len) rfl rfl fun a hF => q_x (v := (.bool (decide (i_6 < (goLen p_g.Parents))))) hF hS (ex_ibin rfl rfl rfl) rfl rfl fun a hF => q_end (n_sq ?_))))
    rcases bcase (decide (i_6 < (goLen p_g.Parents))) with hc6 | hc6
    ·have hb5 := cond_f hc6 hb5
     refine q_cond_f hF rfl hc6 (q_exit (x_sq ?_))
     obtain rfl := someI hb5
     exact ⟨nofun, .inl ⟨rfl, rfl, hF.sub trivial, hS.mask [false]⟩⟩
    ·have hb5 := cond_t hc6 hb5
     refine q_cond_t hF rfl hc6 (q_skipc (n_sq (q_seq (q_block (q_seq ?_)))))
     obtain ⟨t_11, hj7, hb5⟩ := bindS hb5
     refine q_join (fun a w => Fr a 43 [(1, (.pointer (some ⟨b2, 0, none⟩))), (3, (.int .i64 i_6)), (42, (.bool t_11))] ∧ St [] w0 w m [[⟨b2, [s1.v], 60⟩]]) ?_ ?_
     ·refine q_region (q_x (v := (.pointer (some ⟨b2, 0, none⟩))) hF hS (ex_fieldAddr Tryd.underlying60 rfl sz42 rfl rfl) rfl rfl fun a hF => q_x (v := s1.v) hF hS (ex_load1 0 0 Tryd.underlying42 rfl rfl rfl rfl) rfl rfl fun a hF => q_x (v := (.int .i64 i_6)) hF hS (ex_move rfl) rfl rfl fun a hF => ?_)
      obtain ⟨e_7, he_7, hj7⟩ := bindS hj7
      obtain ⟨vs8, at8, d8⟩ := h1.at he_7 1 rfl
      obtain rfl : vs8 = [(.int .i64 e_7)] := d8
      refine q_x (v := (elP s1 (i_6.toNat * 1))) hF hS (ex_indexAddr Tryd.underlying42 sz3 rfl rfl (h1.idx he_7)) rfl rfl fun a hF => q_x (v := (.int .i64 e_7)) hF hS (ex_loadE1 0 Tryd.underlying3 rfl rfl ((at8).at) rfl rfl) rfl rfl fun a hF => q_x (v := (.bool (decide (e_7 < 0)))) hF hS (ex_ibin rfl rfl rfl) rfl rfl fun a hF => q_x (v := (.bool (decide (e_7 < 0)))) hF hS (ex_move rfl) rfl rfl fun a hF => ?_
      rcases bcase (decide (e_7 < 0)) with hc8 | hc8
      ·have hj7 := cond_f hc8 hj7
       refine q_xg (v := (.pointer (some ⟨b2, 0, none⟩))) hF hS (ex_fieldAddr Tryd.underlying60 rfl sz42 rfl rfl) (wanted_t hF rfl rfl rfl hc8) rfl fun a hF => q_xg (v := s1.v) hF hS (ex_load1 0 0 Tryd.underlying42 rfl rfl rfl rfl) (wanted_t hF rfl rfl rfl hc8) rfl fun a hF => q_xg (v := (.int .i64 i_6)) hF hS (ex_move rfl) (wanted_t hF rfl rfl rfl hc8) rfl fun a hF => ?_
       obtain ⟨e_9, he_9, hj7⟩ := bindS hj7
       obtain ⟨vs10, at10, d10⟩ := h1.at he_9 1 rfl
       obtain rfl : vs10 = [(.int .i64 e_9)] := d10
       refine q_xg (v := (elP s1 (i_6.toNat * 1))) hF hS (ex_indexAddr Tryd.underlying42 sz3 rfl rfl (h1.idx he_9)) (wanted_t hF rfl rfl rfl hc8) rfl fun a hF => q_xg (v := (.int .i64 e_9)) hF hS (ex_loadE1 0 Tryd.underlying3 rfl rfl ((at10).at) rfl rfl) (wanted_t hF rfl rfl rfl hc8) rfl fun a hF => q_xg (v := (.int .i64 i_6)) hF hS (ex_move rfl) (wanted_t hF rfl rfl rfl hc8) rfl fun a hF => q_xg (v := (.bool (decide (i_6 ≤ e_9)))) hF hS (ex_ibin rfl rfl rfl) (wanted_t hF rfl rfl rfl hc8) rfl fun a hF => q_x (v := (.bool (decide (i_6 ≤ e_9)))) hF hS (ex_pick_f rfl rfl hc8) rfl rfl fun a hF => q_end (n_jn ?_)
       obtain rfl := someI hj7
       exact ⟨hF.sub ⟨rfl, rfl, rfl, trivial⟩, hS⟩
      ·have hj7 := cond_t hc8 hj7
       refine q_skip hF (wanted_f hF rfl rfl rfl hc8 rfl) rfl fun a hF => q_skip hF (wanted_f hF rfl rfl rfl hc8 rfl) rfl fun a hF => q_skip hF (wanted_f hF rfl rfl rfl hc8 rfl) rfl fun a hF => q_skip hF (wanted_f hF rfl rfl rfl hc8 rfl) rfl fun a hF => q_skip hF (wanted_f hF rfl rfl rfl hc8 rfl) rfl fun a hF => q_skip hF (wanted_f hF rfl rfl rfl hc8 rfl) rfl fun a hF => q_skip hF (wanted_f hF rfl rfl rfl hc8 rfl) rfl fun a hF => q_x (v := (.bool true)) hF hS (ex_pick_t rfl rfl hc8) rfl rfl fun a hF => q_end (n_jn ?_)
       obtain rfl := someI hj7
       exact ⟨hF.sub ⟨rfl, rfl, rfl, trivial⟩, hS⟩
     ·rintro a w ⟨hF, hS⟩
      refine n_sq ?_
      rcases bcase (t_11) with hc9 | hc9
      ·have hb5 := cond_f hc9 hb5
       refine q_cond_f hF rfl hc9 (q_skipc (n_ib (n_sq (q_region (q_x (v := (.int .i64 i_6)) hF hS (ex_move rfl) rfl rfl fun a hF => q_x (v := (.int .i64 (w64 (i_6 + 1)))) hF hS (ex_ibin rfl rfl rfl) rfl rfl fun a hF => q_x (v := (.int .i64 (w64 (i_6 + 1)))) hF hS (ex_assign rfl) rfl rfl fun a hF => q_end ?_)))))
       obtain rfl := someI hb5
       exact ⟨rfl, hF.sub ⟨rfl, rfl, trivial⟩, hS⟩
      ·have hb5 := cond_t hc9 hb5
       refine q_cond_t hF rfl hc9 (q_seq (q_region (q_x (v := (.bool false)) hF hS (ex_assign rfl) rfl rfl fun a hF => q_end (n_sq (q_ret (r_ib (r_sq ?_)))))))
       obtain rfl := someI hb5
       refine ⟨nofun, .inr fun ho => ?_⟩
       subst ho
       refine r_ib (r_sq ?_)
       obtain rfl := someI hr
       exact ret_of hF hS rfl (.tmp rfl .nil) rfl
   ·rintro e a w ⟨rfl, rfl, hF, hS⟩
    refine x_ib (n_sq ?_)
    refine q_seq (q_region (q_x (v := (.bool true)) hF hS (ex_assign rfl) rfl rfl fun a hF => q_end (n_sq (q_ret ?_))))
    obtain rfl := someI hr
    exact ret_of hF hS rfl (.tmp rfl .nil) rfl
  ·have hr := cond_t hc4 hr
   refine q_cond_t hF rfl hc4 (q_seq (q_region (q_x (v := (.bool false)) hF hS (ex_assign rfl) rfl rfl fun a hF => q_end (n_sq (q_ret (r_sq ?_))))))
   obtain rfl := someI hr
   exact ret_of hF hS rfl (.tmp rfl .nil) rfl

theorem c_impl_childrenOf (p_g : impl_Geo) (p_i : Int) (r : (List Int)) (hr : impl_childrenOf p_g p_i = some r) (w0 : World) (m : Mem) (hv : Vis m w0) (s1 : Sl) (h1 : Rd m s1 p_g.Parents) :
  Ret Tryd.prog 124 [(.agg #[s1.v]), (.int .i64 p_i)] w0 (fun v w => ∃ (q0' : Piece) (s0' : Sl), v = s0'.v ∧ St [] w0 w m [q0'] ∧ OwnL m 3 q0' s0' r) := by
 unfold impl_childrenOf at hr
 refine ret_start Tryd.func124 rfl 29 rfl rfl m hv fun a hF hS => q_seq (q_region (q_box (cs := [s1.v]) hF hS rfl rfl rfl fun a w b2 hF hS => q_x (v := nilS.v) hF hS (ex_assign rfl) rfl rfl fun a hF => q_end (n_sq (q_seq (q_region (q_x (v := nilS.v) hF hS (ex_assign rfl) rfl rfl fun a hF => q_end (n_sq (q_seq (q_seq (q_region (q_x (v := (.pointer (some ⟨b2, 0, none⟩))) hF hS (ex_fieldAddr Tryd.underlying60 rfl sz42 rfl rfl) rfl rfl fun a hF => q_x (v := s1.v) hF hS (ex_load1 0 0 Tryd.underlying42 rfl rfl rfl rfl) rfl rfl fun a hF => q_x (v := (.int .i64 (goLen p_g.Parents))) hF hS (ex_len Tryd.underlying42 rfl h1.len) rfl rfl fun a hF => q_x (v := (.int .i64 0)) hF hS (ex_move rfl) rfl rfl fun a hF => q_end (n_sq (q_block ?_)))))))))))))
 obtain ⟨list_14, hl1, hr⟩ := bindS hr
 refine q_loop (fun (s : (List Int) × Int) a w => ∃ (q4 : Piece), ∃ (s4 : Sl), ∃ list_3, ∃ t_5, s = (list_3, t_5) ∧ Fr a 29 [(1, (.int .i64 p_i)), (5, s4.v), (9, s1.v), (10, (.int .i64 (goLen p_g.Parents))), (11, (.int .i64 t_5))] ∧ St [] w0 w m [q4] ∧ OwnL m 3 q4 s4 list_3) (fun (list_14 : (List Int)) e a w => ∃ (q15 : Piece), ∃ (s15 : Sl), e = .exit 0 ∧ Fr a 29 [(5, s15.v)] ∧ St [] w0 w m [q15] ∧ OwnL m 3 q15 s15 list_14) hl1 ⟨[], nilS, _, _, rfl, hF.sub ⟨rfl, rfl, rfl, rfl, rfl, trivial⟩, hS.sel [1] (by decide), (OwnL.nil (α := Int) m 3)⟩ ?_ ?_
 ·clear hF hS
  rintro s a w st ⟨q4, s4, list_3, t_5, rfl, hF, hS, h4⟩ hb1
  unfold impl_childrenOf_l1 at hb1
  refine q_seq (q_region (q_x (v := (.bool (decide (t_5 < (goLen p_g.Parents))))) hF hS (ex_ibin rfl rfl rfl) rfl rfl fun a hF => q_end (n_sq (q_seq ?_))))
  rcases bcase (decide (t_5 < (goLen p_g.Parents))) with hc2 | hc2
  ·have hb1 := cond_f hc2 hb1
   refine q_cond_f hF rfl hc2 (q_exit (x_sq ?_))
   obtain rfl := someI hb1
   exact ⟨nofun, .inl ⟨q4, s4, rfl, hF.sub ⟨rfl, trivial⟩, hS, h4⟩⟩
  ·have hb1 := cond_t hc2 hb1
   refine q_cond_t hF rfl hc2 (q_skipc (n_sq (q_seq (q_block (q_seq (q_region (q_x (v := (.int .i64 t_5)) hF hS (ex_move rfl) rfl rfl fun a hF => ?_)))))))
   obtain ⟨e_6, he_6, hb1⟩ := bindS hb1
   obtain ⟨vs7, at7, d7⟩ := h1.at he_6 1 rfl
   obtain rfl : vs7 = [(.int .i64 e_6)] := d7
   refine q_x (v := (elP s1 (t_5.toNat * 1))) hF hS (ex_indexAddr Tryd.underlying42 sz3 rfl rfl (h1.idx he_6)) rfl rfl fun a hF => q_x (v := (.int .i64 e_6)) hF hS (ex_loadE1 0 Tryd.underlying3 rfl rfl ((at7).at) rfl rfl) rfl rfl fun a hF => q_x (v := (.int .i64 t_5)) hF hS (ex_assign rfl) rfl rfl fun a hF => q_x (v := (.int .i64 e_6)) hF hS (ex_assign rfl) rfl rfl fun a hF => q_end (n_sq (q_seq ?_))
   obtain ⟨t_8, hj3, hb1⟩ := bindS hb1
   refine q_join (fun a w => Fr a 29 [(1, (.int .i64 p_i)), (5, s4.v), (6, (.int .i64 t_5)), (9, s1.v), (10, (.int .i64 (goLen p_g.Parents))), (11, (.int .i64 t_5)), (22, (.bool t_8))] ∧ St [] w0 w m [q4]) ?_ ?_
   ·refine q_region (q_x (v := (.int .i64 e_6)) hF hS (ex_move rfl) rfl rfl fun a hF => q_x (v := (.int .i64 p_i)) hF hS (ex_move rfl) rfl rfl fun a hF => q_x (v := (.bool (e_6 == p_i))) hF hS (ex_ibin rfl rfl rfl) rfl rfl fun a hF => q_x (v := (.bool (e_6 == p_i))) hF hS (ex_move rfl) rfl rfl fun a hF => ?_)
    rcases bcase (e_6 == p_i) with hc4 | hc4
    ·have hj3 := cond_f hc4 hj3
     refine q_skip hF (wanted_f hF rfl rfl rfl hc4 rfl) rfl fun a hF => q_skip hF (wanted_f hF rfl rfl rfl hc4 rfl) rfl fun a hF => q_x (v := (.bool false)) hF hS (ex_pick_f rfl rfl hc4) rfl rfl fun a hF => q_end (n_jn ?_)
     obtain rfl := someI hj3
     exact ⟨hF.sub ⟨rfl, rfl, rfl, rfl, rfl, rfl, rfl, trivial⟩, hS⟩
    ·have hj3 := cond_t hc4 hj3
     refine q_xg (v := (.int .i64 t_5)) hF hS (ex_move rfl) (wanted_t hF rfl rfl rfl hc4) rfl fun a hF => q_xg (v := (.bool (decide (0 < t_5)))) hF hS (ex_ibin rfl rfl rfl) (wanted_t hF rfl rfl rfl hc4) rfl fun a hF => q_x (v := (.bool (decide (0 < t_5)))) hF hS (ex_pick_t rfl rfl hc4) rfl rfl fun a hF => q_end (n_jn ?_)
     obtain rfl := someI hj3
     exact ⟨hF.sub ⟨rfl, rfl, rfl, rfl, rfl, rfl, rfl, trivial⟩, hS⟩
   ·rintro a w ⟨hF, hS⟩
    refine n_sq ?_
    obtain ⟨list_12, hj5, hb1⟩ := bindS hb1
    refine q_join (fun a w => ∃ (q13 : Piece), ∃ (s13 : Sl), Fr a 29 [(1, (.int .i64 p_i)), (5, s13.v), (9, s1.v), (10, (.int .i64 (goLen p_g.Parents))), (11, (.int .i64 t_5))] ∧ St [] w0 w m [q13] ∧ OwnL m 3 q13 s13 list_12) ?_ ?_
    ·rcases bcase (t_8) with hc6 | hc6
     ·have hj5 := cond_f hc6 hj5
      refine q_cond_f hF rfl hc6 (q_skipc (n_jn ?_))
      obtain rfl := someI hj5
      exact ⟨q4, s4, hF.sub ⟨rfl, rfl, rfl, rfl, rfl, trivial⟩, hS, h4⟩
     ·have hj5 := cond_t hc6 hj5
      refine q_cond_t hF rfl hc6 (q_region (q_x (v := s4.v) hF hS (ex_move rfl) rfl rfl fun a hF => q_x (v := (.int .i64 t_5)) hF hS (ex_move rfl) rfl rfl fun a hF => q_do rfl fun _ hK => wp_buildSlice' (l := ([t_5] : List Int)) (cells := [(.int .i64 t_5)]) hF hS Tryd.underlying42 inf3 rfl rfl (by kernel_rfl) rfl rfl rfl ⟨rfl, rfl⟩ rfl rfl fun a w q9 s9 hF hS h9 _ => hK _ _ ?_))
      have hS : St _ _ _ _ [q4, q9] := hS.sel [1, 0] (by decide)
      obtain ⟨l_10, hl_10, hj5⟩ := bindS hj5
      refine q_do rfl fun _ hK => wp_append hF hS h4 Tryd.underlying42 inf3 rfl rfl rfl rfl (h9.vw hS (j := 1) rfl) rfl (by decide) hl_10 rfl fun a w q11 s11 hF hS h11 => hK _ _ (q_x (v := s11.v) hF hS (ex_assign rfl) rfl rfl fun a hF => q_end (n_jn ?_))
      obtain rfl := someI hj5
      exact ⟨q11, s11, hF.sub ⟨rfl, rfl, rfl, rfl, rfl, trivial⟩, hS.mask [true, false], h11⟩
    ·rintro a w ⟨q13, s13, hF, hS, h13⟩
     refine n_ib (n_sq ?_)
     refine q_region (q_x (v := (.int .i64 (w64 (t_5 + 1)))) hF hS (ex_ibin rfl rfl rfl) rfl rfl fun a hF => q_x (v := (.int .i64 (w64 (t_5 + 1)))) hF hS (ex_move rfl) rfl rfl fun a hF => q_end ?_)
     obtain rfl := someI hb1
     exact ⟨rfl, q13, s13, _, _, rfl, hF.sub ⟨rfl, rfl, rfl, rfl, rfl, trivial⟩, hS, h13⟩
 ·rintro e a w ⟨q15, s15, rfl, hF, hS, h15⟩
  refine x_ib (n_sq ?_)
  refine q_seq (q_region (q_x (v := s15.v) hF hS (ex_move rfl) rfl rfl fun a hF => q_x (v := s15.v) hF hS (ex_assign rfl) rfl rfl fun a hF => q_end (n_sq (q_ret ?_))))
  obtain rfl := someI hr
  exact ret_of hF hS rfl (.tmp rfl .nil) ⟨q15, s15, rfl, hS.sel [0] (by decide), h15⟩

theorem cB_impl_areaText (rcf : impl_Geo → Int → Option ((List UInt8))) (ih : ∀ (p_g : impl_Geo) (p_i : Int) (r : (List UInt8)) (hr : rcf p_g p_i = some r) (w0 : World) (m : Mem) (hv : Vis m w0) (ht : Tbl m) (s1 : Sl) (h1 : Rd m s1 p_g.Parents),
  Ret Tryd.prog 91 [(.agg #[s1.v]), (.int .i64 p_i)] w0 (fun v _ => v = (strV r))) :
  ∀ (p_g : impl_Geo) (p_i : Int) (r : (List UInt8)) (hr : impl_areaText_B rcf p_g p_i = some r) (w0 : World) (m : Mem) (hv : Vis m w0) (ht : Tbl m) (s1 : Sl) (h1 : Rd m s1 p_g.Parents),
  Ret Tryd.prog 91 [(.agg #[s1.v]), (.int .i64 p_i)] w0 (fun v _ => v = (strV r)) := by
 intro p_g p_i r hr w0 m hv ht s1 h1
 unfold impl_areaText_B at hr
 refine ret_start Tryd.func91 rfl 42 rfl rfl m hv fun a hF hS => q_seq (q_region (q_box (cs := [s1.v]) hF hS rfl rfl rfl fun a w b2 hF hS => q_x (v := (strV ([] : List UInt8))) hF hS (ex_assign rfl) rfl rfl fun a hF => q_end (n_sq (q_seq (q_region (q_x (v := (.int .i64 p_i)) hF hS (ex_move rfl) rfl rfl fun a hF => ?_))))))
 obtain ⟨t_3, ht_3, hr⟩ := bindS hr
 refine q_call (vs := [(.int .i64 p_i)]) hF hS Tryd.func68 (by kernel_rfl) rfl rfl rfl (c_strconv_Itoa p_i t_3 ht_3 _ m hS.vis ht) ?_
 rintro a w _ rfl hF hS
 refine q_x (v := (strV t_3)) hF hS (ex_assign rfl) rfl rfl fun a hF => q_end (n_sq (q_seq (q_region (q_x (v := (.agg #[s1.v])) hF hS (ex_loadA (vs := [s1.v]) 0 0 Tryd.underlying60 rfl sz60 rfl rfl rfl rfl) rfl rfl fun a hF => q_x (v := (.int .i64 p_i)) hF hS (ex_move rfl) rfl rfl fun a hF => ?_))))
 obtain ⟨t_4, ht_4, hr⟩ := bindS hr
 refine q_call (vs := [(.agg #[s1.v]), (.int .i64 p_i)]) hF hS Tryd.func124 (by kernel_rfl) rfl rfl rfl (c_impl_childrenOf p_g p_i t_4 ht_4 _ m hS.vis s1 h1) ?_
 rintro a w _ ⟨q6, s6, rfl, hR5, h6⟩ hF hS2
 have hS : St _ _ _ _ [q6, [⟨b2, [s1.v], 60⟩]] := hS.joinF hR5
 refine q_x (v := s6.v) hF hS (ex_assign rfl) rfl rfl fun a hF => q_end (n_sq (q_seq (q_seq (q_region (q_x (v := s6.v) hF hS (ex_move rfl) rfl rfl fun a hF => q_x (v := (.int .i64 (goLen t_4))) hF hS (ex_len Tryd.underlying42 rfl h6.len) rfl rfl fun a hF => q_x (v := (.bool ((goLen t_4) == 0))) hF hS (ex_ibin rfl rfl rfl) rfl rfl fun a hF => q_end (n_sq ?_))))))
 rcases bcase ((goLen t_4) == 0) with hc1 | hc1
 ·have hr := cond_f hc1 hr
  refine q_cond_f hF rfl hc1 (q_skipc (n_sq (q_seq (q_region (q_x (v := s6.v) hF hS (ex_move rfl) rfl rfl fun a hF => q_x (v := (.int .i64 (goLen t_4))) hF hS (ex_len Tryd.underlying42 rfl h6.len) rfl rfl fun a hF => ?_)))))
  obtain ⟨l_7, hl_7, hr⟩ := bindS hr
  refine q_do rfl fun _ hK => wp_make (z := (([] : List UInt8) : List UInt8)) hF hS Tryd.underlying119 inf9 rfl rfl rfl rfl rfl (by decide) hl_7 rfl fun a w q8 s8 hF hS h8 _ => hK _ _ (q_x (v := s8.v) hF hS (ex_assign rfl) rfl rfl fun a hF => q_end (n_sq (q_seq (q_seq (q_region (q_x (v := s6.v) hF hS (ex_move rfl) rfl rfl fun a hF => q_x (v := (.int .i64 (goLen t_4))) hF hS (ex_len Tryd.underlying42 rfl h6.len) rfl rfl fun a hF => q_x (v := (.int .i64 0)) hF hS (ex_move rfl) rfl rfl fun a hF => q_end (n_sq (q_block ?_))))))))
  obtain ⟨parts_18, hl2, hr⟩ := bindS hr
  refine q_loop (fun (s : (List (List UInt8)) × Int) a w => ∃ (q10 : Piece), ∃ parts_9, ∃ t_11, s = (parts_9, t_11) ∧ Fr a 42 [(2, (.pointer (some ⟨b2, 0, none⟩))), (5, (strV t_3)), (7, s8.v), (22, s6.v), (23, (.int .i64 (goLen t_4))), (24, (.int .i64 t_11))] ∧ St [] w0 w m [q10, q6, [⟨b2, [s1.v], 60⟩]] ∧ OwnL m 9 q10 s8 parts_9) (fun (parts_18 : (List (List UInt8))) e a w => ∃ (q19 : Piece), e = .exit 0 ∧ Fr a 42 [(5, (strV t_3)), (7, s8.v)] ∧ St [] w0 w m [q19] ∧ OwnL m 9 q19 s8 parts_18) hl2 ⟨q8, _, _, rfl, hF.sub ⟨rfl, rfl, rfl, rfl, rfl, rfl, trivial⟩, hS, h8⟩ ?_ ?_
  ·clear hF hS
   rintro s a w st ⟨q10, parts_9, t_11, rfl, hF, hS, h10⟩ hb2
   unfold impl_areaText_l1 at hb2
   refine q_seq (q_region (q_x (v := (.bool (decide (t_11 < (goLen t_4))))) hF hS (ex_ibin rfl rfl rfl) rfl rfl fun a hF => q_end (n_sq (q_seq ?_))))
   rcases bcase (decide (t_11 < (goLen t_4))) with hc3 | hc3
   ·have hb2 := cond_f hc3 hb2
    refine q_cond_f hF rfl hc3 (q_exit (x_sq ?_))
    obtain rfl := someI hb2
    exact ⟨nofun, .inl ⟨q10, rfl, hF.sub ⟨rfl, rfl, trivial⟩, hS.mask [true, false, false], h10⟩⟩
   ·have hb2 := cond_t hc3 hb2
    refine q_cond_t hF rfl hc3 (q_skipc (n_sq (q_seq (q_block (q_seq (q_region (q_x (v := (.int .i64 t_11)) hF hS (ex_move rfl) rfl rfl fun a hF => ?_)))))))
    obtain ⟨e_12, he_12, hb2⟩ := bindS hb2
    obtain ⟨vs13, at13, d13⟩ := h6.at he_12 1 rfl
    obtain rfl : vs13 = [(.int .i64 e_12)] := d13
    refine q_x (v := (elP s6 (t_11.toNat * 1))) hF hS (ex_indexAddr Tryd.underlying42 sz3 rfl rfl (h6.idx he_12)) rfl rfl fun a hF => q_x (v := (.int .i64 e_12)) hF hS (ex_loadE1 0 Tryd.underlying3 rfl rfl (at13.at 1 rfl) rfl rfl) rfl rfl fun a hF => q_x (v := (.int .i64 t_11)) hF hS (ex_assign rfl) rfl rfl fun a hF => q_x (v := (.int .i64 e_12)) hF hS (ex_assign rfl) rfl rfl fun a hF => q_end (n_sq (q_region (q_x (v := s8.v) hF hS (ex_move rfl) rfl rfl fun a hF => q_x (v := (.int .i64 t_11)) hF hS (ex_move rfl) rfl rfl fun a hF => q_x (v := (.agg #[s1.v])) hF hS (ex_loadA (vs := [s1.v]) 2 0 Tryd.underlying60 rfl sz60 rfl rfl rfl rfl) rfl rfl fun a hF => q_x (v := (.int .i64 e_12)) hF hS (ex_move rfl) rfl rfl fun a hF => ?_)))
    obtain ⟨t_14, ht_14, hb2⟩ := bindS hb2
    refine q_call (vs := [(.agg #[s1.v]), (.int .i64 e_12)]) hF hS Tryd.func91 (by kernel_rfl) rfl rfl rfl (ih p_g e_12 t_14 ht_14 _ m hS.vis ht s1 h1) ?_
    rintro a w _ rfl hF hS
    obtain ⟨e_15, he_15, hb2⟩ := bindS hb2
    obtain ⟨vs16, at16, d16⟩ := h10.at he_15 1 rfl
    obtain rfl : vs16 = [(strV e_15)] := d16
    refine q_x (v := (elP s8 (t_11.toNat * 1))) hF hS (ex_indexAddr Tryd.underlying119 sz9 rfl rfl (h10.idx he_15)) rfl rfl fun a hF => q_do rfl fun _ hK => wp_storeE (e' := t_14) (us := [(strV t_14)]) (vs := [(strV e_15)]) 0 hF hS h10 sz9 rfl rfl rfl rfl rfl rfl rfl he_15 at16 rfl rfl rfl fun w q17 hS h17 => hK _ _ (q_end (n_ib (n_sq (q_region (q_x (v := (.int .i64 (w64 (t_11 + 1)))) hF hS (ex_ibin rfl rfl rfl) rfl rfl fun a hF => q_x (v := (.int .i64 (w64 (t_11 + 1)))) hF hS (ex_move rfl) rfl rfl fun a hF => q_end ?_)))))
    obtain rfl := someI hb2
    exact ⟨rfl, q17, _, _, rfl, hF.sub ⟨rfl, rfl, rfl, rfl, rfl, rfl, trivial⟩, hS, h17⟩
  ·rintro e a w ⟨q19, rfl, hF, hS, h19⟩
   refine x_ib (n_sq ?_)
   refine q_seq (q_region (q_x (v := (strV t_3)) hF hS (ex_move rfl) rfl rfl fun a hF => ?_))
   obtain ⟨t_20, ht_20, hr⟩ := bindS hr
   refine q_x (v := (strV t_20)) hF hS (ex_strCat rfl rfl ht_20) rfl rfl fun a hF => q_x (v := s8.v) hF hS (ex_move rfl) rfl rfl fun a hF => ?_
   obtain ⟨m22, hl22, hv22, hz22⟩ := hS.lend
   obtain ⟨t_21, ht_21, hr⟩ := bindS hr
   refine q_call (vs := [s8.v, (strV ([32] : List UInt8))]) hF hS Tryd.func122 (by kernel_rfl) rfl rfl rfl (c_strings_Join parts_18 ([32] : List UInt8) t_21 ht_21 _ m22 hv22 s8 (h19.froz hl22 (hz22 0 _ rfl))) ?_
   rintro a w _ rfl hF hS
   obtain ⟨t_23, ht_23, hr⟩ := bindS hr
   refine q_x (v := (strV t_23)) hF hS (ex_strCat rfl rfl ht_23) rfl rfl fun a hF => ?_
   obtain ⟨t_24, ht_24, hr⟩ := bindS hr
   refine q_x (v := (strV t_24)) hF hS (ex_strCat rfl rfl ht_24) rfl rfl fun a hF => q_x (v := (strV t_24)) hF hS (ex_assign rfl) rfl rfl fun a hF => q_end (n_sq (q_ret ?_))
   obtain rfl := someI hr
   exact ret_of hF hS rfl (.tmp rfl .nil) rfl
 ·have hr := cond_t hc1 hr
  refine q_cond_t hF rfl hc1 (q_seq (q_region (q_x (v := (strV t_3)) hF hS (ex_move rfl) rfl rfl fun a hF => q_x (v := (strV t_3)) hF hS (ex_assign rfl) rfl rfl fun a hF => q_end (n_sq (q_ret (r_sq ?_))))))
  obtain rfl := someI hr
  exact ret_of hF hS rfl (.tmp rfl .nil) rfl

theorem ck_impl_areaText : ∀ (k : Nat), ∀ (p_g : impl_Geo) (p_i : Int) (r : (List UInt8)) (hr : impl_areaText_k k p_g p_i = some r) (w0 : World) (m : Mem) (hv : Vis m w0) (ht : Tbl m) (s1 : Sl) (h1 : Rd m s1 p_g.Parents),
  Ret Tryd.prog 91 [(.agg #[s1.v]), (.int .i64 p_i)] w0 (fun v _ => v = (strV r))
 | 0 => fun _ _ _ hr => by cases hr
 | k + 1 => cB_impl_areaText _ (ck_impl_areaText k)

theorem c_impl_areaText : ∀ (p_g : impl_Geo) (p_i : Int) (r : (List UInt8)) (hr : impl_areaText p_g p_i = some r) (w0 : World) (m : Mem) (hv : Vis m w0) (ht : Tbl m) (s1 : Sl) (h1 : Rd m s1 p_g.Parents),
  Ret Tryd.prog 91 [(.agg #[s1.v]), (.int .i64 p_i)] w0 (fun v _ => v = (strV r)) := by
 intro p_g p_i r hr
 obtain ⟨k, hk⟩ := recO_run hr
 exact ck_impl_areaText k p_g p_i r hk

theorem c_impl_GeoText (p_g : impl_Geo) (r : (List UInt8) × Bool) (hr : impl_GeoText p_g = some r) (w0 : World) (m : Mem) (hv : Vis m w0) (ht : Tbl m) (s1 : Sl) (h1 : Rd m s1 p_g.Parents) :
  Ret Tryd.prog 35 [(.agg #[s1.v])] w0 (fun v _ => v = (.tuple #[(strV r.1), (.bool r.2)])) := by
 unfold impl_GeoText at hr
 refine ret_start Tryd.func35 rfl 9 rfl rfl m hv fun a hF hS => q_seq (q_region (q_box (cs := [s1.v]) hF hS rfl rfl rfl fun a w b2 hF hS => q_x (v := (strV ([] : List UInt8))) hF hS (ex_assign rfl) rfl rfl fun a hF => q_x (v := (.bool false)) hF hS (ex_assign rfl) rfl rfl fun a hF => q_end (n_sq (q_seq (q_seq (q_region (q_x (v := (.agg #[s1.v])) hF hS (ex_loadA (vs := [s1.v]) 0 0 Tryd.underlying60 rfl sz60 rfl rfl rfl rfl) rfl rfl fun a hF => ?_)))))))
 obtain ⟨t_3, ht_3, hr⟩ := bindS hr
 refine q_call (vs := [(.agg #[s1.v])]) hF hS Tryd.func37 (by kernel_rfl) rfl rfl rfl (c_impl_IsGeo p_g t_3 ht_3 _ m hS.vis s1 h1) ?_
 rintro a w _ rfl hF hS
 refine q_x (v := (.bool (!t_3))) hF hS (ex_not rfl) rfl rfl fun a hF => q_end (n_sq ?_)
 rcases bcase (!t_3) with hc1 | hc1
 ·have hr := cond_f hc1 hr
  refine q_cond_f hF rfl hc1 (q_skipc (n_sq (q_seq (q_region (q_x (v := (.agg #[s1.v])) hF hS (ex_loadA (vs := [s1.v]) 0 0 Tryd.underlying60 rfl sz60 rfl rfl rfl rfl) rfl rfl fun a hF => ?_)))))
  obtain ⟨t_4, ht_4, hr⟩ := bindS hr
  refine q_call (vs := [(.agg #[s1.v]), (.int .i64 0)]) hF hS Tryd.func91 (by kernel_rfl) rfl rfl rfl (c_impl_areaText p_g 0 t_4 ht_4 _ m hS.vis ht s1 h1) ?_
  rintro a w _ rfl hF hS
  refine q_x (v := (strV t_4)) hF hS (ex_assign rfl) rfl rfl fun a hF => q_x (v := (.bool true)) hF hS (ex_assign rfl) rfl rfl fun a hF => q_end (n_sq (q_ret ?_))
  obtain rfl := someI hr
  exact ret_of hF hS rfl (.tmp rfl (.tmp rfl .nil)) rfl
 ·have hr := cond_t hc1 hr
  refine q_cond_t hF rfl hc1 (q_seq (q_region (q_x (v := (strV ([] : List UInt8))) hF hS (ex_assign rfl) rfl rfl fun a hF => q_x (v := (.bool false)) hF hS (ex_assign rfl) rfl rfl fun a hF => q_end (n_sq (q_ret (r_sq ?_))))))
  obtain rfl := someI hr
  exact ret_of hF hS rfl (.tmp rfl (.tmp rfl .nil)) rfl

theorem c_spec_l1In (p_n : Int) (p_lo : Int) (p_hi : Int) (r : Bool) (hr : spec_l1In p_n p_lo p_hi = some r) (w0 : World) (m : Mem) (hv : Vis m w0) :
  Ret Tryd.prog 62 [(.int .i64 p_n), (.int .i64 p_lo), (.int .i64 p_hi)] w0 (fun v _ => v = (.bool r)) := by
 unfold spec_l1In at hr
 refine ret_start Tryd.func62 rfl 15 rfl rfl m hv fun a hF hS => q_seq (q_region (q_x (v := (.bool false)) hF hS (ex_assign rfl) rfl rfl fun a hF => q_end (n_sq (q_seq ?_))))
 obtain ⟨t_1, hj1, hr⟩ := bindS hr
 refine q_join (fun a w => Fr a 15 [(6, (.bool t_1))] ∧ St [] w0 w m []) ?_ ?_
 ·refine q_region (q_x (v := (.int .i64 p_n)) hF hS (ex_move rfl) rfl rfl fun a hF => q_x (v := (.int .i64 p_lo)) hF hS (ex_move rfl) rfl rfl fun a hF => q_x (v := (.bool (decide (p_lo ≤ p_n)))) hF hS (ex_ibin rfl rfl rfl) rfl rfl fun a hF => q_x (v := (.bool (decide (p_lo ≤ p_n)))) hF hS (ex_move rfl) rfl rfl fun a hF => ?_)
  rcases bcase (decide (p_lo ≤ p_n)) with hc2 | hc2
  ·have hj1 := cond_f hc2 hj1
   refine q_skip hF (wanted_f hF rfl rfl rfl hc2 rfl) rfl fun a hF => q_skip hF (wanted_f hF rfl rfl rfl hc2 rfl) rfl fun a hF => q_skip hF (wanted_f hF rfl rfl rfl hc2 rfl) rfl fun a hF => q_x (v := (.bool false)) hF hS (ex_pick_f rfl rfl hc2) rfl rfl fun a hF => q_x (v := (.bool false)) hF hS (ex_assign rfl) rfl rfl fun a hF => q_end (n_jn ?_)
   obtain rfl := someI hj1
   exact ⟨hF.sub ⟨rfl, trivial⟩, hS⟩
  ·have hj1 := cond_t hc2 hj1
   refine q_xg (v := (.int .i64 p_n)) hF hS (ex_move rfl) (wanted_t hF rfl rfl rfl hc2) rfl fun a hF => q_xg (v := (.int .i64 p_hi)) hF hS (ex_move rfl) (wanted_t hF rfl rfl rfl hc2) rfl fun a hF => q_xg (v := (.bool (decide (p_n ≤ p_hi)))) hF hS (ex_ibin rfl rfl rfl) (wanted_t hF rfl rfl rfl hc2) rfl fun a hF => q_x (v := (.bool (decide (p_n ≤ p_hi)))) hF hS (ex_pick_t rfl rfl hc2) rfl rfl fun a hF => q_x (v := (.bool (decide (p_n ≤ p_hi)))) hF hS (ex_assign rfl) rfl rfl fun a hF => q_end (n_jn ?_)
   obtain rfl := someI hj1
   exact ⟨hF.sub ⟨rfl, trivial⟩, hS⟩
 ·rintro a w ⟨hF, hS⟩
  refine n_sq (q_ret ?_)
  obtain rfl := someI hr
  exact ret_of hF hS rfl (.tmp rfl .nil) rfl

theorem c_spec_gGood (p_g : impl_Geo) (r : Bool) (hr : spec_gGood p_g = some r) (w0 : World) (m : Mem) (hv : Vis m w0) (s1 : Sl) (h1 : Rd m s1 p_g.Parents) :
  Ret Tryd.prog 92 [(.agg #[s1.v])] w0 (fun v _ => v = (.bool r)) := by
 unfold spec_gGood at hr
 refine ret_start Tryd.func92 rfl 35 rfl rfl m hv fun a hF hS => q_seq (q_region (q_box (cs := [s1.v]) hF hS rfl rfl rfl fun a w b2 hF hS => q_x (v := (.bool false)) hF hS (ex_assign rfl) rfl rfl fun a hF => q_end (n_sq (q_seq (q_seq ?_)))))
 obtain ⟨t_6, hj1, hr⟩ := bindS hr
 refine q_join (fun a w => Fr a 35 [(1, (.pointer (some ⟨b2, 0, none⟩))), (16, (.bool t_6))] ∧ St [] w0 w m [[⟨b2, [s1.v], 60⟩]]) ?_ ?_
 ·refine q_region (q_x (v := (.pointer (some ⟨b2, 0, none⟩))) hF hS (ex_fieldAddr Tryd.underlying60 rfl sz42 rfl rfl) rfl rfl fun a hF => q_x (v := s1.v) hF hS (ex_load1 0 0 Tryd.underlying42 rfl rfl rfl rfl) rfl rfl fun a hF => q_x (v := (.int .i64 (goLen p_g.Parents))) hF hS (ex_len Tryd.underlying42 rfl h1.len) rfl rfl fun a hF => ?_)
  obtain ⟨t_3, ht_3, hj1⟩ := bindS hj1
  refine q_call (vs := [(.int .i64 (goLen p_g.Parents)), (.int .i64 1), (.int .i64 30)]) hF hS Tryd.func62 (by kernel_rfl) rfl rfl rfl (c_spec_l1In (goLen p_g.Parents) 1 30 t_3 ht_3 _ m hS.vis) ?_
  rintro a w _ rfl hF hS
  refine q_x (v := (.bool (!t_3))) hF hS (ex_not rfl) rfl rfl fun a hF => q_x (v := (.bool (!t_3))) hF hS (ex_move rfl) rfl rfl fun a hF => ?_
  rcases bcase (!t_3) with hc2 | hc2
  ·have hj1 := cond_f hc2 hj1
   refine q_xg (v := (.pointer (some ⟨b2, 0, none⟩))) hF hS (ex_fieldAddr Tryd.underlying60 rfl sz42 rfl rfl) (wanted_t hF rfl rfl rfl hc2) rfl fun a hF => q_xg (v := s1.v) hF hS (ex_load1 0 0 Tryd.underlying42 rfl rfl rfl rfl) (wanted_t hF rfl rfl rfl hc2) rfl fun a hF => ?_
   obtain ⟨e_4, he_4, hj1⟩ := bindS hj1
   obtain ⟨vs5, at5, d5⟩ := h1.at he_4 1 rfl
   obtain rfl : vs5 = [(.int .i64 e_4)] := d5
   refine q_xg (v := (elP s1 ((0 : Int).toNat * 1))) hF hS (ex_indexAddr Tryd.underlying42 sz3 rfl rfl (h1.idx he_4)) (wanted_t hF rfl rfl rfl hc2) rfl fun a hF => q_xg (v := (.int .i64 e_4)) hF hS (ex_loadE1 0 Tryd.underlying3 rfl rfl ((at5).at) rfl rfl) (wanted_t hF rfl rfl rfl hc2) rfl fun a hF => q_xg (v := (.bool (e_4 != (-1)))) hF hS (ex_ibin rfl rfl rfl) (wanted_t hF rfl rfl rfl hc2) rfl fun a hF => q_x (v := (.bool (e_4 != (-1)))) hF hS (ex_pick_f rfl rfl hc2) rfl rfl fun a hF => q_end (n_jn ?_)
   obtain rfl := someI hj1
   exact ⟨hF.sub ⟨rfl, rfl, trivial⟩, hS⟩
  ·have hj1 := cond_t hc2 hj1
   refine q_skip hF (wanted_f hF rfl rfl rfl hc2 rfl) rfl fun a hF => q_skip hF (wanted_f hF rfl rfl rfl hc2 rfl) rfl fun a hF => q_skip hF (wanted_f hF rfl rfl rfl hc2 rfl) rfl fun a hF => q_skip hF (wanted_f hF rfl rfl rfl hc2 rfl) rfl fun a hF => q_skip hF (wanted_f hF rfl rfl rfl hc2 rfl) rfl fun a hF => q_x (v := (.bool true)) hF hS (ex_pick_t rfl rfl hc2) rfl rfl fun a hF => q_end (n_jn ?_)
   obtain rfl := someI hj1
   exact ⟨hF.sub ⟨rfl, rfl, trivial⟩, hS⟩
 ·rintro a w ⟨hF, hS⟩
  refine n_sq ?_
  rcases bcase (t_6) with hc3 | hc3
  ·have hr := cond_f hc3 hr
   refine q_cond_f hF rfl hc3 (q_skipc (n_sq (q_seq (q_seq (q_region (q_x (v := (.pointer (some ⟨b2, 0, none⟩))) hF hS (ex_fieldAddr Tryd.underlying60 rfl sz42 rfl rfl) rfl rfl fun a hF => q_x (v := s1.v) hF hS (ex_load1 0 0 Tryd.underlying42 rfl rfl rfl rfl) rfl rfl fun a hF => q_x (v := (.int .i64 (goLen p_g.Parents))) hF hS (ex_len Tryd.underlying42 rfl h1.len) rfl rfl fun a hF => q_x (v := (.int .i64 0)) hF hS (ex_move rfl) rfl rfl fun a hF => q_end (n_sq (q_block ?_))))))))
   obtain ⟨o4, hl4, hr⟩ := bindS hr
   refine q_loop (fun (t_7 : Int) a w => Fr a 35 [(18, s1.v), (19, (.int .i64 (goLen p_g.Parents))), (20, (.int .i64 t_7))] ∧ St [] w0 w m []) (fun (o : (Unit) ⊕ (Bool)) e a w => o = .inl () ∧ e = .exit 0 ∧ Fr a 35 [] ∧ St [] w0 w m []) hl4 ⟨hF.sub ⟨rfl, rfl, rfl, trivial⟩, hS.mask [false]⟩ ?_ ?_
   ·clear hF hS
    rintro t_7 a w st ⟨hF, hS⟩ hb4
    unfold spec_gGood_l1 at hb4
    refine q_seq (q_region (q_x (v := (.bool (decide (t_7 < (goLen p_g.Parents))))) hF hS (ex_ibin rfl rfl rfl) rfl rfl fun a hF => q_end (n_sq (q_seq ?_))))
    rcases bcase (decide (t_7 < (goLen p_g.Parents))) with hc5 | hc5
    ·have hb4 := cond_f hc5 hb4
     refine q_cond_f hF rfl hc5 (q_exit (x_sq ?_))
     obtain rfl := someI hb4
     exact ⟨nofun, .inl ⟨rfl, rfl, hF.sub trivial, hS⟩⟩
    ·have hb4 := cond_t hc5 hb4
     refine q_cond_t hF rfl hc5 (q_skipc (n_sq (q_seq (q_block (q_seq (q_region (q_x (v := (.int .i64 t_7)) hF hS (ex_move rfl) rfl rfl fun a hF => ?_)))))))
     obtain ⟨e_8, he_8, hb4⟩ := bindS hb4
     obtain ⟨vs9, at9, d9⟩ := h1.at he_8 1 rfl
     obtain rfl : vs9 = [(.int .i64 e_8)] := d9
     refine q_x (v := (elP s1 (t_7.toNat * 1))) hF hS (ex_indexAddr Tryd.underlying42 sz3 rfl rfl (h1.idx he_8)) rfl rfl fun a hF => q_x (v := (.int .i64 e_8)) hF hS (ex_loadE1 0 Tryd.underlying3 rfl rfl ((at9).at) rfl rfl) rfl rfl fun a hF => q_x (v := (.int .i64 t_7)) hF hS (ex_assign rfl) rfl rfl fun a hF => q_x (v := (.int .i64 e_8)) hF hS (ex_assign rfl) rfl rfl fun a hF => q_end (n_sq (q_seq ?_))
     obtain ⟨t_11, hj6, hb4⟩ := bindS hb4
     refine q_join (fun a w => Fr a 35 [(18, s1.v), (19, (.int .i64 (goLen p_g.Parents))), (20, (.int .i64 t_7)), (33, (.bool t_11))] ∧ St [] w0 w m []) ?_ ?_
     ·refine q_region (q_x (v := (.int .i64 t_7)) hF hS (ex_move rfl) rfl rfl fun a hF => q_x (v := (.bool (decide (0 < t_7)))) hF hS (ex_ibin rfl rfl rfl) rfl rfl fun a hF => q_x (v := (.bool (decide (0 < t_7)))) hF hS (ex_move rfl) rfl rfl fun a hF => ?_)
      rcases bcase (decide (0 < t_7)) with hc7 | hc7
      ·have hj6 := cond_f hc7 hj6
       refine q_skip hF (wanted_f hF rfl rfl rfl hc7 rfl) rfl fun a hF => q_skip hF (wanted_f hF rfl rfl rfl hc7 rfl) rfl fun a hF => q_skip hF (wanted_f hF rfl rfl rfl hc7 rfl) rfl fun a hF => q_skip hF (wanted_f hF rfl rfl rfl hc7 rfl) rfl fun a hF => q_skip hF (wanted_f hF rfl rfl rfl hc7 rfl) rfl fun a hF => q_x (v := (.bool false)) hF hS (ex_pick_f rfl rfl hc7) rfl rfl fun a hF => q_end (n_jn ?_)
       obtain rfl := someI hj6
       exact ⟨hF.sub ⟨rfl, rfl, rfl, rfl, trivial⟩, hS⟩
      ·have hj6 := cond_t hc7 hj6
       refine q_xg (v := (.int .i64 e_8)) hF hS (ex_move rfl) (wanted_t hF rfl rfl rfl hc7) rfl fun a hF => q_xg (v := (.int .i64 t_7)) hF hS (ex_move rfl) (wanted_t hF rfl rfl rfl hc7) rfl fun a hF => q_xg (v := (.int .i64 (w64 (t_7 - 1)))) hF hS (ex_ibin rfl rfl rfl) (wanted_t hF rfl rfl rfl hc7) rfl fun a hF => ?_
       obtain ⟨t_10, ht_10, hj6⟩ := bindS hj6
       refine q_callg (vs := [(.int .i64 e_8), (.int .i64 0), (.int .i64 (w64 (t_7 - 1)))]) hF hS (wanted_t hF rfl rfl rfl hc7) Tryd.func62 (by kernel_rfl) rfl rfl rfl (c_spec_l1In e_8 0 (w64 (t_7 - 1)) t_10 ht_10 _ m hS.vis) ?_
       rintro a w _ rfl hF hS
       refine q_xg (v := (.bool (!t_10))) hF hS (ex_not rfl) (wanted_t hF rfl rfl rfl hc7) rfl fun a hF => q_x (v := (.bool (!t_10))) hF hS (ex_pick_t rfl rfl hc7) rfl rfl fun a hF => q_end (n_jn ?_)
       obtain rfl := someI hj6
       exact ⟨hF.sub ⟨rfl, rfl, rfl, rfl, trivial⟩, hS⟩
     ·rintro a w ⟨hF, hS⟩
      refine n_sq ?_
      rcases bcase (t_11) with hc8 | hc8
      ·have hb4 := cond_f hc8 hb4
       refine q_cond_f hF rfl hc8 (q_skipc (n_ib (n_sq (q_region (q_x (v := (.int .i64 (w64 (t_7 + 1)))) hF hS (ex_ibin rfl rfl rfl) rfl rfl fun a hF => q_x (v := (.int .i64 (w64 (t_7 + 1)))) hF hS (ex_move rfl) rfl rfl fun a hF => q_end ?_)))))
       obtain rfl := someI hb4
       exact ⟨rfl, hF.sub ⟨rfl, rfl, rfl, trivial⟩, hS⟩
      ·have hb4 := cond_t hc8 hb4
       refine q_cond_t hF rfl hc8 (q_seq (q_region (q_x (v := (.bool false)) hF hS (ex_assign rfl) rfl rfl fun a hF => q_end (n_sq (q_ret (r_ib (r_sq ?_)))))))
       obtain rfl := someI hb4
       refine ⟨nofun, .inr fun ho => ?_⟩
       subst ho
       refine r_ib (r_sq ?_)
       obtain rfl := someI hr
       exact ret_of hF hS rfl (.tmp rfl .nil) rfl
   ·rintro e a w ⟨rfl, rfl, hF, hS⟩
    refine x_ib (n_sq ?_)
    refine q_seq (q_region (q_x (v := (.bool true)) hF hS (ex_assign rfl) rfl rfl fun a hF => q_end (n_sq (q_ret ?_))))
    obtain rfl := someI hr
    exact ret_of hF hS rfl (.tmp rfl .nil) rfl
  ·have hr := cond_t hc3 hr
   refine q_cond_t hF rfl hc3 (q_seq (q_region (q_x (v := (.bool false)) hF hS (ex_assign rfl) rfl rfl fun a hF => q_end (n_sq (q_ret (r_sq ?_))))))
   obtain rfl := someI hr
   exact ret_of hF hS rfl (.tmp rfl .nil) rfl

theorem cB_spec_l1Num (rcf : Int → Option ((List UInt8))) (ih : ∀ (p_n : Int) (r : (List UInt8)) (hr : rcf p_n = some r) (w0 : World) (m : Mem) (hv : Vis m w0),
  Ret Tryd.prog 125 [(.int .i64 p_n)] w0 (fun v _ => v = (strV r))) :
  ∀ (p_n : Int) (r : (List UInt8)) (hr : spec_l1Num_B rcf p_n = some r) (w0 : World) (m : Mem) (hv : Vis m w0),
  Ret Tryd.prog 125 [(.int .i64 p_n)] w0 (fun v _ => v = (strV r)) := by
 intro p_n r hr w0 m hv
 unfold spec_l1Num_B at hr
 refine ret_start Tryd.func125 rfl 20 rfl rfl m hv fun a hF hS => q_seq (q_region (q_x (v := (strV ([] : List UInt8))) hF hS (ex_assign rfl) rfl rfl fun a hF => q_end (n_sq (q_seq (q_seq (q_region (q_x (v := (.int .i64 p_n)) hF hS (ex_move rfl) rfl rfl fun a hF => q_x (v := (.bool (decide (p_n < 10)))) hF hS (ex_ibin rfl rfl rfl) rfl rfl fun a hF => q_end (n_sq ?_))))))))
 rcases bcase (decide (p_n < 10)) with hc1 | hc1
 ·have hr := cond_f hc1 hr
  refine q_cond_f hF rfl hc1 (q_skipc (n_sq (q_seq ?_)))
  obtain ⟨t_12, hj2, hr⟩ := bindS hr
  refine q_join (fun a w => Fr a 20 [(2, (strV t_12))] ∧ St [] w0 w m []) ?_ ?_
  ·refine e_region ⟨[], []⟩ mixed fun w' hw' => ?_
   have hS := hS.below hw'
   refine e_p (v := (.int .i64 p_n)) 0 hF rfl (ex_move rfl) rfl rfl (by kernel_rfl) (by kernel_rfl) (by kernel_rfl) fun a hF => ?_
   obtain ⟨t_1, ht_1, hj2⟩ := bindS hj2
   refine e_p (v := (.int .i64 t_1)) 1 hF rfl (ex_quo rfl rfl ht_1) rfl rfl (by kernel_rfl) (by kernel_rfl) (by kernel_rfl) fun a hF => e_p (v := (.int .i64 p_n)) 3 hF rfl (ex_move rfl) rfl rfl (by kernel_rfl) (by kernel_rfl) (by kernel_rfl) fun a hF => ?_
   obtain ⟨t_4, ht_4, hj2⟩ := bindS hj2
   refine e_p (v := (.int .i64 t_4)) 4 hF rfl (ex_rem rfl rfl ht_4) rfl rfl (by kernel_rfl) (by kernel_rfl) (by kernel_rfl) fun a hF => e_p (v := (.int .i64 (w64 (48 + t_4)))) 5 hF rfl (ex_ibin rfl rfl rfl) rfl rfl (by kernel_rfl) (by kernel_rfl) (by kernel_rfl) fun a hF => e_p (v := (.int .u8 (IntKind.wrap .u8 (w64 (48 + t_4))))) 6 hF rfl (ex_conv Tryd.underlying3 Tryd.underlying5 rfl) rfl rfl (by kernel_rfl) (by kernel_rfl) (by kernel_rfl) fun a hF => ?_
   obtain ⟨t_9, ht_9, hj2⟩ := bindS hj2
   obtain ⟨t_11, ht_11, hj2⟩ := bindS hj2
   refine e_all [2, 7] (by kernel_rfl) rfl ⟨?_, ?_, trivial⟩
   ·refine e_call (vs := [(.int .i64 t_1)]) hF hS rfl Tryd.func125 (by kernel_rfl) rfl rfl rfl (ih t_1 t_9 ht_9 _ m hS.vis) ?_
    rintro a w _ rfl hF hS
    refine e_one 7 (by kernel_rfl) (e_op rfl rfl fun _ hK => wp_buildSlice' (l := ([(⟨(IntKind.wrap .u8 (w64 (48 + t_4)))⟩ : K .u8)] : List (K .u8))) (cells := [(.int .u8 (IntKind.wrap .u8 (w64 (48 + t_4))))]) hF hS Tryd.underlying22 inf5 rfl rfl (by kernel_rfl) rfl rfl rfl ⟨rfl, rfl⟩ rfl rfl fun a w q10 s10 hF hS h10 hb => hK _ _ hb (e_x (v := (strV (goBytes ([(⟨(IntKind.wrap .u8 (w64 (48 + t_4)))⟩ : K .u8)] : List (K .u8))))) 8 hF hS rfl (ex_toStr Tryd.underlying22 Tryd.underlying5 Tryd.underlying9 rfl (fun X w0 w hS => h10.vw hS (j := 0) rfl)) rfl rfl (by kernel_rfl) (by kernel_rfl) (by kernel_rfl) (by kernel_rfl) fun a hF => e_p (v := (strV t_11)) 9 hF rfl (ex_strCat rfl rfl ht_11) rfl rfl (by kernel_rfl) (by kernel_rfl) (by kernel_rfl) fun a hF => e_p (v := (strV t_11)) 10 hF rfl (ex_assign rfl) rfl rfl (by kernel_rfl) (by kernel_rfl) (by kernel_rfl) fun a hF => e_end (by kernel_rfl) (n_jn ?_) _))
    obtain rfl := someI hj2
    exact ⟨hF.sub ⟨rfl, trivial⟩, hS.mask [false]⟩
   ·refine e_op rfl rfl fun _ hK => wp_buildSlice' (l := ([(⟨(IntKind.wrap .u8 (w64 (48 + t_4)))⟩ : K .u8)] : List (K .u8))) (cells := [(.int .u8 (IntKind.wrap .u8 (w64 (48 + t_4))))]) hF hS Tryd.underlying22 inf5 rfl rfl (by kernel_rfl) rfl rfl rfl ⟨rfl, rfl⟩ rfl rfl fun a w q10 s10 hF hS h10 hb => hK _ _ hb (e_x (v := (strV (goBytes ([(⟨(IntKind.wrap .u8 (w64 (48 + t_4)))⟩ : K .u8)] : List (K .u8))))) 8 hF hS rfl (ex_toStr Tryd.underlying22 Tryd.underlying5 Tryd.underlying9 rfl (fun X w0 w hS => h10.vw hS (j := 0) rfl)) rfl rfl (by kernel_rfl) (by kernel_rfl) (by kernel_rfl) (by kernel_rfl) fun a hF => e_one 2 (by kernel_rfl) (e_call (vs := [(.int .i64 t_1)]) hF hS rfl Tryd.func125 (by kernel_rfl) rfl rfl rfl (ih t_1 t_9 ht_9 _ m hS.vis) ?_))
    rintro a w _ rfl hF hS
    refine e_p (v := (strV t_11)) 9 hF rfl (ex_strCat rfl rfl ht_11) rfl rfl (by kernel_rfl) (by kernel_rfl) (by kernel_rfl) fun a hF => e_p (v := (strV t_11)) 10 hF rfl (ex_assign rfl) rfl rfl (by kernel_rfl) (by kernel_rfl) (by kernel_rfl) fun a hF => e_end (by kernel_rfl) (n_jn ?_) _
    obtain rfl := someI hj2
    exact ⟨hF.sub ⟨rfl, trivial⟩, hS.mask [false]⟩
  ·rintro a w ⟨hF, hS⟩
   refine n_sq (q_ret ?_)
   obtain rfl := someI hr
   exact ret_of hF hS rfl (.tmp rfl .nil) rfl
 ·have hr := cond_t hc1 hr
  refine q_cond_t hF rfl hc1 (q_seq (q_region (q_x (v := (.int .i64 p_n)) hF hS (ex_move rfl) rfl rfl fun a hF => q_x (v := (.int .i64 (w64 (48 + p_n)))) hF hS (ex_ibin rfl rfl rfl) rfl rfl fun a hF => q_x (v := (.int .u8 (IntKind.wrap .u8 (w64 (48 + p_n))))) hF hS (ex_conv Tryd.underlying3 Tryd.underlying5 rfl) rfl rfl fun a hF => q_do rfl fun _ hK => wp_buildSlice' (l := ([(⟨(IntKind.wrap .u8 (w64 (48 + p_n)))⟩ : K .u8)] : List (K .u8))) (cells := [(.int .u8 (IntKind.wrap .u8 (w64 (48 + p_n))))]) hF hS Tryd.underlying22 inf5 rfl rfl (by kernel_rfl) rfl rfl rfl ⟨rfl, rfl⟩ rfl rfl fun a w q13 s13 hF hS h13 _ => hK _ _ (q_x (v := (strV (goBytes ([(⟨(IntKind.wrap .u8 (w64 (48 + p_n)))⟩ : K .u8)] : List (K .u8))))) hF hS (ex_toStr Tryd.underlying22 Tryd.underlying5 Tryd.underlying9 rfl (fun X w0 w hS => h13.vw hS (j := 0) rfl)) rfl rfl fun a hF => q_x (v := (strV (goBytes ([(⟨(IntKind.wrap .u8 (w64 (48 + p_n)))⟩ : K .u8)] : List (K .u8))))) hF hS (ex_assign rfl) rfl rfl fun a hF => q_end (n_sq (q_ret (r_sq ?_)))))))
  obtain rfl := someI hr
  exact ret_of hF hS rfl (.tmp rfl .nil) rfl

theorem ck_spec_l1Num : ∀ (k : Nat), ∀ (p_n : Int) (r : (List UInt8)) (hr : spec_l1Num_k k p_n = some r) (w0 : World) (m : Mem) (hv : Vis m w0),
  Ret Tryd.prog 125 [(.int .i64 p_n)] w0 (fun v _ => v = (strV r))
 | 0 => fun _ _ hr => by cases hr
 | k + 1 => cB_spec_l1Num _ (ck_spec_l1Num k)

theorem c_spec_l1Num : ∀ (p_n : Int) (r : (List UInt8)) (hr : spec_l1Num p_n = some r) (w0 : World) (m : Mem) (hv : Vis m w0),
  Ret Tryd.prog 125 [(.int .i64 p_n)] w0 (fun v _ => v = (strV r)) := by
 intro p_n r hr
 obtain ⟨k, hk⟩ := recO_run hr
 exact ck_spec_l1Num k p_n r hk

theorem c_spec_gChildren (p_g : impl_Geo) (p_i : Int) (r : (List Int)) (hr : spec_gChildren p_g p_i = some r) (w0 : World) (m : Mem) (hv : Vis m w0) (s1 : Sl) (h1 : Rd m s1 p_g.Parents) :
  Ret Tryd.prog 126 [(.agg #[s1.v]), (.int .i64 p_i)] w0 (fun v w => ∃ (q0' : Piece) (s0' : Sl), v = s0'.v ∧ St [] w0 w m [q0'] ∧ OwnL m 3 q0' s0' r) := by
 unfold spec_gChildren at hr
 refine ret_start Tryd.func126 rfl 25 rfl rfl m hv fun a hF hS => q_seq (q_region (q_box (cs := [s1.v]) hF hS rfl rfl rfl fun a w b2 hF hS => q_x (v := nilS.v) hF hS (ex_assign rfl) rfl rfl fun a hF => q_end (n_sq (q_seq (q_region (q_x (v := nilS.v) hF hS (ex_assign rfl) rfl rfl fun a hF => q_end (n_sq (q_seq (q_seq (q_region (q_x (v := (.pointer (some ⟨b2, 0, none⟩))) hF hS (ex_fieldAddr Tryd.underlying60 rfl sz42 rfl rfl) rfl rfl fun a hF => q_x (v := s1.v) hF hS (ex_load1 0 0 Tryd.underlying42 rfl rfl rfl rfl) rfl rfl fun a hF => q_x (v := (.int .i64 (goLen p_g.Parents))) hF hS (ex_len Tryd.underlying42 rfl h1.len) rfl rfl fun a hF => q_x (v := (.int .i64 0)) hF hS (ex_move rfl) rfl rfl fun a hF => q_end (n_sq (q_block ?_)))))))))))))
 obtain ⟨out_13, hl1, hr⟩ := bindS hr
 refine q_loop (fun (s : (List Int) × Int) a w => ∃ (q4 : Piece), ∃ (s4 : Sl), ∃ out_3, ∃ t_5, s = (out_3, t_5) ∧ Fr a 25 [(1, (.int .i64 p_i)), (5, s4.v), (9, s1.v), (10, (.int .i64 (goLen p_g.Parents))), (11, (.int .i64 t_5))] ∧ St [] w0 w m [q4] ∧ OwnL m 3 q4 s4 out_3) (fun (out_13 : (List Int)) e a w => ∃ (q14 : Piece), ∃ (s14 : Sl), e = .exit 0 ∧ Fr a 25 [(5, s14.v)] ∧ St [] w0 w m [q14] ∧ OwnL m 3 q14 s14 out_13) hl1 ⟨[], nilS, _, _, rfl, hF.sub ⟨rfl, rfl, rfl, rfl, rfl, trivial⟩, hS.sel [1] (by decide), (OwnL.nil (α := Int) m 3)⟩ ?_ ?_
 ·clear hF hS
  rintro s a w st ⟨q4, s4, out_3, t_5, rfl, hF, hS, h4⟩ hb1
  unfold spec_gChildren_l1 at hb1
  refine q_seq (q_region (q_x (v := (.bool (decide (t_5 < (goLen p_g.Parents))))) hF hS (ex_ibin rfl rfl rfl) rfl rfl fun a hF => q_end (n_sq (q_seq ?_))))
  rcases bcase (decide (t_5 < (goLen p_g.Parents))) with hc2 | hc2
  ·have hb1 := cond_f hc2 hb1
   refine q_cond_f hF rfl hc2 (q_exit (x_sq ?_))
   obtain rfl := someI hb1
   exact ⟨nofun, .inl ⟨q4, s4, rfl, hF.sub ⟨rfl, trivial⟩, hS, h4⟩⟩
  ·have hb1 := cond_t hc2 hb1
   refine q_cond_t hF rfl hc2 (q_skipc (n_sq (q_seq (q_block (q_seq (q_region (q_x (v := (.int .i64 t_5)) hF hS (ex_move rfl) rfl rfl fun a hF => ?_)))))))
   obtain ⟨e_6, he_6, hb1⟩ := bindS hb1
   obtain ⟨vs7, at7, d7⟩ := h1.at he_6 1 rfl
   obtain rfl : vs7 = [(.int .i64 e_6)] := d7
   refine q_x (v := (elP s1 (t_5.toNat * 1))) hF hS (ex_indexAddr Tryd.underlying42 sz3 rfl rfl (h1.idx he_6)) rfl rfl fun a hF => q_x (v := (.int .i64 e_6)) hF hS (ex_loadE1 0 Tryd.underlying3 rfl rfl ((at7).at) rfl rfl) rfl rfl fun a hF => q_x (v := (.int .i64 t_5)) hF hS (ex_assign rfl) rfl rfl fun a hF => q_x (v := (.int .i64 e_6)) hF hS (ex_assign rfl) rfl rfl fun a hF => q_end (n_sq (q_seq (q_region (q_x (v := (.int .i64 e_6)) hF hS (ex_move rfl) rfl rfl fun a hF => q_x (v := (.int .i64 p_i)) hF hS (ex_move rfl) rfl rfl fun a hF => q_x (v := (.bool (e_6 == p_i))) hF hS (ex_ibin rfl rfl rfl) rfl rfl fun a hF => q_end (n_sq ?_)))))
   obtain ⟨out_11, hj3, hb1⟩ := bindS hb1
   refine q_join (fun a w => ∃ (q12 : Piece), ∃ (s12 : Sl), Fr a 25 [(1, (.int .i64 p_i)), (5, s12.v), (9, s1.v), (10, (.int .i64 (goLen p_g.Parents))), (11, (.int .i64 t_5))] ∧ St [] w0 w m [q12] ∧ OwnL m 3 q12 s12 out_11) ?_ ?_
   ·rcases bcase (e_6 == p_i) with hc4 | hc4
    ·have hj3 := cond_f hc4 hj3
     refine q_cond_f hF rfl hc4 (q_skipc (n_jn ?_))
     obtain rfl := someI hj3
     exact ⟨q4, s4, hF.sub ⟨rfl, rfl, rfl, rfl, rfl, trivial⟩, hS, h4⟩
    ·have hj3 := cond_t hc4 hj3
     refine q_cond_t hF rfl hc4 (q_region (q_x (v := s4.v) hF hS (ex_move rfl) rfl rfl fun a hF => q_x (v := (.int .i64 t_5)) hF hS (ex_move rfl) rfl rfl fun a hF => q_do rfl fun _ hK => wp_buildSlice' (l := ([t_5] : List Int)) (cells := [(.int .i64 t_5)]) hF hS Tryd.underlying42 inf3 rfl rfl (by kernel_rfl) rfl rfl rfl ⟨rfl, rfl⟩ rfl rfl fun a w q8 s8 hF hS h8 _ => hK _ _ ?_))
     have hS : St _ _ _ _ [q4, q8] := hS.sel [1, 0] (by decide)
     obtain ⟨l_9, hl_9, hj3⟩ := bindS hj3
     refine q_do rfl fun _ hK => wp_append hF hS h4 Tryd.underlying42 inf3 rfl rfl rfl rfl (h8.vw hS (j := 1) rfl) rfl (by decide) hl_9 rfl fun a w q10 s10 hF hS h10 => hK _ _ (q_x (v := s10.v) hF hS (ex_assign rfl) rfl rfl fun a hF => q_end (n_jn ?_))
     obtain rfl := someI hj3
     exact ⟨q10, s10, hF.sub ⟨rfl, rfl, rfl, rfl, rfl, trivial⟩, hS.mask [true, false], h10⟩
   ·rintro a w ⟨q12, s12, hF, hS, h12⟩
    refine n_ib (n_sq ?_)
    refine q_region (q_x (v := (.int .i64 (w64 (t_5 + 1)))) hF hS (ex_ibin rfl rfl rfl) rfl rfl fun a hF => q_x (v := (.int .i64 (w64 (t_5 + 1)))) hF hS (ex_move rfl) rfl rfl fun a hF => q_end ?_)
    obtain rfl := someI hb1
    exact ⟨rfl, q12, s12, _, _, rfl, hF.sub ⟨rfl, rfl, rfl, rfl, rfl, trivial⟩, hS, h12⟩
 ·rintro e a w ⟨q14, s14, rfl, hF, hS, h14⟩
  refine x_ib (n_sq ?_)
  refine q_seq (q_region (q_x (v := s14.v) hF hS (ex_move rfl) rfl rfl fun a hF => q_x (v := s14.v) hF hS (ex_assign rfl) rfl rfl fun a hF => q_end (n_sq (q_ret ?_))))
  obtain rfl := someI hr
  exact ret_of hF hS rfl (.tmp rfl .nil) ⟨q14, s14, rfl, hS.sel [0] (by decide), h14⟩

theorem cB_spec_gText (rcf : impl_Geo → Int → Option ((List UInt8))) (ih : ∀ (p_g : impl_Geo) (p_i : Int) (r : (List UInt8)) (hr : rcf p_g p_i = some r) (w0 : World) (m : Mem) (hv : Vis m w0) (s1 : Sl) (h1 : Rd m s1 p_g.Parents),
  Ret Tryd.prog 93 [(.agg #[s1.v]), (.int .i64 p_i)] w0 (fun v _ => v = (strV r))) :
  ∀ (p_g : impl_Geo) (p_i : Int) (r : (List UInt8)) (hr : spec_gText_B rcf p_g p_i = some r) (w0 : World) (m : Mem) (hv : Vis m w0) (s1 : Sl) (h1 : Rd m s1 p_g.Parents),
  Ret Tryd.prog 93 [(.agg #[s1.v]), (.int .i64 p_i)] w0 (fun v _ => v = (strV r)) := by
 intro p_g p_i r hr w0 m hv s1 h1
 unfold spec_gText_B at hr
 refine ret_start Tryd.func93 rfl 39 rfl rfl m hv fun a hF hS => q_seq (q_region (q_box (cs := [s1.v]) hF hS rfl rfl rfl fun a w b2 hF hS => q_x (v := (strV ([] : List UInt8))) hF hS (ex_assign rfl) rfl rfl fun a hF => q_end (n_sq (q_seq (q_region (q_x (v := (.int .i64 p_i)) hF hS (ex_move rfl) rfl rfl fun a hF => ?_))))))
 obtain ⟨t_3, ht_3, hr⟩ := bindS hr
 refine q_call (vs := [(.int .i64 p_i)]) hF hS Tryd.func125 (by kernel_rfl) rfl rfl rfl (c_spec_l1Num p_i t_3 ht_3 _ m hS.vis) ?_
 rintro a w _ rfl hF hS
 refine q_x (v := (strV t_3)) hF hS (ex_assign rfl) rfl rfl fun a hF => q_end (n_sq (q_seq (q_seq (q_region (q_x (v := (.agg #[s1.v])) hF hS (ex_loadA (vs := [s1.v]) 0 0 Tryd.underlying60 rfl sz60 rfl rfl rfl rfl) rfl rfl fun a hF => q_x (v := (.int .i64 p_i)) hF hS (ex_move rfl) rfl rfl fun a hF => ?_)))))
 obtain ⟨t_4, ht_4, hr⟩ := bindS hr
 refine q_call (vs := [(.agg #[s1.v]), (.int .i64 p_i)]) hF hS Tryd.func126 (by kernel_rfl) rfl rfl rfl (c_spec_gChildren p_g p_i t_4 ht_4 _ m hS.vis s1 h1) ?_
 rintro a w _ ⟨q6, s6, rfl, hR5, h6⟩ hF hS2
 have hS : St _ _ _ _ [q6, [⟨b2, [s1.v], 60⟩]] := hS.joinF hR5
 refine q_x (v := (.int .i64 (goLen t_4))) hF hS (ex_len Tryd.underlying42 rfl h6.len) rfl rfl fun a hF => q_x (v := (.int .i64 0)) hF hS (ex_move rfl) rfl rfl fun a hF => q_end (n_sq (q_block ?_))
 obtain ⟨s_16, hl1, hr⟩ := bindS hr
 refine q_loop (fun (s : (List UInt8) × Int) a w => ∃ s_7, ∃ t_8, s = (s_7, t_8) ∧ Fr a 39 [(1, (.int .i64 p_i)), (2, (.pointer (some ⟨b2, 0, none⟩))), (5, (strV s_7)), (12, s6.v), (13, (.int .i64 (goLen t_4))), (14, (.int .i64 t_8))] ∧ St [] w0 w m [q6, [⟨b2, [s1.v], 60⟩]]) (fun (s_16 : (List UInt8)) e a w => e = .exit 0 ∧ Fr a 39 [(1, (.int .i64 p_i)), (2, (.pointer (some ⟨b2, 0, none⟩))), (5, (strV s_16))] ∧ St [] w0 w m [[⟨b2, [s1.v], 60⟩]]) hl1 ⟨_, _, rfl, hF.sub ⟨rfl, rfl, rfl, rfl, rfl, rfl, trivial⟩, hS⟩ ?_ ?_
 ·clear hF hS
  rintro s a w st ⟨s_7, t_8, rfl, hF, hS⟩ hb1
  unfold spec_gText_l1 at hb1
  refine q_seq (q_region (q_x (v := (.bool (decide (t_8 < (goLen t_4))))) hF hS (ex_ibin rfl rfl rfl) rfl rfl fun a hF => q_end (n_sq (q_seq ?_))))
  rcases bcase (decide (t_8 < (goLen t_4))) with hc2 | hc2
  ·have hb1 := cond_f hc2 hb1
   refine q_cond_f hF rfl hc2 (q_exit (x_sq ?_))
   obtain rfl := someI hb1
   exact ⟨nofun, .inl ⟨rfl, hF.sub ⟨rfl, rfl, rfl, trivial⟩, hS.mask [false, true]⟩⟩
  ·have hb1 := cond_t hc2 hb1
   refine q_cond_t hF rfl hc2 (q_skipc (n_sq (q_seq (q_block (q_seq (q_region (q_x (v := (.int .i64 t_8)) hF hS (ex_move rfl) rfl rfl fun a hF => ?_)))))))
   obtain ⟨e_9, he_9, hb1⟩ := bindS hb1
   obtain ⟨vs10, at10, d10⟩ := h6.at he_9 1 rfl
   obtain rfl : vs10 = [(.int .i64 e_9)] := d10
   refine q_x (v := (elP s6 (t_8.toNat * 1))) hF hS (ex_indexAddr Tryd.underlying42 sz3 rfl rfl (h6.idx he_9)) rfl rfl fun a hF => q_x (v := (.int .i64 e_9)) hF hS (ex_loadE1 0 Tryd.underlying3 rfl rfl (at10.at 0 rfl) rfl rfl) rfl rfl fun a hF => q_x (v := (.int .i64 t_8)) hF hS (ex_assign rfl) rfl rfl fun a hF => q_x (v := (.int .i64 e_9)) hF hS (ex_assign rfl) rfl rfl fun a hF => q_end (n_sq (q_seq (q_seq (q_region (q_x (v := (.int .i64 t_8)) hF hS (ex_move rfl) rfl rfl fun a hF => q_x (v := (.bool (t_8 == 0))) hF hS (ex_ibin rfl rfl rfl) rfl rfl fun a hF => q_end (n_sq ?_))))))
   obtain ⟨s_13, hj3, hb1⟩ := bindS hb1
   refine q_join (fun a w => Fr a 39 [(1, (.int .i64 p_i)), (2, (.pointer (some ⟨b2, 0, none⟩))), (5, (strV s_13)), (7, (.int .i64 e_9)), (12, s6.v), (13, (.int .i64 (goLen t_4))), (14, (.int .i64 t_8))] ∧ St [] w0 w m [q6, [⟨b2, [s1.v], 60⟩]]) ?_ ?_
   ·rcases bcase (t_8 == 0) with hc4 | hc4
    ·have hj3 := cond_f hc4 hj3
     refine q_cond_f hF rfl hc4 (q_region (q_x (v := (strV s_7)) hF hS (ex_move rfl) rfl rfl fun a hF => ?_))
     obtain ⟨t_11, ht_11, hj3⟩ := bindS hj3
     refine q_x (v := (strV t_11)) hF hS (ex_strCat rfl rfl ht_11) rfl rfl fun a hF => q_x (v := (strV t_11)) hF hS (ex_assign rfl) rfl rfl fun a hF => q_end (n_jn ?_)
     obtain rfl := someI hj3
     exact ⟨hF.sub ⟨rfl, rfl, rfl, rfl, rfl, rfl, rfl, trivial⟩, hS⟩
    ·have hj3 := cond_t hc4 hj3
     refine q_cond_t hF rfl hc4 (q_region (q_x (v := (strV s_7)) hF hS (ex_move rfl) rfl rfl fun a hF => ?_))
     obtain ⟨t_12, ht_12, hj3⟩ := bindS hj3
     refine q_x (v := (strV t_12)) hF hS (ex_strCat rfl rfl ht_12) rfl rfl fun a hF => q_x (v := (strV t_12)) hF hS (ex_assign rfl) rfl rfl fun a hF => q_end (n_jn ?_)
     obtain rfl := someI hj3
     exact ⟨hF.sub ⟨rfl, rfl, rfl, rfl, rfl, rfl, rfl, trivial⟩, hS⟩
   ·rintro a w ⟨hF, hS⟩
    refine n_sq ?_
    refine q_region (q_x (v := (strV s_13)) hF hS (ex_move rfl) rfl rfl fun a hF => q_x (v := (.agg #[s1.v])) hF hS (ex_loadA (vs := [s1.v]) 1 0 Tryd.underlying60 rfl sz60 rfl rfl rfl rfl) rfl rfl fun a hF => q_x (v := (.int .i64 e_9)) hF hS (ex_move rfl) rfl rfl fun a hF => ?_)
    obtain ⟨t_14, ht_14, hb1⟩ := bindS hb1
    refine q_call (vs := [(.agg #[s1.v]), (.int .i64 e_9)]) hF hS Tryd.func93 (by kernel_rfl) rfl rfl rfl (ih p_g e_9 t_14 ht_14 _ m hS.vis s1 h1) ?_
    rintro a w _ rfl hF hS
    obtain ⟨t_15, ht_15, hb1⟩ := bindS hb1
    refine q_x (v := (strV t_15)) hF hS (ex_strCat rfl rfl ht_15) rfl rfl fun a hF => q_x (v := (strV t_15)) hF hS (ex_assign rfl) rfl rfl fun a hF => q_end (n_ib (n_sq (q_region (q_x (v := (.int .i64 (w64 (t_8 + 1)))) hF hS (ex_ibin rfl rfl rfl) rfl rfl fun a hF => q_x (v := (.int .i64 (w64 (t_8 + 1)))) hF hS (ex_move rfl) rfl rfl fun a hF => q_end ?_))))
    obtain rfl := someI hb1
    exact ⟨rfl, _, _, rfl, hF.sub ⟨rfl, rfl, rfl, rfl, rfl, rfl, trivial⟩, hS⟩
 ·rintro e a w ⟨rfl, hF, hS⟩
  refine x_ib (n_sq ?_)
  refine q_seq (q_seq (q_region (q_x (v := (.agg #[s1.v])) hF hS (ex_loadA (vs := [s1.v]) 0 0 Tryd.underlying60 rfl sz60 rfl rfl rfl rfl) rfl rfl fun a hF => q_x (v := (.int .i64 p_i)) hF hS (ex_move rfl) rfl rfl fun a hF => ?_)))
  obtain ⟨t_17, ht_17, hr⟩ := bindS hr
  refine q_call (vs := [(.agg #[s1.v]), (.int .i64 p_i)]) hF hS Tryd.func126 (by kernel_rfl) rfl rfl rfl (c_spec_gChildren p_g p_i t_17 ht_17 _ m hS.vis s1 h1) ?_
  rintro a w _ ⟨q19, s19, rfl, hR18, h19⟩ hF hS2
  have hS : St _ _ _ _ [q19, [⟨b2, [s1.v], 60⟩]] := hS.joinF hR18
  refine q_x (v := (.int .i64 (goLen t_17))) hF hS (ex_len Tryd.underlying42 rfl h19.len) rfl rfl fun a hF => q_x (v := (.bool (decide (0 < (goLen t_17))))) hF hS (ex_ibin rfl rfl rfl) rfl rfl fun a hF => q_end (n_sq ?_)
  obtain ⟨s_21, hj5, hr⟩ := bindS hr
  refine q_join (fun a w => Fr a 39 [(5, (strV s_21))] ∧ St [] w0 w m []) ?_ ?_
  ·rcases bcase (decide (0 < (goLen t_17))) with hc6 | hc6
   ·have hj5 := cond_f hc6 hj5
    refine q_cond_f hF rfl hc6 (q_skipc (n_jn ?_))
    obtain rfl := someI hj5
    exact ⟨hF.sub ⟨rfl, trivial⟩, hS.mask [false, false]⟩
   ·have hj5 := cond_t hc6 hj5
    refine q_cond_t hF rfl hc6 (q_region (q_x (v := (strV s_16)) hF hS (ex_move rfl) rfl rfl fun a hF => ?_))
    obtain ⟨t_20, ht_20, hj5⟩ := bindS hj5
    refine q_x (v := (strV t_20)) hF hS (ex_strCat rfl rfl ht_20) rfl rfl fun a hF => q_x (v := (strV t_20)) hF hS (ex_assign rfl) rfl rfl fun a hF => q_end (n_jn ?_)
    obtain rfl := someI hj5
    exact ⟨hF.sub ⟨rfl, trivial⟩, hS.mask [false, false]⟩
  ·rintro a w ⟨hF, hS⟩
   refine n_sq ?_
   refine q_seq (q_region (q_x (v := (strV s_21)) hF hS (ex_move rfl) rfl rfl fun a hF => q_x (v := (strV s_21)) hF hS (ex_assign rfl) rfl rfl fun a hF => q_end (n_sq (q_ret ?_))))
   obtain rfl := someI hr
   exact ret_of hF hS rfl (.tmp rfl .nil) rfl

theorem ck_spec_gText : ∀ (k : Nat), ∀ (p_g : impl_Geo) (p_i : Int) (r : (List UInt8)) (hr : spec_gText_k k p_g p_i = some r) (w0 : World) (m : Mem) (hv : Vis m w0) (s1 : Sl) (h1 : Rd m s1 p_g.Parents),
  Ret Tryd.prog 93 [(.agg #[s1.v]), (.int .i64 p_i)] w0 (fun v _ => v = (strV r))
 | 0 => fun _ _ _ hr => by cases hr
 | k + 1 => cB_spec_gText _ (ck_spec_gText k)

theorem c_spec_gText : ∀ (p_g : impl_Geo) (p_i : Int) (r : (List UInt8)) (hr : spec_gText p_g p_i = some r) (w0 : World) (m : Mem) (hv : Vis m w0) (s1 : Sl) (h1 : Rd m s1 p_g.Parents),
  Ret Tryd.prog 93 [(.agg #[s1.v]), (.int .i64 p_i)] w0 (fun v _ => v = (strV r)) := by
 intro p_g p_i r hr
 obtain ⟨k, hk⟩ := recO_run hr
 exact ck_spec_gText k p_g p_i r hk

theorem c_spec_GeoText (p_g : impl_Geo) (r : (List UInt8) × Bool) (hr : spec_GeoText p_g = some r) (w0 : World) (m : Mem) (hv : Vis m w0) (s1 : Sl) (h1 : Rd m s1 p_g.Parents) :
  Ret Tryd.prog 36 [(.agg #[s1.v])] w0 (fun v _ => v = (.tuple #[(strV r.1), (.bool r.2)])) := by
 unfold spec_GeoText at hr
 refine ret_start Tryd.func36 rfl 9 rfl rfl m hv fun a hF hS => q_seq (q_region (q_box (cs := [s1.v]) hF hS rfl rfl rfl fun a w b2 hF hS => q_x (v := (strV ([] : List UInt8))) hF hS (ex_assign rfl) rfl rfl fun a hF => q_x (v := (.bool false)) hF hS (ex_assign rfl) rfl rfl fun a hF => q_end (n_sq (q_seq (q_seq (q_region (q_x (v := (.agg #[s1.v])) hF hS (ex_loadA (vs := [s1.v]) 0 0 Tryd.underlying60 rfl sz60 rfl rfl rfl rfl) rfl rfl fun a hF => ?_)))))))
 obtain ⟨t_3, ht_3, hr⟩ := bindS hr
 refine q_call (vs := [(.agg #[s1.v])]) hF hS Tryd.func92 (by kernel_rfl) rfl rfl rfl (c_spec_gGood p_g t_3 ht_3 _ m hS.vis s1 h1) ?_
 rintro a w _ rfl hF hS
 refine q_x (v := (.bool (!t_3))) hF hS (ex_not rfl) rfl rfl fun a hF => q_end (n_sq ?_)
 rcases bcase (!t_3) with hc1 | hc1
 ·have hr := cond_f hc1 hr
  refine q_cond_f hF rfl hc1 (q_skipc (n_sq (q_seq (q_region (q_x (v := (.agg #[s1.v])) hF hS (ex_loadA (vs := [s1.v]) 0 0 Tryd.underlying60 rfl sz60 rfl rfl rfl rfl) rfl rfl fun a hF => ?_)))))
  obtain ⟨t_4, ht_4, hr⟩ := bindS hr
  refine q_call (vs := [(.agg #[s1.v]), (.int .i64 0)]) hF hS Tryd.func93 (by kernel_rfl) rfl rfl rfl (c_spec_gText p_g 0 t_4 ht_4 _ m hS.vis s1 h1) ?_
  rintro a w _ rfl hF hS
  refine q_x (v := (strV t_4)) hF hS (ex_assign rfl) rfl rfl fun a hF => q_x (v := (.bool true)) hF hS (ex_assign rfl) rfl rfl fun a hF => q_end (n_sq (q_ret ?_))
  obtain rfl := someI hr
  exact ret_of hF hS rfl (.tmp rfl (.tmp rfl .nil)) rfl
 ·have hr := cond_t hc1 hr
  refine q_cond_t hF rfl hc1 (q_seq (q_region (q_x (v := (strV ([] : List UInt8))) hF hS (ex_assign rfl) rfl rfl fun a hF => q_x (v := (.bool false)) hF hS (ex_assign rfl) rfl rfl fun a hF => q_end (n_sq (q_ret (r_sq ?_))))))
  obtain rfl := someI hr
  exact ret_of hF hS rfl (.tmp rfl (.tmp rfl .nil)) rfl

theorem c_impl_readNatural (p_s : List UInt8) (p_most : Int) (r : Int × (List UInt8) × Bool) (hr : impl_readNatural p_s p_most = some r) (w0 : World) (m : Mem) (hv : Vis m w0) :
  Ret Tryd.prog 94 [(strV p_s), (.int .i64 p_most)] w0 (fun v _ => v = (.tuple #[(.int .i64 r.1), (strV r.2.1), (.bool r.2.2)])) := by
 unfold impl_readNatural at hr
 refine ret_start Tryd.func94 rfl 50 rfl rfl m hv fun a hF hS => q_seq (q_region (q_x (v := (.int .i64 0)) hF hS (ex_assign rfl) rfl rfl fun a hF => q_x (v := (strV ([] : List UInt8))) hF hS (ex_assign rfl) rfl rfl fun a hF => q_x (v := (.bool false)) hF hS (ex_assign rfl) rfl rfl fun a hF => q_end (n_sq (q_seq (q_region (q_x (v := (.int .i64 0)) hF hS (ex_assign rfl) rfl rfl fun a hF => q_x (v := (.int .i64 0)) hF hS (ex_assign rfl) rfl rfl fun a hF => q_end (n_sq (q_seq (q_block ?_)))))))))
 obtain ⟨o1, hl1, hr⟩ := bindS hr
 refine q_loop (fun (s : Int × Int) a w => ∃ n_1, ∃ i_2, s = (n_1, i_2) ∧ Fr a 50 [(0, (strV p_s)), (1, (.int .i64 p_most)), (7, (.int .i64 n_1)), (8, (.int .i64 i_2))] ∧ St [] w0 w m []) (fun (o : (Int × Int) ⊕ (Int × (List UInt8) × Bool)) e a w => ∃ n_8, ∃ i_9, o = .inl (n_8, i_9) ∧ e = .exit 0 ∧ Fr a 50 [(0, (strV p_s)), (7, (.int .i64 n_8)), (8, (.int .i64 i_9))] ∧ St [] w0 w m []) hl1 ⟨_, _, rfl, hF.sub ⟨rfl, rfl, rfl, rfl, trivial⟩, hS⟩ ?_ ?_
 ·clear hF hS
  rintro s a w st ⟨n_1, i_2, rfl, hF, hS⟩ hb1
  unfold impl_readNatural_l1 at hb1
  refine q_seq (q_seq ?_)
  obtain ⟨t_5, hj2, hb1⟩ := bindS hb1
  refine q_join (fun a w => Fr a 50 [(0, (strV p_s)), (1, (.int .i64 p_most)), (7, (.int .i64 n_1)), (8, (.int .i64 i_2)), (24, (.bool t_5))] ∧ St [] w0 w m []) ?_ ?_
  ·refine q_region (q_x (v := (.int .i64 i_2)) hF hS (ex_move rfl) rfl rfl fun a hF => q_x (v := (strV p_s)) hF hS (ex_move rfl) rfl rfl fun a hF => q_x (v := (.int .i64 (goLen p_s))) hF hS (ex_strLen Tryd.underlying9 rfl) rfl rfl fun a hF => q_x (v := (.bool (decide (i_2 < (goLen p_s))))) hF hS (ex_ibin rfl rfl rfl) rfl rfl fun a hF => q_x (v := (.bool (decide (i_2 < (goLen p_s))))) hF hS (ex_move rfl) rfl rfl fun a hF => ?_)
   rcases bcase (decide (i_2 < (goLen p_s))) with hc3 | hc3
   ·have hj2 := cond_f hc3 hj2
    refine q_skip hF (wanted_f hF rfl rfl rfl hc3 rfl) rfl fun a hF => q_skip hF (wanted_f hF rfl rfl rfl hc3 rfl) rfl fun a hF => q_skip hF (wanted_f hF rfl rfl rfl hc3 rfl) rfl fun a hF => q_skip hF (wanted_f hF rfl rfl rfl hc3 rfl) rfl fun a hF => q_x (v := (.bool false)) hF hS (ex_pick_f rfl rfl hc3) rfl rfl fun a hF => q_x (v := (.bool false)) hF hS (ex_move rfl) rfl rfl fun a hF => q_skip hF (wanted_f hF rfl rfl rfl rfl rfl) rfl fun a hF => q_skip hF (wanted_f hF rfl rfl rfl rfl rfl) rfl fun a hF => q_skip hF (wanted_f hF rfl rfl rfl rfl rfl) rfl fun a hF => q_skip hF (wanted_f hF rfl rfl rfl rfl rfl) rfl fun a hF => q_x (v := (.bool false)) hF hS (ex_pick_f rfl rfl rfl) rfl rfl fun a hF => q_end (n_jn ?_)
    obtain rfl := someI hj2
    exact ⟨hF.sub ⟨rfl, rfl, rfl, rfl, rfl, trivial⟩, hS⟩
   ·have hj2 := cond_t hc3 hj2
    refine q_xg (v := (strV p_s)) hF hS (ex_move rfl) (wanted_t hF rfl rfl rfl hc3) rfl fun a hF => q_xg (v := (.int .i64 i_2)) hF hS (ex_move rfl) (wanted_t hF rfl rfl rfl hc3) rfl fun a hF => ?_
    obtain ⟨t_3, ht_3, hj2⟩ := bindS hj2
    refine q_xg (v := (.int .u8 t_3)) hF hS (ex_strIdx Tryd.underlying9 rfl rfl ht_3) (wanted_t hF rfl rfl rfl hc3) rfl fun a hF => q_xg (v := (.bool (decide (48 ≤ t_3)))) hF hS (ex_ibin rfl rfl rfl) (wanted_t hF rfl rfl rfl hc3) rfl fun a hF => q_x (v := (.bool (decide (48 ≤ t_3)))) hF hS (ex_pick_t rfl rfl hc3) rfl rfl fun a hF => q_x (v := (.bool (decide (48 ≤ t_3)))) hF hS (ex_move rfl) rfl rfl fun a hF => ?_
    rcases bcase (decide (48 ≤ t_3)) with hc4 | hc4
    ·have hj2 := cond_f hc4 hj2
     refine q_skip hF (wanted_f hF rfl rfl rfl hc4 rfl) rfl fun a hF => q_skip hF (wanted_f hF rfl rfl rfl hc4 rfl) rfl fun a hF => q_skip hF (wanted_f hF rfl rfl rfl hc4 rfl) rfl fun a hF => q_skip hF (wanted_f hF rfl rfl rfl hc4 rfl) rfl fun a hF => q_x (v := (.bool false)) hF hS (ex_pick_f rfl rfl hc4) rfl rfl fun a hF => q_end (n_jn ?_)
     obtain rfl := someI hj2
     exact ⟨hF.sub ⟨rfl, rfl, rfl, rfl, rfl, trivial⟩, hS⟩
    ·have hj2 := cond_t hc4 hj2
     refine q_xg (v := (strV p_s)) hF hS (ex_move rfl) (wanted_t hF rfl rfl rfl hc4) rfl fun a hF => q_xg (v := (.int .i64 i_2)) hF hS (ex_move rfl) (wanted_t hF rfl rfl rfl hc4) rfl fun a hF => ?_
     obtain ⟨t_4, ht_4, hj2⟩ := bindS hj2
     refine q_xg (v := (.int .u8 t_4)) hF hS (ex_strIdx Tryd.underlying9 rfl rfl ht_4) (wanted_t hF rfl rfl rfl hc4) rfl fun a hF => q_xg (v := (.bool (decide (t_4 ≤ 57)))) hF hS (ex_ibin rfl rfl rfl) (wanted_t hF rfl rfl rfl hc4) rfl fun a hF => q_x (v := (.bool (decide (t_4 ≤ 57)))) hF hS (ex_pick_t rfl rfl hc4) rfl rfl fun a hF => q_end (n_jn ?_)
     obtain rfl := someI hj2
     exact ⟨hF.sub ⟨rfl, rfl, rfl, rfl, rfl, trivial⟩, hS⟩
  ·rintro a w ⟨hF, hS⟩
   refine n_sq ?_
   rcases bcase (t_5) with hc5 | hc5
   ·have hb1 := cond_f hc5 hb1
    refine q_cond_f hF rfl hc5 (q_exit (x_sq ?_))
    obtain rfl := someI hb1
    exact ⟨nofun, .inl ⟨_, _, rfl, rfl, hF.sub ⟨rfl, rfl, rfl, trivial⟩, hS⟩⟩
   ·have hb1 := cond_t hc5 hb1
    refine q_cond_t hF rfl hc5 (q_skipc (n_sq (q_block (q_seq (q_seq ?_)))))
    obtain ⟨t_6, hj6, hb1⟩ := bindS hb1
    refine q_join (fun a w => Fr a 50 [(0, (strV p_s)), (1, (.int .i64 p_most)), (7, (.int .i64 n_1)), (8, (.int .i64 i_2)), (30, (.bool t_6))] ∧ St [] w0 w m []) ?_ ?_
    ·refine q_region (q_x (v := (.int .i64 i_2)) hF hS (ex_move rfl) rfl rfl fun a hF => q_x (v := (.bool (decide (0 < i_2)))) hF hS (ex_ibin rfl rfl rfl) rfl rfl fun a hF => q_x (v := (.bool (decide (0 < i_2)))) hF hS (ex_move rfl) rfl rfl fun a hF => ?_)
     rcases bcase (decide (0 < i_2)) with hc7 | hc7
     ·have hj6 := cond_f hc7 hj6
      refine q_skip hF (wanted_f hF rfl rfl rfl hc7 rfl) rfl fun a hF => q_skip hF (wanted_f hF rfl rfl rfl hc7 rfl) rfl fun a hF => q_x (v := (.bool false)) hF hS (ex_pick_f rfl rfl hc7) rfl rfl fun a hF => q_end (n_jn ?_)
      obtain rfl := someI hj6
      exact ⟨hF.sub ⟨rfl, rfl, rfl, rfl, rfl, trivial⟩, hS⟩
     ·have hj6 := cond_t hc7 hj6
      refine q_xg (v := (.int .i64 n_1)) hF hS (ex_move rfl) (wanted_t hF rfl rfl rfl hc7) rfl fun a hF => q_xg (v := (.bool (n_1 == 0))) hF hS (ex_ibin rfl rfl rfl) (wanted_t hF rfl rfl rfl hc7) rfl fun a hF => q_x (v := (.bool (n_1 == 0))) hF hS (ex_pick_t rfl rfl hc7) rfl rfl fun a hF => q_end (n_jn ?_)
      obtain rfl := someI hj6
      exact ⟨hF.sub ⟨rfl, rfl, rfl, rfl, rfl, trivial⟩, hS⟩
    ·rintro a w ⟨hF, hS⟩
     refine n_sq ?_
     rcases bcase (t_6) with hc8 | hc8
     ·have hb1 := cond_f hc8 hb1
      refine q_cond_f hF rfl hc8 (q_skipc (n_sq (q_seq (q_region (q_x (v := (.int .i64 n_1)) hF hS (ex_move rfl) rfl rfl fun a hF => q_x (v := (.int .i64 (w64 (n_1 * 10)))) hF hS (ex_ibin rfl rfl rfl) rfl rfl fun a hF => q_x (v := (strV p_s)) hF hS (ex_move rfl) rfl rfl fun a hF => q_x (v := (.int .i64 i_2)) hF hS (ex_move rfl) rfl rfl fun a hF => ?_)))))
      obtain ⟨t_7, ht_7, hb1⟩ := bindS hb1
      refine q_x (v := (.int .u8 t_7)) hF hS (ex_strIdx Tryd.underlying9 rfl rfl ht_7) rfl rfl fun a hF => q_x (v := (.int .u8 (IntKind.wrap .u8 (t_7 - 48)))) hF hS (ex_ibin rfl rfl rfl) rfl rfl fun a hF => q_x (v := (.int .i64 (w64 (IntKind.wrap .u8 (t_7 - 48))))) hF hS (ex_conv Tryd.underlying5 Tryd.underlying3 rfl) rfl rfl fun a hF => q_x (v := (.int .i64 (w64 ((w64 (n_1 * 10)) + (w64 (IntKind.wrap .u8 (t_7 - 48))))))) hF hS (ex_ibin rfl rfl rfl) rfl rfl fun a hF => q_x (v := (.int .i64 (w64 ((w64 (n_1 * 10)) + (w64 (IntKind.wrap .u8 (t_7 - 48))))))) hF hS (ex_assign rfl) rfl rfl fun a hF => q_end (n_sq (q_seq (q_seq (q_region (q_x (v := (.int .i64 (w64 ((w64 (n_1 * 10)) + (w64 (IntKind.wrap .u8 (t_7 - 48))))))) hF hS (ex_move rfl) rfl rfl fun a hF => q_x (v := (.int .i64 p_most)) hF hS (ex_move rfl) rfl rfl fun a hF => q_x (v := (.bool (decide (p_most < (w64 ((w64 (n_1 * 10)) + (w64 (IntKind.wrap .u8 (t_7 - 48))))))))) hF hS (ex_ibin rfl rfl rfl) rfl rfl fun a hF => q_end (n_sq ?_))))))
      rcases bcase (decide (p_most < (w64 ((w64 (n_1 * 10)) + (w64 (IntKind.wrap .u8 (t_7 - 48))))))) with hc9 | hc9
      ·have hb1 := cond_f hc9 hb1
       refine q_cond_f hF rfl hc9 (q_skipc (n_sq (q_region (q_x (v := (.int .i64 i_2)) hF hS (ex_move rfl) rfl rfl fun a hF => q_x (v := (.int .i64 (w64 (i_2 + 1)))) hF hS (ex_ibin rfl rfl rfl) rfl rfl fun a hF => q_x (v := (.int .i64 (w64 (i_2 + 1)))) hF hS (ex_assign rfl) rfl rfl fun a hF => q_end (n_ib ?_)))))
       obtain rfl := someI hb1
       exact ⟨rfl, _, _, rfl, hF.sub ⟨rfl, rfl, rfl, rfl, trivial⟩, hS⟩
      ·have hb1 := cond_t hc9 hb1
       refine q_cond_t hF rfl hc9 (q_seq (q_region (q_x (v := (.int .i64 0)) hF hS (ex_assign rfl) rfl rfl fun a hF => q_x (v := (strV ([] : List UInt8))) hF hS (ex_assign rfl) rfl rfl fun a hF => q_x (v := (.bool false)) hF hS (ex_assign rfl) rfl rfl fun a hF => q_end (n_sq (q_ret (r_sq (r_ib ?_)))))))
       obtain rfl := someI hb1
       refine ⟨nofun, .inr fun ho => ?_⟩
       subst ho
       refine r_ib (r_sq ?_)
       obtain rfl := someI hr
       exact ret_of hF hS rfl (.tmp rfl (.tmp rfl (.tmp rfl .nil))) rfl
     ·have hb1 := cond_t hc8 hb1
      refine q_cond_t hF rfl hc8 (q_seq (q_region (q_x (v := (.int .i64 0)) hF hS (ex_assign rfl) rfl rfl fun a hF => q_x (v := (strV ([] : List UInt8))) hF hS (ex_assign rfl) rfl rfl fun a hF => q_x (v := (.bool false)) hF hS (ex_assign rfl) rfl rfl fun a hF => q_end (n_sq (q_ret (r_sq (r_ib ?_)))))))
      obtain rfl := someI hb1
      refine ⟨nofun, .inr fun ho => ?_⟩
      subst ho
      refine r_ib (r_sq ?_)
      obtain rfl := someI hr
      exact ret_of hF hS rfl (.tmp rfl (.tmp rfl (.tmp rfl .nil))) rfl
 ·rintro e a w ⟨n_8, i_9, rfl, rfl, hF, hS⟩
  refine x_ib (n_sq ?_)
  refine q_seq (q_seq (q_region (q_x (v := (.int .i64 i_9)) hF hS (ex_move rfl) rfl rfl fun a hF => q_x (v := (.bool (i_9 == 0))) hF hS (ex_ibin rfl rfl rfl) rfl rfl fun a hF => q_end (n_sq ?_))))
  rcases bcase (i_9 == 0) with hc10 | hc10
  ·have hr := cond_f hc10 hr
   refine q_cond_f hF rfl hc10 (q_skipc (n_sq (q_seq (e_region ⟨[], []⟩ mixed fun w' hw' => ?_))))
   have hS := hS.below hw'
   refine e_p (v := (.int .i64 n_8)) 0 hF rfl (ex_move rfl) rfl rfl (by kernel_rfl) (by kernel_rfl) (by kernel_rfl) fun a hF => e_p (v := (strV p_s)) 1 hF rfl (ex_move rfl) rfl rfl (by kernel_rfl) (by kernel_rfl) (by kernel_rfl) fun a hF => e_p (v := (.int .i64 i_9)) 2 hF rfl (ex_move rfl) rfl rfl (by kernel_rfl) (by kernel_rfl) (by kernel_rfl) fun a hF => ?_
   obtain ⟨t_10, ht_10, hr⟩ := bindS hr
   refine e_p (v := (strV t_10)) 3 hF rfl (ex_strSub Tryd.underlying9 rfl rfl rfl (.inr ⟨_, rfl⟩) (.inl ⟨rfl, rfl⟩) ht_10) rfl rfl (by kernel_rfl) (by kernel_rfl) (by kernel_rfl) fun a hF => e_p (v := (.int .i64 n_8)) 4 hF rfl (ex_assign rfl) rfl rfl (by kernel_rfl) (by kernel_rfl) (by kernel_rfl) fun a hF => e_p (v := (strV t_10)) 5 hF rfl (ex_assign rfl) rfl rfl (by kernel_rfl) (by kernel_rfl) (by kernel_rfl) fun a hF => e_p (v := (.bool true)) 6 hF rfl (ex_assign rfl) rfl rfl (by kernel_rfl) (by kernel_rfl) (by kernel_rfl) fun a hF => e_end (by kernel_rfl) (n_sq (q_ret ?_)) _
   obtain rfl := someI hr
   exact ret_of hF hS rfl (.tmp rfl (.tmp rfl (.tmp rfl .nil))) rfl
  ·have hr := cond_t hc10 hr
   refine q_cond_t hF rfl hc10 (q_seq (q_region (q_x (v := (.int .i64 0)) hF hS (ex_assign rfl) rfl rfl fun a hF => q_x (v := (strV ([] : List UInt8))) hF hS (ex_assign rfl) rfl rfl fun a hF => q_x (v := (.bool false)) hF hS (ex_assign rfl) rfl rfl fun a hF => q_end (n_sq (q_ret (r_sq ?_))))))
   obtain rfl := someI hr
   exact ret_of hF hS rfl (.tmp rfl (.tmp rfl (.tmp rfl .nil))) rfl

theorem c_slices_Clone_int_int (p_s : List Int) (r : (List Int)) (hr : slices_Clone_int_int p_s = some r) (w0 : World) (m : Mem) (hv : Vis m w0) (s1 : Sl) (h1 : Rd m s1 p_s) :
  Ret Tryd.prog 81 [s1.v] w0 (fun v w => ∃ (q0' : Piece) (s0' : Sl), v = s0'.v ∧ St [] w0 w m [q0'] ∧ OwnL m 3 q0' s0' r) := by
 unfold slices_Clone_int_int at hr
 refine ret_start Tryd.func81 rfl 8 rfl rfl m hv fun a hF hS => q_seq (q_region (q_x (v := nilS.v) hF hS (ex_assign rfl) rfl rfl fun a hF => q_end (n_sq (q_seq (q_seq (q_region (q_x (v := s1.v) hF hS (ex_move rfl) rfl rfl fun a hF => q_x (v := (.bool s1.p.isNone)) hF hS (ex_eqNil Tryd.underlying42 rfl rfl) rfl rfl fun a hF => q_end (n_sq ?_))))))))
 rcases bcase (s1.p.isNone) with hc1 | hc1
 ·refine q_cond_f hF rfl hc1 (q_skipc (n_sq (q_seq (q_region (q_do rfl fun _ hK => wp_build0 (α := Int) hF hS Tryd.underlying42 inf3 rfl fun a w q2 s2 hF hS h2 _ => hK _ _ (q_x (v := s1.v) hF hS (ex_move rfl) rfl rfl fun a hF => ?_))))))
  obtain ⟨l_3, hl_3, hr⟩ := bindS hr
  refine q_do rfl fun _ hK => wp_append hF hS h2 Tryd.underlying42 inf3 rfl rfl rfl rfl (h1.vw hS.vis) rfl (by decide) hl_3 rfl fun a w q4 s4 hF hS h4 => hK _ _ (q_x (v := s4.v) hF hS (ex_assign rfl) rfl rfl fun a hF => q_end (n_sq (q_ret ?_)))
  obtain rfl := someI hr
  exact ret_of hF hS rfl (.tmp rfl .nil) ⟨q4, s4, rfl, hS.sel [0] (by decide), h4⟩
 ·have hnhc1 := h1.nilE hc1
  have hr : (some ([] : List Int)) = some r := by rw [hnhc1] at hr; exact hr
  refine q_cond_t hF rfl hc1 (q_seq (q_region (q_x (v := nilS.v) hF hS (ex_assign rfl) rfl rfl fun a hF => q_end (n_sq (q_ret (r_sq ?_))))))
  obtain rfl := someI hr
  exact ret_of hF hS rfl (.tmp rfl .nil) ⟨[], nilS, rfl, hS.sel [0] (by decide), (OwnL.nil (α := Int) m 3)⟩

theorem c_impl_ParseGeo (p_s : List UInt8) (r : impl_Geo × Bool) (hr : impl_ParseGeo p_s = some r) (w0 : World) (m : Mem) (hv : Vis m w0) (ht : Tbl m) :
  Ret Tryd.prog 38 [(strV p_s)] w0 (fun v w => ∃ (q0' : Piece) (s0' : Sl), v = (.tuple #[(.agg #[s0'.v]), (.bool r.2)]) ∧ St [] w0 w m [q0'] ∧ OwnL m 3 q0' s0' r.1.Parents) := by
 unfold impl_ParseGeo at hr
 refine ret_start Tryd.func38 rfl 127 rfl rfl m hv fun a hF hS => q_seq (q_region (q_alloc (cs := [nilS.v]) hF hS rfl rfl rfl fun a w b1 hF hS => q_x (v := (.bool false)) hF hS (ex_assign rfl) rfl rfl fun a hF => q_end (n_sq (q_seq (q_region ?_)))))
 obtain ⟨l_2, hl_2, hr⟩ := bindS hr
 refine q_do rfl fun _ hK => wp_make (z := (0 : Int)) hF hS Tryd.underlying42 inf3 rfl rfl rfl rfl rfl (by decide) hl_2 rfl fun a w q3 s3 hF hS h3 _ => hK _ _ (q_x (v := s3.v) hF hS (ex_assign rfl) rfl rfl fun a hF => q_end (n_sq (q_seq (q_seq (q_region (q_x (v := s3.v) hF hS (ex_move rfl) rfl rfl fun a hF => q_x (v := (.int .i64 (goLen l_2))) hF hS (ex_len Tryd.underlying42 rfl h3.len) rfl rfl fun a hF => q_x (v := (.int .i64 0)) hF hS (ex_move rfl) rfl rfl fun a hF => q_end (n_sq (q_block ?_))))))))
 obtain ⟨parents_10, hl1, hr⟩ := bindS hr
 refine q_loop (fun (s : (List Int) × Int) a w => ∃ (q5 : Piece), ∃ parents_4, ∃ t_6, s = (parents_4, t_6) ∧ Fr a 127 [(0, (strV p_s)), (2, (.pointer (some ⟨b1, 0, none⟩))), (4, s3.v), (16, (.int .i64 (goLen l_2))), (17, (.int .i64 t_6))] ∧ St [] w0 w m [q5, [⟨b1, [nilS.v], 60⟩]] ∧ OwnL m 3 q5 s3 parents_4) (fun (parents_10 : (List Int)) e a w => ∃ (q11 : Piece), e = .exit 0 ∧ Fr a 127 [(0, (strV p_s)), (2, (.pointer (some ⟨b1, 0, none⟩))), (4, s3.v)] ∧ St [] w0 w m [q11, [⟨b1, [nilS.v], 60⟩]] ∧ OwnL m 3 q11 s3 parents_10) hl1 ⟨q3, _, _, rfl, hF.sub ⟨rfl, rfl, rfl, rfl, rfl, trivial⟩, hS, h3⟩ ?_ ?_
 ·clear hF hS
  rintro s a w st ⟨q5, parents_4, t_6, rfl, hF, hS, h5⟩ hb1
  unfold impl_ParseGeo_l1 at hb1
  refine q_seq (q_region (q_x (v := (.bool (decide (t_6 < (goLen l_2))))) hF hS (ex_ibin rfl rfl rfl) rfl rfl fun a hF => q_end (n_sq (q_seq ?_))))
  rcases bcase (decide (t_6 < (goLen l_2))) with hc2 | hc2
  ·have hb1 := cond_f hc2 hb1
   refine q_cond_f hF rfl hc2 (q_exit (x_sq ?_))
   obtain rfl := someI hb1
   exact ⟨nofun, .inl ⟨q5, rfl, hF.sub ⟨rfl, rfl, rfl, trivial⟩, hS, h5⟩⟩
  ·have hb1 := cond_t hc2 hb1
   refine q_cond_t hF rfl hc2 (q_skipc (n_sq (q_seq (q_block (q_seq (q_region (q_x (v := (.int .i64 t_6)) hF hS (ex_move rfl) rfl rfl fun a hF => q_x (v := (.int .i64 t_6)) hF hS (ex_assign rfl) rfl rfl fun a hF => q_end (n_sq (q_region (q_x (v := s3.v) hF hS (ex_move rfl) rfl rfl fun a hF => q_x (v := (.int .i64 t_6)) hF hS (ex_move rfl) rfl rfl fun a hF => ?_))))))))))
   obtain ⟨e_7, he_7, hb1⟩ := bindS hb1
   obtain ⟨vs8, at8, d8⟩ := h5.at he_7 1 rfl
   obtain rfl : vs8 = [(.int .i64 e_7)] := d8
   refine q_x (v := (elP s3 (t_6.toNat * 1))) hF hS (ex_indexAddr Tryd.underlying42 sz3 rfl rfl (h5.idx he_7)) rfl rfl fun a hF => q_do rfl fun _ hK => wp_storeE (e' := -2) (us := [(.int .i64 (-2))]) (vs := [(.int .i64 e_7)]) 0 hF hS h5 sz3 rfl rfl rfl rfl rfl rfl rfl he_7 at8 rfl rfl rfl fun w q9 hS h9 => hK _ _ (q_end (n_ib (n_sq (q_region (q_x (v := (.int .i64 (w64 (t_6 + 1)))) hF hS (ex_ibin rfl rfl rfl) rfl rfl fun a hF => q_x (v := (.int .i64 (w64 (t_6 + 1)))) hF hS (ex_move rfl) rfl rfl fun a hF => q_end ?_)))))
   obtain rfl := someI hb1
   exact ⟨rfl, q9, _, _, rfl, hF.sub ⟨rfl, rfl, rfl, rfl, rfl, trivial⟩, hS, h9⟩
 ·rintro e a w ⟨q11, rfl, hF, hS, h11⟩
  refine x_ib (n_sq ?_)
  refine q_seq (q_region (q_x (v := nilS.v) hF hS (ex_assign rfl) rfl rfl fun a hF => q_end (n_sq (q_seq (q_region (q_x (v := (.int .i64 (-1))) hF hS (ex_assign rfl) rfl rfl fun a hF => q_x (v := (.int .i64 0)) hF hS (ex_assign rfl) rfl rfl fun a hF => q_end (n_sq (q_seq (q_seq (q_region (q_x (v := (strV p_s)) hF hS (ex_move rfl) rfl rfl fun a hF => q_x (v := (strV p_s)) hF hS (ex_assign rfl) rfl rfl fun a hF => q_end (n_sq (q_block ?_)))))))))))))
  obtain ⟨o3, hl3, hr⟩ := bindS hr
  refine q_loop (fun (s : (List Int) × (List Int) × Int × Int × (List UInt8)) a w => ∃ (q13 : Piece), ∃ (q15 : Piece), ∃ (s15 : Sl), ∃ parents_12, ∃ open_14, ∃ last_16, ∃ n_17, ∃ rest_18, s = (parents_12, open_14, last_16, n_17, rest_18) ∧ Fr a 127 [(0, (strV p_s)), (2, (.pointer (some ⟨b1, 0, none⟩))), (4, s3.v), (6, s15.v), (7, (.int .i64 last_16)), (8, (.int .i64 n_17)), (9, (strV rest_18))] ∧ St [] w0 w m [q13, q15, [⟨b1, [nilS.v], 60⟩]] ∧ OwnL m 3 q13 s3 parents_12 ∧ OwnL m 3 q15 s15 open_14) (fun (o : ((List Int) × Int) ⊕ (impl_Geo × Bool)) e a w => ∃ (q59 : Piece), ∃ parents_58, ∃ n_60, o = .inl (parents_58, n_60) ∧ e = .exit 2 ∧ Fr a 127 [(0, (strV p_s)), (2, (.pointer (some ⟨b1, 0, none⟩))), (4, s3.v), (8, (.int .i64 n_60))] ∧ St [] w0 w m [q59, [⟨b1, [nilS.v], 60⟩]] ∧ OwnL m 3 q59 s3 parents_58) hl3 ⟨q11, [], nilS, _, _, _, _, _, rfl, hF.sub ⟨rfl, rfl, rfl, rfl, rfl, rfl, rfl, trivial⟩, hS.sel [0, 2, 1] (by decide), h11, (OwnL.nil (α := Int) m 3)⟩ ?_ ?_
  ·clear hF hS
   rintro s a w st ⟨q13, q15, s15, parents_12, open_14, last_16, n_17, rest_18, rfl, hF, hS, h13, h15⟩ hb3
   unfold impl_ParseGeo_l2 at hb3
   refine q_seq (q_seq (q_region (q_x (v := (strV rest_18)) hF hS (ex_move rfl) rfl rfl fun a hF => q_x (v := (.bool (rest_18 != ([] : List UInt8)))) hF hS (ex_strNe rfl rfl) rfl rfl fun a hF => q_end (n_sq ?_))))
   rcases bcase (rest_18 != ([] : List UInt8)) with hc4 | hc4
   ·have hb3 := cond_f hc4 hb3
    refine q_cond_f hF rfl hc4 (q_exit (x_sq ?_))
    obtain rfl := someI hb3
    exact ⟨nofun, .inl ⟨q13, _, _, rfl, rfl, hF.sub ⟨rfl, rfl, rfl, rfl, trivial⟩, hS.mask [true, false, true], h13⟩⟩
   ·have hb3 := cond_t hc4 hb3
    refine q_cond_t hF rfl hc4 (q_skipc (n_sq ?_))
    obtain ⟨j5, hj5, hb3⟩ := bindS hb3
    refine q_join (fun a w => ∃ (q52 : Piece), ∃ (q54 : Piece), ∃ (s54 : Sl), ∃ parents_51, ∃ open_53, ∃ last_55, ∃ n_56, ∃ rest_57, j5 = .inl (parents_51, open_53, last_55, n_56, rest_57) ∧ Fr a 127 [(0, (strV p_s)), (2, (.pointer (some ⟨b1, 0, none⟩))), (4, s3.v), (6, s54.v), (7, (.int .i64 last_55)), (8, (.int .i64 n_56)), (9, (strV rest_57))] ∧ St [] w0 w m [q52, q54, [⟨b1, [nilS.v], 60⟩]] ∧ OwnL m 3 q52 s3 parents_51 ∧ OwnL m 3 q54 s54 open_53) ?_ ?_
    ·refine q_block (q_seq (q_seq (q_region (q_x (v := (strV rest_18)) hF hS (ex_move rfl) rfl rfl fun a hF => ?_))))
     obtain ⟨t_19, ht_19, hj5⟩ := bindS hj5
     refine q_x (v := (.int .u8 t_19)) hF hS (ex_strIdx Tryd.underlying9 rfl rfl ht_19) rfl rfl fun a hF => q_end (n_sq (q_block (q_seq (q_seq (q_region (q_x (v := (.bool (t_19 == 40))) hF hS (ex_ibin rfl rfl rfl) rfl rfl fun a hF => q_x (v := (.bool (t_19 == 40))) hF hS (ex_assign rfl) rfl rfl fun a hF => q_end (n_sq ?_)))))))
     obtain ⟨t_21, hj6, hj5⟩ := bindS hj5
     refine q_join (fun a w => Fr a 127 [(0, (strV p_s)), (2, (.pointer (some ⟨b1, 0, none⟩))), (4, s3.v), (6, s15.v), (7, (.int .i64 last_16)), (8, (.int .i64 n_17)), (9, (strV rest_18)), (29, (.bool t_21))] ∧ St [] w0 w m [q13, q15, [⟨b1, [nilS.v], 60⟩]]) ?_ ?_
     ·rcases bcase (t_19 == 40) with hc7 | hc7
      ·have hj6 := cond_f hc7 hj6
       refine q_cond_f hF rfl hc7 (q_seq (q_region (q_x (v := (.bool (t_19 == 32))) hF hS (ex_ibin rfl rfl rfl) rfl rfl fun a hF => q_x (v := (.bool (t_19 == 32))) hF hS (ex_assign rfl) rfl rfl fun a hF => q_end (n_sq ?_))))
       obtain ⟨t_20, hj8, hj6⟩ := bindS hj6
       refine q_join (fun a w => Fr a 127 [(0, (strV p_s)), (2, (.pointer (some ⟨b1, 0, none⟩))), (4, s3.v), (6, s15.v), (7, (.int .i64 last_16)), (8, (.int .i64 n_17)), (9, (strV rest_18)), (29, (.bool t_20))] ∧ St [] w0 w m [q13, q15, [⟨b1, [nilS.v], 60⟩]]) ?_ ?_
       ·rcases bcase (t_19 == 32) with hc9 | hc9
        ·have hj8 := cond_f hc9 hj8
         refine q_cond_f hF rfl hc9 (q_region (q_x (v := (.bool (t_19 == 41))) hF hS (ex_ibin rfl rfl rfl) rfl rfl fun a hF => q_x (v := (.bool (t_19 == 41))) hF hS (ex_assign rfl) rfl rfl fun a hF => q_end (n_jn ?_)))
         obtain rfl := someI hj8
         exact ⟨hF.sub ⟨rfl, rfl, rfl, rfl, rfl, rfl, rfl, rfl, trivial⟩, hS⟩
        ·have hj8 := cond_t hc9 hj8
         refine q_cond_t hF rfl hc9 (q_skipc (n_jn ?_))
         obtain rfl := someI hj8
         exact ⟨hF.sub ⟨rfl, rfl, rfl, rfl, rfl, rfl, rfl, rfl, trivial⟩, hS⟩
       ·rintro a w ⟨hF, hS⟩
        refine n_jn ?_
        obtain rfl := someI hj6
        exact ⟨hF.sub ⟨rfl, rfl, rfl, rfl, rfl, rfl, rfl, rfl, trivial⟩, hS⟩
      ·have hj6 := cond_t hc7 hj6
       refine q_cond_t hF rfl hc7 (q_skipc (n_jn ?_))
       obtain rfl := someI hj6
       exact ⟨hF.sub ⟨rfl, rfl, rfl, rfl, rfl, rfl, rfl, rfl, trivial⟩, hS⟩
     ·rintro a w ⟨hF, hS⟩
      refine n_sq ?_
      rcases bcase (t_21) with hc10 | hc10
      ·have hj5 := cond_f hc10 hj5
       refine q_cond_f hF rfl hc10 (q_skipc (n_ib (n_sq (q_seq (q_region (q_x (v := (strV rest_18)) hF hS (ex_move rfl) rfl rfl fun a hF => ?_))))))
       obtain ⟨t_22, ht_22, hj5⟩ := bindS hj5
       refine q_call (vs := [(strV rest_18), (.int .i64 29)]) hF hS Tryd.func94 (by kernel_rfl) rfl rfl rfl (c_impl_readNatural rest_18 29 t_22 ht_22 _ m hS.vis) ?_
       rintro a w _ rfl hF hS
       refine q_x (v := (.tuple #[(.int .i64 t_22.1), (strV t_22.2.1), (.bool t_22.2.2)])) hF hS (ex_move rfl) rfl rfl fun a hF => q_x (v := (.int .i64 t_22.1)) hF hS (ex_extract rfl rfl) rfl rfl fun a hF => q_x (v := (strV t_22.2.1)) hF hS (ex_extract rfl rfl) rfl rfl fun a hF => q_x (v := (.bool t_22.2.2)) hF hS (ex_extract rfl rfl) rfl rfl fun a hF => q_x (v := (.int .i64 t_22.1)) hF hS (ex_assign rfl) rfl rfl fun a hF => q_x (v := (strV t_22.2.1)) hF hS (ex_assign rfl) rfl rfl fun a hF => q_x (v := (.bool t_22.2.2)) hF hS (ex_assign rfl) rfl rfl fun a hF => q_end (n_sq (q_seq (q_seq ?_)))
       obtain ⟨t_25, hj11, hj5⟩ := bindS hj5
       refine q_join (fun a w => Fr a 127 [(0, (strV p_s)), (2, (.pointer (some ⟨b1, 0, none⟩))), (4, s3.v), (6, s15.v), (8, (.int .i64 n_17)), (10, (.int .i64 t_22.1)), (11, (strV t_22.2.1)), (90, (.bool t_25))] ∧ St [] w0 w m [q13, q15, [⟨b1, [nilS.v], 60⟩]]) ?_ ?_
       ·refine q_region (q_x (v := (.bool t_22.2.2)) hF hS (ex_move rfl) rfl rfl fun a hF => q_x (v := (.bool (!t_22.2.2))) hF hS (ex_not rfl) rfl rfl fun a hF => q_x (v := (.bool (!t_22.2.2))) hF hS (ex_move rfl) rfl rfl fun a hF => ?_)
        rcases bcase (!t_22.2.2) with hc12 | hc12
        ·have hj11 := cond_f hc12 hj11
         refine q_xg (v := (.int .i64 last_16)) hF hS (ex_move rfl) (wanted_t hF rfl rfl rfl hc12) rfl fun a hF => q_xg (v := (.bool (decide (0 ≤ last_16)))) hF hS (ex_ibin rfl rfl rfl) (wanted_t hF rfl rfl rfl hc12) rfl fun a hF => q_x (v := (.bool (decide (0 ≤ last_16)))) hF hS (ex_pick_f rfl rfl hc12) rfl rfl fun a hF => q_x (v := (.bool (decide (0 ≤ last_16)))) hF hS (ex_move rfl) rfl rfl fun a hF => ?_
         rcases bcase (decide (0 ≤ last_16)) with hc13 | hc13
         ·have hj11 := cond_f hc13 hj11
          refine q_xg (v := s3.v) hF hS (ex_move rfl) (wanted_t hF rfl rfl rfl hc13) rfl fun a hF => q_xg (v := (.int .i64 t_22.1)) hF hS (ex_move rfl) (wanted_t hF rfl rfl rfl hc13) rfl fun a hF => ?_
          obtain ⟨e_23, he_23, hj11⟩ := bindS hj11
          obtain ⟨vs24, at24, d24⟩ := h13.at he_23 1 rfl
          obtain rfl : vs24 = [(.int .i64 e_23)] := d24
          refine q_xg (v := (elP s3 (t_22.1.toNat * 1))) hF hS (ex_indexAddr Tryd.underlying42 sz3 rfl rfl (h13.idx he_23)) (wanted_t hF rfl rfl rfl hc13) rfl fun a hF => q_xg (v := (.int .i64 e_23)) hF hS (ex_loadE1 0 Tryd.underlying3 rfl rfl (at24.at 0 rfl) rfl rfl) (wanted_t hF rfl rfl rfl hc13) rfl fun a hF => q_xg (v := (.bool (e_23 != (-2)))) hF hS (ex_ibin rfl rfl rfl) (wanted_t hF rfl rfl rfl hc13) rfl fun a hF => q_x (v := (.bool (e_23 != (-2)))) hF hS (ex_pick_f rfl rfl hc13) rfl rfl fun a hF => q_x (v := (.bool (e_23 != (-2)))) hF hS (ex_move rfl) rfl rfl fun a hF => ?_
          rcases bcase (e_23 != (-2)) with hc14 | hc14
          ·have hj11 := cond_f hc14 hj11
           refine q_xg (v := s15.v) hF hS (ex_move rfl) (wanted_t hF rfl rfl rfl hc14) rfl fun a hF => q_xg (v := (.int .i64 (goLen open_14))) hF hS (ex_len Tryd.underlying42 rfl h15.len) (wanted_t hF rfl rfl rfl hc14) rfl fun a hF => q_xg (v := (.bool ((goLen open_14) == 0))) hF hS (ex_ibin rfl rfl rfl) (wanted_t hF rfl rfl rfl hc14) rfl fun a hF => q_xg (v := (.bool ((goLen open_14) == 0))) hF hS (ex_move rfl) (wanted_t hF rfl rfl rfl hc14) rfl fun a hF => ?_
           rcases bcase ((goLen open_14) == 0) with hc15 | hc15
           ·have hj11 := cond_f hc15 hj11
            refine q_skip hF (wanted_f hF rfl rfl rfl hc15 rfl) rfl fun a hF => q_skip hF (wanted_f hF rfl rfl rfl hc15 rfl) rfl fun a hF => q_xg (v := (.bool false)) hF hS (ex_pick_f rfl rfl hc15) (wanted_t hF rfl rfl rfl hc14) rfl fun a hF => q_x (v := (.bool false)) hF hS (ex_pick_f rfl rfl hc14) rfl rfl fun a hF => q_end (n_jn ?_)
            obtain rfl := someI hj11
            exact ⟨hF.sub ⟨rfl, rfl, rfl, rfl, rfl, rfl, rfl, rfl, trivial⟩, hS⟩
           ·have hj11 := cond_t hc15 hj11
            refine q_xg (v := (.int .i64 n_17)) hF hS (ex_move rfl) (wanted_t hF rfl rfl rfl hc15) rfl fun a hF => q_xg (v := (.bool (decide (0 < n_17)))) hF hS (ex_ibin rfl rfl rfl) (wanted_t hF rfl rfl rfl hc15) rfl fun a hF => q_xg (v := (.bool (decide (0 < n_17)))) hF hS (ex_pick_t rfl rfl hc15) (wanted_t hF rfl rfl rfl hc14) rfl fun a hF => q_x (v := (.bool (decide (0 < n_17)))) hF hS (ex_pick_f rfl rfl hc14) rfl rfl fun a hF => q_end (n_jn ?_)
            obtain rfl := someI hj11
            exact ⟨hF.sub ⟨rfl, rfl, rfl, rfl, rfl, rfl, rfl, rfl, trivial⟩, hS⟩
          ·have hj11 := cond_t hc14 hj11
           refine q_skip hF (wanted_f hF rfl rfl rfl hc14 rfl) rfl fun a hF => q_skip hF (wanted_f hF rfl rfl rfl hc14 rfl) rfl fun a hF => q_skip hF (wanted_f hF rfl rfl rfl hc14 rfl) rfl fun a hF => q_skip hF (wanted_f hF rfl rfl rfl hc14 rfl) rfl fun a hF => q_skip hF (wanted_u hF rfl rfl rfl) rfl fun a hF => q_skip hF (wanted_u hF rfl rfl rfl) rfl fun a hF => q_skip hF (wanted_f hF rfl rfl rfl hc14 rfl) rfl fun a hF => q_x (v := (.bool true)) hF hS (ex_pick_t rfl rfl hc14) rfl rfl fun a hF => q_end (n_jn ?_)
           obtain rfl := someI hj11
           exact ⟨hF.sub ⟨rfl, rfl, rfl, rfl, rfl, rfl, rfl, rfl, trivial⟩, hS⟩
         ·have hj11 := cond_t hc13 hj11
          refine q_skip hF (wanted_f hF rfl rfl rfl hc13 rfl) rfl fun a hF => q_skip hF (wanted_f hF rfl rfl rfl hc13 rfl) rfl fun a hF => q_skip hF (wanted_f hF rfl rfl rfl hc13 rfl) rfl fun a hF => q_skip hF (wanted_f hF rfl rfl rfl hc13 rfl) rfl fun a hF => q_skip hF (wanted_f hF rfl rfl rfl hc13 rfl) rfl fun a hF => q_x (v := (.bool true)) hF hS (ex_pick_t rfl rfl hc13) rfl rfl fun a hF => q_x (v := (.bool true)) hF hS (ex_move rfl) rfl rfl fun a hF => q_skip hF (wanted_f hF rfl rfl rfl rfl rfl) rfl fun a hF => q_skip hF (wanted_f hF rfl rfl rfl rfl rfl) rfl fun a hF => q_skip hF (wanted_f hF rfl rfl rfl rfl rfl) rfl fun a hF => q_skip hF (wanted_f hF rfl rfl rfl rfl rfl) rfl fun a hF => q_skip hF (wanted_u hF rfl rfl rfl) rfl fun a hF => q_skip hF (wanted_u hF rfl rfl rfl) rfl fun a hF => q_skip hF (wanted_f hF rfl rfl rfl rfl rfl) rfl fun a hF => q_x (v := (.bool true)) hF hS (ex_pick_t rfl rfl rfl) rfl rfl fun a hF => q_end (n_jn ?_)
          obtain rfl := someI hj11
          exact ⟨hF.sub ⟨rfl, rfl, rfl, rfl, rfl, rfl, rfl, rfl, trivial⟩, hS⟩
        ·have hj11 := cond_t hc12 hj11
         refine q_skip hF (wanted_f hF rfl rfl rfl hc12 rfl) rfl fun a hF => q_skip hF (wanted_f hF rfl rfl rfl hc12 rfl) rfl fun a hF => q_x (v := (.bool true)) hF hS (ex_pick_t rfl rfl hc12) rfl rfl fun a hF => q_x (v := (.bool true)) hF hS (ex_move rfl) rfl rfl fun a hF => q_skip hF (wanted_f hF rfl rfl rfl rfl rfl) rfl fun a hF => q_skip hF (wanted_f hF rfl rfl rfl rfl rfl) rfl fun a hF => q_skip hF (wanted_f hF rfl rfl rfl rfl rfl) rfl fun a hF => q_skip hF (wanted_f hF rfl rfl rfl rfl rfl) rfl fun a hF => q_skip hF (wanted_f hF rfl rfl rfl rfl rfl) rfl fun a hF => q_x (v := (.bool true)) hF hS (ex_pick_t rfl rfl rfl) rfl rfl fun a hF => q_x (v := (.bool true)) hF hS (ex_move rfl) rfl rfl fun a hF => q_skip hF (wanted_f hF rfl rfl rfl rfl rfl) rfl fun a hF => q_skip hF (wanted_f hF rfl rfl rfl rfl rfl) rfl fun a hF => q_skip hF (wanted_f hF rfl rfl rfl rfl rfl) rfl fun a hF => q_skip hF (wanted_f hF rfl rfl rfl rfl rfl) rfl fun a hF => q_skip hF (wanted_u hF rfl rfl rfl) rfl fun a hF => q_skip hF (wanted_u hF rfl rfl rfl) rfl fun a hF => q_skip hF (wanted_f hF rfl rfl rfl rfl rfl) rfl fun a hF => q_x (v := (.bool true)) hF hS (ex_pick_t rfl rfl rfl) rfl rfl fun a hF => q_end (n_jn ?_)
         obtain rfl := someI hj11
         exact ⟨hF.sub ⟨rfl, rfl, rfl, rfl, rfl, rfl, rfl, rfl, trivial⟩, hS⟩
       ·rintro a w ⟨hF, hS⟩
        refine n_sq ?_
        rcases bcase (t_25) with hc16 | hc16
        ·have hj5 := cond_f hc16 hj5
         refine q_cond_f hF rfl hc16 (q_skipc (n_sq (q_seq (q_region (q_x (v := s3.v) hF hS (ex_move rfl) rfl rfl fun a hF => q_x (v := (.int .i64 t_22.1)) hF hS (ex_move rfl) rfl rfl fun a hF => ?_)))))
         obtain ⟨e_26, he_26, hj5⟩ := bindS hj5
         obtain ⟨vs27, at27, d27⟩ := h13.at he_26 1 rfl
         obtain rfl : vs27 = [(.int .i64 e_26)] := d27
         refine q_x (v := (elP s3 (t_22.1.toNat * 1))) hF hS (ex_indexAddr Tryd.underlying42 sz3 rfl rfl (h13.idx he_26)) rfl rfl fun a hF => q_do rfl fun _ hK => wp_storeE (e' := -1) (us := [(.int .i64 (-1))]) (vs := [(.int .i64 e_26)]) 0 hF hS h13 sz3 rfl rfl rfl rfl rfl rfl rfl he_26 at27 rfl rfl rfl fun w q28 hS h28 => hK _ _ (q_end (n_sq (q_seq (q_seq (q_region (q_x (v := s15.v) hF hS (ex_move rfl) rfl rfl fun a hF => q_x (v := (.int .i64 (goLen open_14))) hF hS (ex_len Tryd.underlying42 rfl h15.len) rfl rfl fun a hF => q_x (v := (.bool (decide (0 < (goLen open_14))))) hF hS (ex_ibin rfl rfl rfl) rfl rfl fun a hF => q_end (n_sq ?_)))))))
         obtain ⟨parents_34, hj17, hj5⟩ := bindS hj5
         refine q_join (fun a w => ∃ (q35 : Piece), Fr a 127 [(0, (strV p_s)), (2, (.pointer (some ⟨b1, 0, none⟩))), (4, s3.v), (6, s15.v), (8, (.int .i64 n_17)), (10, (.int .i64 t_22.1)), (11, (strV t_22.2.1))] ∧ St [] w0 w m [q35, q15, [⟨b1, [nilS.v], 60⟩]] ∧ OwnL m 3 q35 s3 parents_34) ?_ ?_
         ·rcases bcase (decide (0 < (goLen open_14))) with hc18 | hc18
          ·have hj17 := cond_f hc18 hj17
           refine q_cond_f hF rfl hc18 (q_skipc (n_jn ?_))
           obtain rfl := someI hj17
           exact ⟨q28, hF.sub ⟨rfl, rfl, rfl, rfl, rfl, rfl, rfl, trivial⟩, hS, h28⟩
          ·have hj17 := cond_t hc18 hj17
           refine q_cond_t hF rfl hc18 (q_region (q_x (v := s3.v) hF hS (ex_move rfl) rfl rfl fun a hF => q_x (v := (.int .i64 t_22.1)) hF hS (ex_move rfl) rfl rfl fun a hF => q_x (v := s15.v) hF hS (ex_move rfl) rfl rfl fun a hF => q_x (v := s15.v) hF hS (ex_move rfl) rfl rfl fun a hF => q_x (v := (.int .i64 (goLen open_14))) hF hS (ex_len Tryd.underlying42 rfl h15.len) rfl rfl fun a hF => q_x (v := (.int .i64 (w64 ((goLen open_14) - 1)))) hF hS (ex_ibin rfl rfl rfl) rfl rfl fun a hF => ?_))
           obtain ⟨e_29, he_29, hj17⟩ := bindS hj17
           obtain ⟨vs30, at30, d30⟩ := h15.at he_29 1 rfl
           obtain rfl : vs30 = [(.int .i64 e_29)] := d30
           refine q_x (v := (elP s15 ((w64 ((goLen open_14) - 1)).toNat * 1))) hF hS (ex_indexAddr Tryd.underlying42 sz3 rfl rfl (h15.idx he_29)) rfl rfl fun a hF => q_x (v := (.int .i64 e_29)) hF hS (ex_loadE1 0 Tryd.underlying3 rfl rfl (at30.at 1 rfl) rfl rfl) rfl rfl fun a hF => ?_
           obtain ⟨e_31, he_31, hj17⟩ := bindS hj17
           obtain ⟨vs32, at32, d32⟩ := h28.at he_31 1 rfl
           obtain rfl : vs32 = [(.int .i64 e_31)] := d32
           refine q_x (v := (elP s3 (t_22.1.toNat * 1))) hF hS (ex_indexAddr Tryd.underlying42 sz3 rfl rfl (h28.idx he_31)) rfl rfl fun a hF => q_do rfl fun _ hK => wp_storeE (e' := e_29) (us := [(.int .i64 e_29)]) (vs := [(.int .i64 e_31)]) 0 hF hS h28 sz3 rfl rfl rfl rfl rfl rfl rfl he_31 at32 rfl rfl rfl fun w q33 hS h33 => hK _ _ (q_end (n_jn ?_))
           obtain rfl := someI hj17
           exact ⟨q33, hF.sub ⟨rfl, rfl, rfl, rfl, rfl, rfl, rfl, trivial⟩, hS, h33⟩
         ·rintro a w ⟨q35, hF, hS, h35⟩
          refine n_sq ?_
          refine q_seq (q_region (q_x (v := (.int .i64 t_22.1)) hF hS (ex_move rfl) rfl rfl fun a hF => q_x (v := (strV t_22.2.1)) hF hS (ex_move rfl) rfl rfl fun a hF => q_x (v := (.int .i64 t_22.1)) hF hS (ex_assign rfl) rfl rfl fun a hF => q_x (v := (strV t_22.2.1)) hF hS (ex_assign rfl) rfl rfl fun a hF => q_end (n_sq (q_region (q_x (v := (.int .i64 n_17)) hF hS (ex_move rfl) rfl rfl fun a hF => q_x (v := (.int .i64 (w64 (n_17 + 1)))) hF hS (ex_ibin rfl rfl rfl) rfl rfl fun a hF => q_x (v := (.int .i64 (w64 (n_17 + 1)))) hF hS (ex_assign rfl) rfl rfl fun a hF => q_end (n_ib (n_jn ?_)))))))
          obtain rfl := someI hj5
          exact ⟨q35, q15, s15, _, _, _, _, _, rfl, hF.sub ⟨rfl, rfl, rfl, rfl, rfl, rfl, rfl, trivial⟩, hS, h35, h15⟩
        ·have hj5 := cond_t hc16 hj5
         refine q_cond_t hF rfl hc16 (q_seq (q_region (q_x (v := (.agg #[nilS.v])) hF hS (ex_build (cells := [nilS.v]) rfl (by kernel_rfl)) rfl rfl fun a hF => q_store (vs := [nilS.v]) (cs' := [nilS.v]) 2 0 hF hS sz60 rfl rfl rfl rfl rfl rfl rfl rfl fun a w hF hS => q_x (v := (.bool false)) hF hS (ex_assign rfl) rfl rfl fun a hF => q_end (n_sq (q_ret (r_sq (r_ib (r_jn ?_))))))))
         obtain rfl := someI hj5
         obtain rfl := someI hb3
         refine ⟨nofun, .inr fun ho => ?_⟩
         subst ho
         refine r_ib (r_sq ?_)
         obtain rfl := someI hr
         exact ret_of hF hS rfl (.cellA (us := [nilS.v]) 2 0 Tryd.underlying60 rfl sz60 rfl rfl rfl rfl (.tmp rfl .nil)) ⟨[], nilS, rfl, hS.sel [3] (by decide), (OwnL.nil (α := Int) m 3)⟩
      ·have hj5 := cond_t hc10 hj5
       refine q_cond_t hF rfl hc10 (q_seq (q_seq (q_region (q_x (v := (.int .i64 last_16)) hF hS (ex_move rfl) rfl rfl fun a hF => q_x (v := (.bool (decide (last_16 < 0)))) hF hS (ex_ibin rfl rfl rfl) rfl rfl fun a hF => q_end (n_sq ?_)))))
       rcases bcase (decide (last_16 < 0)) with hc19 | hc19
       ·have hj5 := cond_f hc19 hj5
        refine q_cond_f hF rfl hc19 (q_skipc (n_sq (q_seq (q_seq (q_region (q_x (v := (strV rest_18)) hF hS (ex_move rfl) rfl rfl fun a hF => ?_))))))
        obtain ⟨t_36, ht_36, hj5⟩ := bindS hj5
        refine q_x (v := (.int .u8 t_36)) hF hS (ex_strIdx Tryd.underlying9 rfl rfl ht_36) rfl rfl fun a hF => q_x (v := (.bool (t_36 == 40))) hF hS (ex_ibin rfl rfl rfl) rfl rfl fun a hF => q_end (n_sq ?_)
        obtain ⟨j20, hj20, hj5⟩ := bindS hj5
        refine q_join (fun a w => ∃ (q41 : Piece), ∃ (s41 : Sl), ∃ open_40, j20 = .inl open_40 ∧ Fr a 127 [(0, (strV p_s)), (2, (.pointer (some ⟨b1, 0, none⟩))), (4, s3.v), (6, s41.v), (8, (.int .i64 n_17)), (9, (strV rest_18))] ∧ St [] w0 w m [q13, q41, [⟨b1, [nilS.v], 60⟩]] ∧ OwnL m 3 q41 s41 open_40) ?_ ?_
        ·rcases bcase (t_36 == 40) with hc21 | hc21
         ·have hj20 := cond_f hc21 hj20
          refine q_cond_f hF rfl hc21 (q_seq (q_region (q_x (v := s15.v) hF hS (ex_move rfl) rfl rfl fun a hF => q_x (v := (.int .i64 (goLen open_14))) hF hS (ex_len Tryd.underlying42 rfl h15.len) rfl rfl fun a hF => q_x (v := (.bool ((goLen open_14) == 0))) hF hS (ex_ibin rfl rfl rfl) rfl rfl fun a hF => q_end (n_sq ?_))))
          rcases bcase ((goLen open_14) == 0) with hc22 | hc22
          ·have hj20 := cond_f hc22 hj20
           refine q_cond_f hF rfl hc22 (q_skipc (n_jn ?_))
           obtain rfl := someI hj20
           exact ⟨q15, s15, _, rfl, hF.sub ⟨rfl, rfl, rfl, rfl, rfl, rfl, trivial⟩, hS, h15⟩
          ·have hj20 := cond_t hc22 hj20
           refine q_cond_t hF rfl hc22 (q_seq (q_region (q_x (v := (.agg #[nilS.v])) hF hS (ex_build (cells := [nilS.v]) rfl (by kernel_rfl)) rfl rfl fun a hF => q_store (vs := [nilS.v]) (cs' := [nilS.v]) 2 0 hF hS sz60 rfl rfl rfl rfl rfl rfl rfl rfl fun a w hF hS => q_x (v := (.bool false)) hF hS (ex_assign rfl) rfl rfl fun a hF => q_end (n_sq (q_ret (r_jn ?_))))))
           obtain rfl := someI hj20
           refine r_sq (r_ib (r_sq (r_ib (r_jn ?_))))
           obtain rfl := someI hj5
           obtain rfl := someI hb3
           refine ⟨nofun, .inr fun ho => ?_⟩
           subst ho
           refine r_ib (r_sq ?_)
           obtain rfl := someI hr
           exact ret_of hF hS rfl (.cellA (us := [nilS.v]) 2 0 Tryd.underlying60 rfl sz60 rfl rfl rfl rfl (.tmp rfl .nil)) ⟨[], nilS, rfl, hS.sel [3] (by decide), (OwnL.nil (α := Int) m 3)⟩
         ·have hj20 := cond_t hc21 hj20
          refine q_cond_t hF rfl hc21 (q_region (q_x (v := s15.v) hF hS (ex_move rfl) rfl rfl fun a hF => q_x (v := (.int .i64 last_16)) hF hS (ex_move rfl) rfl rfl fun a hF => q_do rfl fun _ hK => wp_buildSlice' (l := ([last_16] : List Int)) (cells := [(.int .i64 last_16)]) hF hS Tryd.underlying42 inf3 rfl rfl (by kernel_rfl) rfl rfl rfl ⟨rfl, rfl⟩ rfl rfl fun a w q37 s37 hF hS h37 _ => hK _ _ ?_))
          have hS : St _ _ _ _ [q15, q37, q13, [⟨b1, [nilS.v], 60⟩]] := hS.sel [2, 0, 1, 3] (by decide)
          obtain ⟨l_38, hl_38, hj20⟩ := bindS hj20
          refine q_do rfl fun _ hK => wp_append hF hS h15 Tryd.underlying42 inf3 rfl rfl rfl rfl (h37.vw hS (j := 1) rfl) rfl (by decide) hl_38 rfl fun a w q39 s39 hF hS h39 => hK _ _ (q_x (v := s39.v) hF hS (ex_assign rfl) rfl rfl fun a hF => q_end (n_jn ?_))
          obtain rfl := someI hj20
          exact ⟨q39, s39, _, rfl, hF.sub ⟨rfl, rfl, rfl, rfl, rfl, rfl, trivial⟩, hS.sel [2, 0, 3] (by decide), h39⟩
        ·rintro a w ⟨q41, s41, open_40, rfl, hF, hS, h41⟩
         refine n_sq ?_
         refine q_seq (q_seq (q_region (q_x (v := (strV rest_18)) hF hS (ex_move rfl) rfl rfl fun a hF => ?_)))
         obtain ⟨t_42, ht_42, hj5⟩ := bindS hj5
         refine q_x (v := (.int .u8 t_42)) hF hS (ex_strIdx Tryd.underlying9 rfl rfl ht_42) rfl rfl fun a hF => q_x (v := (.bool (t_42 == 41))) hF hS (ex_ibin rfl rfl rfl) rfl rfl fun a hF => q_end (n_sq ?_)
         obtain ⟨j23, hj23, hj5⟩ := bindS hj5
         refine q_join (fun a w => ∃ (q48 : Piece), ∃ (s48 : Sl), ∃ open_47, ∃ last_49, j23 = (open_47, last_49) ∧ Fr a 127 [(0, (strV p_s)), (2, (.pointer (some ⟨b1, 0, none⟩))), (4, s3.v), (6, s48.v), (7, (.int .i64 last_49)), (8, (.int .i64 n_17)), (9, (strV rest_18))] ∧ St [] w0 w m [q13, q48, [⟨b1, [nilS.v], 60⟩]] ∧ OwnL m 3 q48 s48 open_47) ?_ ?_
         ·rcases bcase (t_42 == 41) with hc24 | hc24
          ·have hj23 := cond_f hc24 hj23
           refine q_cond_f hF rfl hc24 (q_region (q_x (v := (.int .i64 (-1))) hF hS (ex_assign rfl) rfl rfl fun a hF => q_end (n_jn ?_)))
           obtain rfl := someI hj23
           exact ⟨q41, s41, _, _, rfl, hF.sub ⟨rfl, rfl, rfl, rfl, rfl, rfl, rfl, trivial⟩, hS, h41⟩
          ·have hj23 := cond_t hc24 hj23
           refine q_cond_t hF rfl hc24 (q_seq (q_region (q_x (v := s41.v) hF hS (ex_move rfl) rfl rfl fun a hF => q_x (v := s41.v) hF hS (ex_move rfl) rfl rfl fun a hF => q_x (v := (.int .i64 (goLen open_40))) hF hS (ex_len Tryd.underlying42 rfl h41.len) rfl rfl fun a hF => q_x (v := (.int .i64 (w64 ((goLen open_40) - 1)))) hF hS (ex_ibin rfl rfl rfl) rfl rfl fun a hF => ?_)))
           obtain ⟨e_43, he_43, hj23⟩ := bindS hj23
           obtain ⟨vs44, at44, d44⟩ := h41.at he_43 1 rfl
           obtain rfl : vs44 = [(.int .i64 e_43)] := d44
           refine q_x (v := (elP s41 ((w64 ((goLen open_40) - 1)).toNat * 1))) hF hS (ex_indexAddr Tryd.underlying42 sz3 rfl rfl (h41.idx he_43)) rfl rfl fun a hF => q_x (v := (.int .i64 e_43)) hF hS (ex_loadE1 0 Tryd.underlying3 rfl rfl (at44.at 1 rfl) rfl rfl) rfl rfl fun a hF => q_x (v := (.int .i64 e_43)) hF hS (ex_assign rfl) rfl rfl fun a hF => q_end (n_sq (q_region (q_x (v := s41.v) hF hS (ex_move rfl) rfl rfl fun a hF => q_x (v := s41.v) hF hS (ex_move rfl) rfl rfl fun a hF => q_x (v := (.int .i64 (goLen open_40))) hF hS (ex_len Tryd.underlying42 rfl h41.len) rfl rfl fun a hF => q_x (v := (.int .i64 (w64 ((goLen open_40) - 1)))) hF hS (ex_ibin rfl rfl rfl) rfl rfl fun a hF => ?_)))
           obtain ⟨l_45, hl_45, hj23⟩ := bindS hj23
           have h46 : OwnL m 3 q41 (subS s41 1 (0 : Int).toNat (w64 ((goLen open_40) - 1)).toNat s41.cap) l_45 := h41.sub0 hl_45
           refine q_x (v := (subS s41 1 (0 : Int).toNat (w64 ((goLen open_40) - 1)).toNat s41.cap).v) hF hS (ex_slice Tryd.underlying42 sz3 rfl rfl rfl (.inl ⟨rfl, rfl⟩) (.inr ⟨_, rfl⟩) (h41.subok hl_45)) rfl rfl fun a hF => q_x (v := (subS s41 1 (0 : Int).toNat (w64 ((goLen open_40) - 1)).toNat s41.cap).v) hF hS (ex_assign rfl) rfl rfl fun a hF => q_end (n_jn ?_)
           obtain rfl := someI hj23
           exact ⟨q41, (subS s41 1 (0 : Int).toNat (w64 ((goLen open_40) - 1)).toNat s41.cap), _, _, rfl, hF.sub ⟨rfl, rfl, rfl, rfl, rfl, rfl, rfl, trivial⟩, hS, h46⟩
         ·rintro a w ⟨q48, s48, open_47, last_49, rfl, hF, hS, h48⟩
          refine n_sq ?_
          refine q_seq (q_region (q_x (v := (strV rest_18)) hF hS (ex_move rfl) rfl rfl fun a hF => ?_))
          obtain ⟨t_50, ht_50, hj5⟩ := bindS hj5
          refine q_x (v := (strV t_50)) hF hS (ex_strSub Tryd.underlying9 rfl rfl rfl (.inr ⟨_, rfl⟩) (.inl ⟨rfl, rfl⟩) ht_50) rfl rfl fun a hF => q_x (v := (strV t_50)) hF hS (ex_assign rfl) rfl rfl fun a hF => q_end (n_sq (q_exit (x_ibn rfl (x_sq (x_ib (n_jn ?_))))))
          obtain rfl := someI hj5
          exact ⟨q13, q48, s48, _, _, _, _, _, rfl, hF.sub ⟨rfl, rfl, rfl, rfl, rfl, rfl, rfl, trivial⟩, hS, h13, h48⟩
       ·have hj5 := cond_t hc19 hj5
        refine q_cond_t hF rfl hc19 (q_seq (q_region (q_x (v := (.agg #[nilS.v])) hF hS (ex_build (cells := [nilS.v]) rfl (by kernel_rfl)) rfl rfl fun a hF => q_store (vs := [nilS.v]) (cs' := [nilS.v]) 2 0 hF hS sz60 rfl rfl rfl rfl rfl rfl rfl rfl fun a w hF hS => q_x (v := (.bool false)) hF hS (ex_assign rfl) rfl rfl fun a hF => q_end (n_sq (q_ret (r_sq (r_ib (r_sq (r_ib (r_jn ?_))))))))))
        obtain rfl := someI hj5
        obtain rfl := someI hb3
        refine ⟨nofun, .inr fun ho => ?_⟩
        subst ho
        refine r_ib (r_sq ?_)
        obtain rfl := someI hr
        exact ret_of hF hS rfl (.cellA (us := [nilS.v]) 2 0 Tryd.underlying60 rfl sz60 rfl rfl rfl rfl (.tmp rfl .nil)) ⟨[], nilS, rfl, hS.sel [3] (by decide), (OwnL.nil (α := Int) m 3)⟩
    ·rintro a w ⟨q52, q54, s54, parents_51, open_53, last_55, n_56, rest_57, rfl, hF, hS, h52, h54⟩
     obtain rfl := someI hb3
     exact ⟨rfl, q52, q54, s54, _, _, _, _, _, rfl, hF.sub ⟨rfl, rfl, rfl, rfl, rfl, rfl, rfl, trivial⟩, hS, h52, h54⟩
  ·rintro e a w ⟨q59, parents_58, n_60, rfl, rfl, hF, hS, h59⟩
   refine x_ib (n_sq ?_)
   refine q_seq (q_region (q_x (v := s3.v) hF hS (ex_move rfl) rfl rfl fun a hF => q_x (v := (.int .i64 n_60)) hF hS (ex_move rfl) rfl rfl fun a hF => ?_))
   obtain ⟨l_61, hl_61, hr⟩ := bindS hr
   have h62 : OwnL m 3 q59 (subS s3 1 (0 : Int).toNat n_60.toNat s3.cap) l_61 := h59.sub0 hl_61
   refine q_x (v := (subS s3 1 (0 : Int).toNat n_60.toNat s3.cap).v) hF hS (ex_slice Tryd.underlying42 sz3 rfl rfl rfl (.inl ⟨rfl, rfl⟩) (.inr ⟨_, rfl⟩) (h59.subok hl_61)) rfl rfl fun a hF => ?_
   obtain ⟨m64, hl64, hv64, hz64⟩ := hS.lend
   obtain ⟨t_63, ht_63, hr⟩ := bindS hr
   refine q_call (vs := [(subS s3 1 (0 : Int).toNat n_60.toNat s3.cap).v]) hF hS Tryd.func81 (by kernel_rfl) rfl rfl rfl (c_slices_Clone_int_int l_61 t_63 ht_63 _ m64 hv64 (subS s3 1 (0 : Int).toNat n_60.toNat s3.cap) (h62.froz hl64 (hz64 0 _ rfl))) ?_
   rintro a w _ ⟨q66, s66, rfl, hR65, h66⟩ hF hS2
   have hS : St _ _ _ _ [q66, q59, [⟨b1, [nilS.v], 60⟩]] := hS.joinF hR65
   have h66 := h66.any m
   refine q_x (v := (.agg #[s66.v])) hF hS (ex_build (cells := [s66.v]) rfl (by kernel_rfl)) rfl rfl fun a hF => q_alloc (cs := [nilS.v]) hF hS rfl rfl rfl fun a w b67 hF hS => q_store (vs := [s66.v]) (cs' := [s66.v]) 0 0 hF hS sz60 rfl rfl rfl rfl rfl rfl rfl rfl fun a w hF hS => q_end (n_sq (q_seq (q_seq ?_)))
   obtain ⟨t_72, hj25, hr⟩ := bindS hr
   refine q_join (fun a w => Fr a 127 [(2, (.pointer (some ⟨b1, 0, none⟩))), (13, (.pointer (some ⟨b67, 0, none⟩))), (124, (.bool t_72))] ∧ St [] w0 w m [q66, [⟨b67, [s66.v], 60⟩], [⟨b1, [nilS.v], 60⟩]]) ?_ ?_
   ·refine q_region (q_x (v := (.agg #[s66.v])) hF hS (ex_loadA (vs := [s66.v]) 0 0 Tryd.underlying60 rfl sz60 rfl rfl rfl rfl) rfl rfl fun a hF => ?_)
    obtain ⟨m69, hl69, hv69, hz69⟩ := hS.lend
    obtain ⟨t_68, ht_68, hj25⟩ := bindS hj25
    refine q_call (vs := [(.agg #[s66.v])]) hF hS Tryd.func37 (by kernel_rfl) rfl rfl rfl (c_impl_IsGeo (impl_Geo.mk t_63) t_68 ht_68 _ m69 hv69 s66 (h66.froz hl69 (hz69 1 _ rfl))) ?_
    rintro a w _ rfl hF hS
    refine q_x (v := (.bool (!t_68))) hF hS (ex_not rfl) rfl rfl fun a hF => q_x (v := (.bool (!t_68))) hF hS (ex_move rfl) rfl rfl fun a hF => ?_
    rcases bcase (!t_68) with hc26 | hc26
    ·have hj25 := cond_f hc26 hj25
     refine q_xg (v := (.agg #[s66.v])) hF hS (ex_loadA (vs := [s66.v]) 0 0 Tryd.underlying60 rfl sz60 rfl rfl rfl rfl) (wanted_t hF rfl rfl rfl hc26) rfl fun a hF => ?_
     obtain ⟨m71, hl71, hv71, hz71⟩ := hS.lend
     obtain ⟨t_70, ht_70, hj25⟩ := bindS hj25
     refine q_callg (vs := [(.agg #[s66.v]), (.int .i64 0)]) hF hS (wanted_t hF rfl rfl rfl hc26) Tryd.func91 (by kernel_rfl) rfl rfl rfl (c_impl_areaText (impl_Geo.mk t_63) 0 t_70 ht_70 _ m71 hv71 (ht.mono hl71) s66 (h66.froz hl71 (hz71 1 _ rfl))) ?_
     rintro a w _ rfl hF hS
     refine q_xg (v := (strV p_s)) hF hS (ex_move rfl) (wanted_t hF rfl rfl rfl hc26) rfl fun a hF => q_xg (v := (.bool (t_70 != p_s))) hF hS (ex_strNe rfl rfl) (wanted_t hF rfl rfl rfl hc26) rfl fun a hF => q_x (v := (.bool (t_70 != p_s))) hF hS (ex_pick_f rfl rfl hc26) rfl rfl fun a hF => q_end (n_jn ?_)
     obtain rfl := someI hj25
     exact ⟨hF.sub ⟨rfl, rfl, rfl, trivial⟩, hS.sel [1, 0, 3] (by decide)⟩
    ·have hj25 := cond_t hc26 hj25
     refine q_skip hF (wanted_f hF rfl rfl rfl hc26 rfl) rfl fun a hF => q_skip hF (wanted_f hF rfl rfl rfl hc26 rfl) rfl fun a hF => q_skip hF (wanted_f hF rfl rfl rfl hc26 rfl) rfl fun a hF => q_skip hF (wanted_f hF rfl rfl rfl hc26 rfl) rfl fun a hF => q_x (v := (.bool true)) hF hS (ex_pick_t rfl rfl hc26) rfl rfl fun a hF => q_end (n_jn ?_)
     obtain rfl := someI hj25
     exact ⟨hF.sub ⟨rfl, rfl, rfl, trivial⟩, hS.sel [1, 0, 3] (by decide)⟩
   ·rintro a w ⟨hF, hS⟩
    refine n_sq ?_
    rcases bcase (t_72) with hc27 | hc27
    ·have hr := cond_f hc27 hr
     refine q_cond_f hF rfl hc27 (q_skipc (n_sq (q_seq (q_region (q_x (v := (.agg #[s66.v])) hF hS (ex_loadA (vs := [s66.v]) 1 0 Tryd.underlying60 rfl sz60 rfl rfl rfl rfl) rfl rfl fun a hF => q_store (vs := [s66.v]) (cs' := [s66.v]) 2 0 hF hS sz60 rfl rfl rfl rfl rfl rfl rfl rfl fun a w hF hS => q_x (v := (.bool true)) hF hS (ex_assign rfl) rfl rfl fun a hF => q_end (n_sq (q_ret ?_)))))))
     obtain rfl := someI hr
     exact ret_of hF hS rfl (.cellA (us := [s66.v]) 2 0 Tryd.underlying60 rfl sz60 rfl rfl rfl rfl (.tmp rfl .nil)) ⟨q66, s66, rfl, hS.sel [0] (by decide), h66⟩
    ·have hr := cond_t hc27 hr
     refine q_cond_t hF rfl hc27 (q_seq (q_region (q_x (v := (.agg #[nilS.v])) hF hS (ex_build (cells := [nilS.v]) rfl (by kernel_rfl)) rfl rfl fun a hF => q_store (vs := [nilS.v]) (cs' := [nilS.v]) 2 0 hF hS sz60 rfl rfl rfl rfl rfl rfl rfl rfl fun a w hF hS => q_x (v := (.bool false)) hF hS (ex_assign rfl) rfl rfl fun a hF => q_end (n_sq (q_ret (r_sq ?_))))))
     obtain rfl := someI hr
     exact ret_of hF hS rfl (.cellA (us := [nilS.v]) 2 0 Tryd.underlying60 rfl sz60 rfl rfl rfl rfl (.tmp rfl .nil)) ⟨[], nilS, rfl, hS.sel [3] (by decide), (OwnL.nil (α := Int) m 3)⟩

theorem c_laws_sameInts (p_a : List Int) (p_b : List Int) (r : Bool) (hr : laws_sameInts p_a p_b = some r) (w0 : World) (m : Mem) (hv : Vis m w0) (s1 : Sl) (h1 : Rd m s1 p_a) (s2 : Sl) (h2 : Rd m s2 p_b) :
  Ret Tryd.prog 39 [s1.v, s2.v] w0 (fun v _ => v = (.bool r)) := by
 unfold laws_sameInts at hr
 refine ret_start Tryd.func39 rfl 26 rfl rfl m hv fun a hF hS => q_seq (q_region (q_x (v := (.bool false)) hF hS (ex_assign rfl) rfl rfl fun a hF => q_end (n_sq (q_seq (q_seq (q_region (q_x (v := s1.v) hF hS (ex_move rfl) rfl rfl fun a hF => q_x (v := (.int .i64 (goLen p_a))) hF hS (ex_len Tryd.underlying42 rfl h1.len) rfl rfl fun a hF => q_x (v := s2.v) hF hS (ex_move rfl) rfl rfl fun a hF => q_x (v := (.int .i64 (goLen p_b))) hF hS (ex_len Tryd.underlying42 rfl h2.len) rfl rfl fun a hF => q_x (v := (.bool ((goLen p_a) != (goLen p_b)))) hF hS (ex_ibin rfl rfl rfl) rfl rfl fun a hF => q_end (n_sq ?_))))))))
 rcases bcase ((goLen p_a) != (goLen p_b)) with hc1 | hc1
 ·have hr := cond_f hc1 hr
  refine q_cond_f hF rfl hc1 (q_skipc (n_sq (q_seq (q_seq (q_region (q_x (v := s1.v) hF hS (ex_move rfl) rfl rfl fun a hF => q_x (v := (.int .i64 (goLen p_a))) hF hS (ex_len Tryd.underlying42 rfl h1.len) rfl rfl fun a hF => q_x (v := (.int .i64 0)) hF hS (ex_move rfl) rfl rfl fun a hF => q_end (n_sq (q_block ?_))))))))
  obtain ⟨o2, hl2, hr⟩ := bindS hr
  refine q_loop (fun (t_3 : Int) a w => Fr a 26 [(0, s1.v), (1, s2.v), (12, (.int .i64 (goLen p_a))), (13, (.int .i64 t_3))] ∧ St [] w0 w m []) (fun (o : (Unit) ⊕ (Bool)) e a w => o = .inl () ∧ e = .exit 0 ∧ Fr a 26 [] ∧ St [] w0 w m []) hl2 ⟨hF.sub ⟨rfl, rfl, rfl, rfl, trivial⟩, hS⟩ ?_ ?_
  ·clear hF hS
   rintro t_3 a w st ⟨hF, hS⟩ hb2
   unfold laws_sameInts_l1 at hb2
   refine q_seq (q_region (q_x (v := (.bool (decide (t_3 < (goLen p_a))))) hF hS (ex_ibin rfl rfl rfl) rfl rfl fun a hF => q_end (n_sq (q_seq ?_))))
   rcases bcase (decide (t_3 < (goLen p_a))) with hc3 | hc3
   ·have hb2 := cond_f hc3 hb2
    refine q_cond_f hF rfl hc3 (q_exit (x_sq ?_))
    obtain rfl := someI hb2
    exact ⟨nofun, .inl ⟨rfl, rfl, hF.sub trivial, hS⟩⟩
   ·have hb2 := cond_t hc3 hb2
    refine q_cond_t hF rfl hc3 (q_skipc (n_sq (q_seq (q_block (q_seq (q_region (q_x (v := (.int .i64 t_3)) hF hS (ex_move rfl) rfl rfl fun a hF => q_x (v := (.int .i64 t_3)) hF hS (ex_assign rfl) rfl rfl fun a hF => q_end (n_sq (q_seq (e_region ⟨[], []⟩ mixed fun w' hw' => ?_))))))))))
    have hS := hS.below hw'
    refine e_p (v := s1.v) 0 hF rfl (ex_move rfl) rfl rfl (by kernel_rfl) (by kernel_rfl) (by kernel_rfl) fun a hF => e_p (v := (.int .i64 t_3)) 1 hF rfl (ex_move rfl) rfl rfl (by kernel_rfl) (by kernel_rfl) (by kernel_rfl) fun a hF => ?_
    obtain ⟨e_4, he_4, hb2⟩ := bindS hb2
    obtain ⟨vs5, at5, d5⟩ := h1.at he_4 1 rfl
    obtain rfl : vs5 = [(.int .i64 e_4)] := d5
    refine e_p (v := (elP s1 (t_3.toNat * 1))) 2 hF rfl (ex_indexAddr Tryd.underlying42 sz3 rfl rfl (h1.idx he_4)) rfl rfl (by kernel_rfl) (by kernel_rfl) (by kernel_rfl) fun a hF => e_x (v := (.int .i64 e_4)) 3 hF hS rfl (ex_loadE1 0 Tryd.underlying3 rfl rfl ((at5).at) rfl rfl) rfl rfl (by kernel_rfl) (by kernel_rfl) (by kernel_rfl) (by kernel_rfl) fun a hF => e_p (v := s2.v) 4 hF rfl (ex_move rfl) rfl rfl (by kernel_rfl) (by kernel_rfl) (by kernel_rfl) fun a hF => e_p (v := (.int .i64 t_3)) 5 hF rfl (ex_move rfl) rfl rfl (by kernel_rfl) (by kernel_rfl) (by kernel_rfl) fun a hF => ?_
    obtain ⟨e_6, he_6, hb2⟩ := bindS hb2
    obtain ⟨vs7, at7, d7⟩ := h2.at he_6 1 rfl
    obtain rfl : vs7 = [(.int .i64 e_6)] := d7
    refine e_p (v := (elP s2 (t_3.toNat * 1))) 6 hF rfl (ex_indexAddr Tryd.underlying42 sz3 rfl rfl (h2.idx he_6)) rfl rfl (by kernel_rfl) (by kernel_rfl) (by kernel_rfl) fun a hF => e_x (v := (.int .i64 e_6)) 7 hF hS rfl (ex_loadE1 0 Tryd.underlying3 rfl rfl ((at7).at) rfl rfl) rfl rfl (by kernel_rfl) (by kernel_rfl) (by kernel_rfl) (by kernel_rfl) fun a hF => e_p (v := (.bool (e_4 != e_6))) 8 hF rfl (ex_ibin rfl rfl rfl) rfl rfl (by kernel_rfl) (by kernel_rfl) (by kernel_rfl) fun a hF => e_end (by kernel_rfl) (n_sq ?_) _
    rcases bcase (e_4 != e_6) with hc4 | hc4
    ·have hb2 := cond_f hc4 hb2
     refine q_cond_f hF rfl hc4 (q_skipc (n_ib (n_sq (q_region (q_x (v := (.int .i64 (w64 (t_3 + 1)))) hF hS (ex_ibin rfl rfl rfl) rfl rfl fun a hF => q_x (v := (.int .i64 (w64 (t_3 + 1)))) hF hS (ex_move rfl) rfl rfl fun a hF => q_end ?_)))))
     obtain rfl := someI hb2
     exact ⟨rfl, hF.sub ⟨rfl, rfl, rfl, rfl, trivial⟩, hS⟩
    ·have hb2 := cond_t hc4 hb2
     refine q_cond_t hF rfl hc4 (q_seq (q_region (q_x (v := (.bool false)) hF hS (ex_assign rfl) rfl rfl fun a hF => q_end (n_sq (q_ret (r_ib (r_sq ?_)))))))
     obtain rfl := someI hb2
     refine ⟨nofun, .inr fun ho => ?_⟩
     subst ho
     refine r_ib (r_sq ?_)
     obtain rfl := someI hr
     exact ret_of hF hS rfl (.tmp rfl .nil) rfl
  ·rintro e a w ⟨rfl, rfl, hF, hS⟩
   refine x_ib (n_sq ?_)
   refine q_seq (q_region (q_x (v := (.bool true)) hF hS (ex_assign rfl) rfl rfl fun a hF => q_end (n_sq (q_ret ?_))))
   obtain rfl := someI hr
   exact ret_of hF hS rfl (.tmp rfl .nil) rfl
 ·have hr := cond_t hc1 hr
  refine q_cond_t hF rfl hc1 (q_seq (q_region (q_x (v := (.bool false)) hF hS (ex_assign rfl) rfl rfl fun a hF => q_end (n_sq (q_ret (r_sq ?_))))))
  obtain rfl := someI hr
  exact ret_of hF hS rfl (.tmp rfl .nil) rfl

theorem c_slices_Index_int_int (p_s : List Int) (p_v : Int) (r : Int) (hr : slices_Index_int_int p_s p_v = some r) (w0 : World) (m : Mem) (hv : Vis m w0) (s1 : Sl) (h1 : Rd m s1 p_s) :
  Ret Tryd.prog 148 [s1.v, (.int .i64 p_v)] w0 (fun v _ => v = (.int .i64 r)) := by
 unfold slices_Index_int_int at hr
 refine ret_start Tryd.func148 rfl 19 rfl rfl m hv fun a hF hS => q_seq (q_region (q_x (v := (.int .i64 0)) hF hS (ex_assign rfl) rfl rfl fun a hF => q_end (n_sq (q_seq (q_seq (q_region (q_x (v := s1.v) hF hS (ex_move rfl) rfl rfl fun a hF => q_x (v := (.int .i64 (goLen p_s))) hF hS (ex_len Tryd.underlying42 rfl h1.len) rfl rfl fun a hF => q_x (v := (.int .i64 0)) hF hS (ex_move rfl) rfl rfl fun a hF => q_end (n_sq (q_block ?_)))))))))
 obtain ⟨o1, hl1, hr⟩ := bindS hr
 refine q_loop (fun (t_2 : Int) a w => Fr a 19 [(0, s1.v), (1, (.int .i64 p_v)), (7, (.int .i64 (goLen p_s))), (8, (.int .i64 t_2))] ∧ St [] w0 w m []) (fun (o : (Unit) ⊕ (Int)) e a w => o = .inl () ∧ e = .exit 0 ∧ Fr a 19 [] ∧ St [] w0 w m []) hl1 ⟨hF.sub ⟨rfl, rfl, rfl, rfl, trivial⟩, hS⟩ ?_ ?_
 ·clear hF hS
  rintro t_2 a w st ⟨hF, hS⟩ hb1
  unfold slices_Index_int_int_l1 at hb1
  refine q_seq (q_region (q_x (v := (.bool (decide (t_2 < (goLen p_s))))) hF hS (ex_ibin rfl rfl rfl) rfl rfl fun a hF => q_end (n_sq (q_seq ?_))))
  rcases bcase (decide (t_2 < (goLen p_s))) with hc2 | hc2
  ·have hb1 := cond_f hc2 hb1
   refine q_cond_f hF rfl hc2 (q_exit (x_sq ?_))
   obtain rfl := someI hb1
   exact ⟨nofun, .inl ⟨rfl, rfl, hF.sub trivial, hS⟩⟩
  ·have hb1 := cond_t hc2 hb1
   refine q_cond_t hF rfl hc2 (q_skipc (n_sq (q_seq (q_block (q_seq (q_region (q_x (v := (.int .i64 t_2)) hF hS (ex_move rfl) rfl rfl fun a hF => q_x (v := (.int .i64 t_2)) hF hS (ex_assign rfl) rfl rfl fun a hF => q_end (n_sq (q_seq (q_region (q_x (v := (.int .i64 p_v)) hF hS (ex_move rfl) rfl rfl fun a hF => q_x (v := s1.v) hF hS (ex_move rfl) rfl rfl fun a hF => q_x (v := (.int .i64 t_2)) hF hS (ex_move rfl) rfl rfl fun a hF => ?_)))))))))))
   obtain ⟨e_3, he_3, hb1⟩ := bindS hb1
   obtain ⟨vs4, at4, d4⟩ := h1.at he_3 1 rfl
   obtain rfl : vs4 = [(.int .i64 e_3)] := d4
   refine q_x (v := (elP s1 (t_2.toNat * 1))) hF hS (ex_indexAddr Tryd.underlying42 sz3 rfl rfl (h1.idx he_3)) rfl rfl fun a hF => q_x (v := (.int .i64 e_3)) hF hS (ex_loadE1 0 Tryd.underlying3 rfl rfl ((at4).at) rfl rfl) rfl rfl fun a hF => q_x (v := (.bool (p_v == e_3))) hF hS (ex_ibin rfl rfl rfl) rfl rfl fun a hF => q_end (n_sq ?_)
   rcases bcase (p_v == e_3) with hc3 | hc3
   ·have hb1 := cond_f hc3 hb1
    refine q_cond_f hF rfl hc3 (q_skipc (n_ib (n_sq (q_region (q_x (v := (.int .i64 (w64 (t_2 + 1)))) hF hS (ex_ibin rfl rfl rfl) rfl rfl fun a hF => q_x (v := (.int .i64 (w64 (t_2 + 1)))) hF hS (ex_move rfl) rfl rfl fun a hF => q_end ?_)))))
    obtain rfl := someI hb1
    exact ⟨rfl, hF.sub ⟨rfl, rfl, rfl, rfl, trivial⟩, hS⟩
   ·have hb1 := cond_t hc3 hb1
    refine q_cond_t hF rfl hc3 (q_seq (q_region (q_x (v := (.int .i64 t_2)) hF hS (ex_move rfl) rfl rfl fun a hF => q_x (v := (.int .i64 t_2)) hF hS (ex_assign rfl) rfl rfl fun a hF => q_end (n_sq (q_ret (r_ib (r_sq ?_)))))))
    obtain rfl := someI hb1
    refine ⟨nofun, .inr fun ho => ?_⟩
    subst ho
    refine r_ib (r_sq ?_)
    obtain rfl := someI hr
    exact ret_of hF hS rfl (.tmp rfl .nil) rfl
 ·rintro e a w ⟨rfl, rfl, hF, hS⟩
  refine x_ib (n_sq ?_)
  refine q_seq (q_region (q_x (v := (.int .i64 (-1))) hF hS (ex_assign rfl) rfl rfl fun a hF => q_end (n_sq (q_ret ?_))))
  obtain rfl := someI hr
  exact ret_of hF hS rfl (.tmp rfl .nil) rfl

theorem c_slices_Contains_int_int (p_s : List Int) (p_v : Int) (r : Bool) (hr : slices_Contains_int_int p_s p_v = some r) (w0 : World) (m : Mem) (hv : Vis m w0) (s1 : Sl) (h1 : Rd m s1 p_s) :
  Ret Tryd.prog 137 [s1.v, (.int .i64 p_v)] w0 (fun v _ => v = (.bool r)) := by
 unfold slices_Contains_int_int at hr
 refine ret_start Tryd.func137 rfl 9 rfl rfl m hv fun a hF hS => q_seq (q_region (q_x (v := (.bool false)) hF hS (ex_assign rfl) rfl rfl fun a hF => q_end (n_sq (q_seq (q_region (q_x (v := s1.v) hF hS (ex_move rfl) rfl rfl fun a hF => q_x (v := (.int .i64 p_v)) hF hS (ex_move rfl) rfl rfl fun a hF => ?_))))))
 obtain ⟨t_2, ht_2, hr⟩ := bindS hr
 refine q_call (vs := [s1.v, (.int .i64 p_v)]) hF hS Tryd.func148 (by kernel_rfl) rfl rfl rfl (c_slices_Index_int_int p_s p_v t_2 ht_2 _ m hS.vis s1 h1) ?_
 rintro a w _ rfl hF hS
 refine q_x (v := (.bool (decide (0 ≤ t_2)))) hF hS (ex_ibin rfl rfl rfl) rfl rfl fun a hF => q_x (v := (.bool (decide (0 ≤ t_2)))) hF hS (ex_assign rfl) rfl rfl fun a hF => q_end (n_sq (q_ret ?_))
 obtain rfl := someI hr
 exact ret_of hF hS rfl (.tmp rfl .nil) rfl

theorem c_impl_isLeaf (p_g : impl_Geo) (p_i : Int) (r : Bool) (hr : impl_isLeaf p_g p_i = some r) (w0 : World) (m : Mem) (hv : Vis m w0) (s1 : Sl) (h1 : Rd m s1 p_g.Parents) :
  Ret Tryd.prog 127 [(.agg #[s1.v]), (.int .i64 p_i)] w0 (fun v _ => v = (.bool r)) := by
 unfold impl_isLeaf at hr
 refine ret_start Tryd.func127 rfl 10 rfl rfl m hv fun a hF hS => q_seq (q_region (q_box (cs := [s1.v]) hF hS rfl rfl rfl fun a w b2 hF hS => q_x (v := (.bool false)) hF hS (ex_assign rfl) rfl rfl fun a hF => q_end (n_sq (q_seq (q_region (q_x (v := (.pointer (some ⟨b2, 0, none⟩))) hF hS (ex_fieldAddr Tryd.underlying60 rfl sz42 rfl rfl) rfl rfl fun a hF => q_x (v := s1.v) hF hS (ex_load1 0 0 Tryd.underlying42 rfl rfl rfl rfl) rfl rfl fun a hF => q_x (v := (.int .i64 p_i)) hF hS (ex_move rfl) rfl rfl fun a hF => ?_))))))
 obtain ⟨t_3, ht_3, hr⟩ := bindS hr
 refine q_call (vs := [s1.v, (.int .i64 p_i)]) hF hS Tryd.func137 (by kernel_rfl) rfl rfl rfl (c_slices_Contains_int_int p_g.Parents p_i t_3 ht_3 _ m hS.vis s1 h1) ?_
 rintro a w _ rfl hF hS
 refine q_x (v := (.bool (!t_3))) hF hS (ex_not rfl) rfl rfl fun a hF => q_x (v := (.bool (!t_3))) hF hS (ex_assign rfl) rfl rfl fun a hF => q_end (n_sq (q_ret ?_))
 obtain rfl := someI hr
 exact ret_of hF hS rfl (.tmp rfl .nil) rfl

theorem c_impl_leavesOf (p_g : impl_Geo) (r : (List Int)) (hr : impl_leavesOf p_g = some r) (w0 : World) (m : Mem) (hv : Vis m w0) (s1 : Sl) (h1 : Rd m s1 p_g.Parents) :
  Ret Tryd.prog 95 [(.agg #[s1.v])] w0 (fun v w => ∃ (q0' : Piece) (s0' : Sl), v = s0'.v ∧ St [] w0 w m [q0'] ∧ OwnL m 3 q0' s0' r) := by
 unfold impl_leavesOf at hr
 refine ret_start Tryd.func95 rfl 20 rfl rfl m hv fun a hF hS => q_seq (q_region (q_box (cs := [s1.v]) hF hS rfl rfl rfl fun a w b2 hF hS => q_x (v := nilS.v) hF hS (ex_assign rfl) rfl rfl fun a hF => q_end (n_sq (q_seq (q_region (q_x (v := nilS.v) hF hS (ex_assign rfl) rfl rfl fun a hF => q_end (n_sq (q_seq (q_seq (q_region (q_x (v := (.pointer (some ⟨b2, 0, none⟩))) hF hS (ex_fieldAddr Tryd.underlying60 rfl sz42 rfl rfl) rfl rfl fun a hF => q_x (v := s1.v) hF hS (ex_load1 0 0 Tryd.underlying42 rfl rfl rfl rfl) rfl rfl fun a hF => q_x (v := (.int .i64 (goLen p_g.Parents))) hF hS (ex_len Tryd.underlying42 rfl h1.len) rfl rfl fun a hF => q_x (v := (.int .i64 0)) hF hS (ex_move rfl) rfl rfl fun a hF => q_end (n_sq (q_block ?_)))))))))))))
 obtain ⟨list_12, hl1, hr⟩ := bindS hr
 refine q_loop (fun (s : (List Int) × Int) a w => ∃ (q4 : Piece), ∃ (s4 : Sl), ∃ list_3, ∃ t_5, s = (list_3, t_5) ∧ Fr a 20 [(1, (.pointer (some ⟨b2, 0, none⟩))), (3, s4.v), (7, (.int .i64 (goLen p_g.Parents))), (8, (.int .i64 t_5))] ∧ St [] w0 w m [q4, [⟨b2, [s1.v], 60⟩]] ∧ OwnL m 3 q4 s4 list_3) (fun (list_12 : (List Int)) e a w => ∃ (q13 : Piece), ∃ (s13 : Sl), e = .exit 0 ∧ Fr a 20 [(3, s13.v)] ∧ St [] w0 w m [q13] ∧ OwnL m 3 q13 s13 list_12) hl1 ⟨[], nilS, _, _, rfl, hF.sub ⟨rfl, rfl, rfl, rfl, trivial⟩, hS.sel [1, 0] (by decide), (OwnL.nil (α := Int) m 3)⟩ ?_ ?_
 ·clear hF hS
  rintro s a w st ⟨q4, s4, list_3, t_5, rfl, hF, hS, h4⟩ hb1
  unfold impl_leavesOf_l1 at hb1
  refine q_seq (q_region (q_x (v := (.bool (decide (t_5 < (goLen p_g.Parents))))) hF hS (ex_ibin rfl rfl rfl) rfl rfl fun a hF => q_end (n_sq (q_seq ?_))))
  rcases bcase (decide (t_5 < (goLen p_g.Parents))) with hc2 | hc2
  ·have hb1 := cond_f hc2 hb1
   refine q_cond_f hF rfl hc2 (q_exit (x_sq ?_))
   obtain rfl := someI hb1
   exact ⟨nofun, .inl ⟨q4, s4, rfl, hF.sub ⟨rfl, trivial⟩, hS.mask [true, false], h4⟩⟩
  ·have hb1 := cond_t hc2 hb1
   refine q_cond_t hF rfl hc2 (q_skipc (n_sq (q_seq (q_block (q_seq (q_region (q_x (v := (.int .i64 t_5)) hF hS (ex_move rfl) rfl rfl fun a hF => q_x (v := (.int .i64 t_5)) hF hS (ex_assign rfl) rfl rfl fun a hF => q_end (n_sq (q_seq (q_region (q_x (v := (.agg #[s1.v])) hF hS (ex_loadA (vs := [s1.v]) 1 0 Tryd.underlying60 rfl sz60 rfl rfl rfl rfl) rfl rfl fun a hF => q_x (v := (.int .i64 t_5)) hF hS (ex_move rfl) rfl rfl fun a hF => ?_)))))))))))
   obtain ⟨t_6, ht_6, hb1⟩ := bindS hb1
   refine q_call (vs := [(.agg #[s1.v]), (.int .i64 t_5)]) hF hS Tryd.func127 (by kernel_rfl) rfl rfl rfl (c_impl_isLeaf p_g t_5 t_6 ht_6 _ m hS.vis s1 h1) ?_
   rintro a w _ rfl hF hS
   refine q_end (n_sq ?_)
   obtain ⟨list_10, hj3, hb1⟩ := bindS hb1
   refine q_join (fun a w => ∃ (q11 : Piece), ∃ (s11 : Sl), Fr a 20 [(1, (.pointer (some ⟨b2, 0, none⟩))), (3, s11.v), (7, (.int .i64 (goLen p_g.Parents))), (8, (.int .i64 t_5))] ∧ St [] w0 w m [q11, [⟨b2, [s1.v], 60⟩]] ∧ OwnL m 3 q11 s11 list_10) ?_ ?_
   ·rcases bcase (t_6) with hc4 | hc4
    ·have hj3 := cond_f hc4 hj3
     refine q_cond_f hF rfl hc4 (q_skipc (n_jn ?_))
     obtain rfl := someI hj3
     exact ⟨q4, s4, hF.sub ⟨rfl, rfl, rfl, rfl, trivial⟩, hS, h4⟩
    ·have hj3 := cond_t hc4 hj3
     refine q_cond_t hF rfl hc4 (q_region (q_x (v := s4.v) hF hS (ex_move rfl) rfl rfl fun a hF => q_x (v := (.int .i64 t_5)) hF hS (ex_move rfl) rfl rfl fun a hF => q_do rfl fun _ hK => wp_buildSlice' (l := ([t_5] : List Int)) (cells := [(.int .i64 t_5)]) hF hS Tryd.underlying42 inf3 rfl rfl (by kernel_rfl) rfl rfl rfl ⟨rfl, rfl⟩ rfl rfl fun a w q7 s7 hF hS h7 _ => hK _ _ ?_))
     have hS : St _ _ _ _ [q4, q7, [⟨b2, [s1.v], 60⟩]] := hS.sel [1, 0, 2] (by decide)
     obtain ⟨l_8, hl_8, hj3⟩ := bindS hj3
     refine q_do rfl fun _ hK => wp_append hF hS h4 Tryd.underlying42 inf3 rfl rfl rfl rfl (h7.vw hS (j := 1) rfl) rfl (by decide) hl_8 rfl fun a w q9 s9 hF hS h9 => hK _ _ (q_x (v := s9.v) hF hS (ex_assign rfl) rfl rfl fun a hF => q_end (n_jn ?_))
     obtain rfl := someI hj3
     exact ⟨q9, s9, hF.sub ⟨rfl, rfl, rfl, rfl, trivial⟩, hS.mask [true, false, true], h9⟩
   ·rintro a w ⟨q11, s11, hF, hS, h11⟩
    refine n_ib (n_sq ?_)
    refine q_region (q_x (v := (.int .i64 (w64 (t_5 + 1)))) hF hS (ex_ibin rfl rfl rfl) rfl rfl fun a hF => q_x (v := (.int .i64 (w64 (t_5 + 1)))) hF hS (ex_move rfl) rfl rfl fun a hF => q_end ?_)
    obtain rfl := someI hb1
    exact ⟨rfl, q11, s11, _, _, rfl, hF.sub ⟨rfl, rfl, rfl, rfl, trivial⟩, hS, h11⟩
 ·rintro e a w ⟨q13, s13, rfl, hF, hS, h13⟩
  refine x_ib (n_sq ?_)
  refine q_seq (q_region (q_x (v := s13.v) hF hS (ex_move rfl) rfl rfl fun a hF => q_x (v := s13.v) hF hS (ex_assign rfl) rfl rfl fun a hF => q_end (n_sq (q_ret ?_))))
  obtain rfl := someI hr
  exact ret_of hF hS rfl (.tmp rfl .nil) ⟨q13, s13, rfl, hS.sel [0] (by decide), h13⟩

theorem c_impl_LeavesOf (p_g : impl_Geo) (r : (List Int) × Bool) (hr : impl_LeavesOf p_g = some r) (w0 : World) (m : Mem) (hv : Vis m w0) (s1 : Sl) (h1 : Rd m s1 p_g.Parents) :
  Ret Tryd.prog 40 [(.agg #[s1.v])] w0 (fun v w => ∃ (q0' : Piece) (s0' : Sl), v = (.tuple #[s0'.v, (.bool r.2)]) ∧ St [] w0 w m [q0'] ∧ OwnL m 3 q0' s0' r.1) := by
 unfold impl_LeavesOf at hr
 refine ret_start Tryd.func40 rfl 9 rfl rfl m hv fun a hF hS => q_seq (q_region (q_box (cs := [s1.v]) hF hS rfl rfl rfl fun a w b2 hF hS => q_x (v := nilS.v) hF hS (ex_assign rfl) rfl rfl fun a hF => q_x (v := (.bool false)) hF hS (ex_assign rfl) rfl rfl fun a hF => q_end (n_sq (q_seq (q_seq (q_region (q_x (v := (.agg #[s1.v])) hF hS (ex_loadA (vs := [s1.v]) 0 0 Tryd.underlying60 rfl sz60 rfl rfl rfl rfl) rfl rfl fun a hF => ?_)))))))
 obtain ⟨t_3, ht_3, hr⟩ := bindS hr
 refine q_call (vs := [(.agg #[s1.v])]) hF hS Tryd.func37 (by kernel_rfl) rfl rfl rfl (c_impl_IsGeo p_g t_3 ht_3 _ m hS.vis s1 h1) ?_
 rintro a w _ rfl hF hS
 refine q_x (v := (.bool (!t_3))) hF hS (ex_not rfl) rfl rfl fun a hF => q_end (n_sq ?_)
 rcases bcase (!t_3) with hc1 | hc1
 ·have hr := cond_f hc1 hr
  refine q_cond_f hF rfl hc1 (q_skipc (n_sq (q_seq (q_region (q_x (v := (.agg #[s1.v])) hF hS (ex_loadA (vs := [s1.v]) 0 0 Tryd.underlying60 rfl sz60 rfl rfl rfl rfl) rfl rfl fun a hF => ?_)))))
  obtain ⟨t_4, ht_4, hr⟩ := bindS hr
  refine q_call (vs := [(.agg #[s1.v])]) hF hS Tryd.func95 (by kernel_rfl) rfl rfl rfl (c_impl_leavesOf p_g t_4 ht_4 _ m hS.vis s1 h1) ?_
  rintro a w _ ⟨q6, s6, rfl, hR5, h6⟩ hF hS2
  have hS : St _ _ _ _ [q6, [⟨b2, [s1.v], 60⟩]] := hS.joinF hR5
  refine q_x (v := s6.v) hF hS (ex_assign rfl) rfl rfl fun a hF => q_x (v := (.bool true)) hF hS (ex_assign rfl) rfl rfl fun a hF => q_end (n_sq (q_ret ?_))
  obtain rfl := someI hr
  exact ret_of hF hS rfl (.tmp rfl (.tmp rfl .nil)) ⟨q6, s6, rfl, hS.sel [0] (by decide), h6⟩
 ·have hr := cond_t hc1 hr
  refine q_cond_t hF rfl hc1 (q_seq (q_region (q_x (v := nilS.v) hF hS (ex_assign rfl) rfl rfl fun a hF => q_x (v := (.bool false)) hF hS (ex_assign rfl) rfl rfl fun a hF => q_end (n_sq (q_ret (r_sq ?_))))))
  obtain rfl := someI hr
  exact ret_of hF hS rfl (.tmp rfl (.tmp rfl .nil)) ⟨[], nilS, rfl, hS.sel [1] (by decide), (OwnL.nil (α := Int) m 3)⟩

theorem c_spec_gLeaves (p_g : impl_Geo) (r : (List Int)) (hr : spec_gLeaves p_g = some r) (w0 : World) (m : Mem) (hv : Vis m w0) (s1 : Sl) (h1 : Rd m s1 p_g.Parents) :
  Ret Tryd.prog 96 [(.agg #[s1.v])] w0 (fun v w => ∃ (q0' : Piece) (s0' : Sl), v = s0'.v ∧ St [] w0 w m [q0'] ∧ OwnL m 3 q0' s0' r) := by
 unfold spec_gLeaves at hr
 refine ret_start Tryd.func96 rfl 22 rfl rfl m hv fun a hF hS => q_seq (q_region (q_box (cs := [s1.v]) hF hS rfl rfl rfl fun a w b2 hF hS => q_x (v := nilS.v) hF hS (ex_assign rfl) rfl rfl fun a hF => q_end (n_sq (q_seq (q_region (q_x (v := nilS.v) hF hS (ex_assign rfl) rfl rfl fun a hF => q_end (n_sq (q_seq (q_seq (q_region (q_x (v := (.pointer (some ⟨b2, 0, none⟩))) hF hS (ex_fieldAddr Tryd.underlying60 rfl sz42 rfl rfl) rfl rfl fun a hF => q_x (v := s1.v) hF hS (ex_load1 0 0 Tryd.underlying42 rfl rfl rfl rfl) rfl rfl fun a hF => q_x (v := (.int .i64 (goLen p_g.Parents))) hF hS (ex_len Tryd.underlying42 rfl h1.len) rfl rfl fun a hF => q_x (v := (.int .i64 0)) hF hS (ex_move rfl) rfl rfl fun a hF => q_end (n_sq (q_block ?_)))))))))))))
 obtain ⟨out_14, hl1, hr⟩ := bindS hr
 refine q_loop (fun (s : (List Int) × Int) a w => ∃ (q4 : Piece), ∃ (s4 : Sl), ∃ out_3, ∃ t_5, s = (out_3, t_5) ∧ Fr a 22 [(1, (.pointer (some ⟨b2, 0, none⟩))), (3, s4.v), (7, (.int .i64 (goLen p_g.Parents))), (8, (.int .i64 t_5))] ∧ St [] w0 w m [q4, [⟨b2, [s1.v], 60⟩]] ∧ OwnL m 3 q4 s4 out_3) (fun (out_14 : (List Int)) e a w => ∃ (q15 : Piece), ∃ (s15 : Sl), e = .exit 0 ∧ Fr a 22 [(3, s15.v)] ∧ St [] w0 w m [q15] ∧ OwnL m 3 q15 s15 out_14) hl1 ⟨[], nilS, _, _, rfl, hF.sub ⟨rfl, rfl, rfl, rfl, trivial⟩, hS.sel [1, 0] (by decide), (OwnL.nil (α := Int) m 3)⟩ ?_ ?_
 ·clear hF hS
  rintro s a w st ⟨q4, s4, out_3, t_5, rfl, hF, hS, h4⟩ hb1
  unfold spec_gLeaves_l1 at hb1
  refine q_seq (q_region (q_x (v := (.bool (decide (t_5 < (goLen p_g.Parents))))) hF hS (ex_ibin rfl rfl rfl) rfl rfl fun a hF => q_end (n_sq (q_seq ?_))))
  rcases bcase (decide (t_5 < (goLen p_g.Parents))) with hc2 | hc2
  ·have hb1 := cond_f hc2 hb1
   refine q_cond_f hF rfl hc2 (q_exit (x_sq ?_))
   obtain rfl := someI hb1
   exact ⟨nofun, .inl ⟨q4, s4, rfl, hF.sub ⟨rfl, trivial⟩, hS.mask [true, false], h4⟩⟩
  ·have hb1 := cond_t hc2 hb1
   refine q_cond_t hF rfl hc2 (q_skipc (n_sq (q_seq (q_block (q_seq (q_region (q_x (v := (.int .i64 t_5)) hF hS (ex_move rfl) rfl rfl fun a hF => q_x (v := (.int .i64 t_5)) hF hS (ex_assign rfl) rfl rfl fun a hF => q_end (n_sq (q_seq (q_region (q_x (v := (.agg #[s1.v])) hF hS (ex_loadA (vs := [s1.v]) 1 0 Tryd.underlying60 rfl sz60 rfl rfl rfl rfl) rfl rfl fun a hF => q_x (v := (.int .i64 t_5)) hF hS (ex_move rfl) rfl rfl fun a hF => ?_)))))))))))
   obtain ⟨t_6, ht_6, hb1⟩ := bindS hb1
   refine q_call (vs := [(.agg #[s1.v]), (.int .i64 t_5)]) hF hS Tryd.func126 (by kernel_rfl) rfl rfl rfl (c_spec_gChildren p_g t_5 t_6 ht_6 _ m hS.vis s1 h1) ?_
   rintro a w _ ⟨q8, s8, rfl, hR7, h8⟩ hF hS2
   have hS : St _ _ _ _ [q8, q4, [⟨b2, [s1.v], 60⟩]] := hS.joinF hR7
   refine q_x (v := (.int .i64 (goLen t_6))) hF hS (ex_len Tryd.underlying42 rfl h8.len) rfl rfl fun a hF => q_x (v := (.bool ((goLen t_6) == 0))) hF hS (ex_ibin rfl rfl rfl) rfl rfl fun a hF => q_end (n_sq ?_)
   obtain ⟨out_12, hj3, hb1⟩ := bindS hb1
   refine q_join (fun a w => ∃ (q13 : Piece), ∃ (s13 : Sl), Fr a 22 [(1, (.pointer (some ⟨b2, 0, none⟩))), (3, s13.v), (7, (.int .i64 (goLen p_g.Parents))), (8, (.int .i64 t_5))] ∧ St [] w0 w m [q13, [⟨b2, [s1.v], 60⟩]] ∧ OwnL m 3 q13 s13 out_12) ?_ ?_
   ·rcases bcase ((goLen t_6) == 0) with hc4 | hc4
    ·have hj3 := cond_f hc4 hj3
     refine q_cond_f hF rfl hc4 (q_skipc (n_jn ?_))
     obtain rfl := someI hj3
     exact ⟨q4, s4, hF.sub ⟨rfl, rfl, rfl, rfl, trivial⟩, hS.mask [false, true, true], h4⟩
    ·have hj3 := cond_t hc4 hj3
     refine q_cond_t hF rfl hc4 (q_region (q_x (v := s4.v) hF hS (ex_move rfl) rfl rfl fun a hF => q_x (v := (.int .i64 t_5)) hF hS (ex_move rfl) rfl rfl fun a hF => q_do rfl fun _ hK => wp_buildSlice' (l := ([t_5] : List Int)) (cells := [(.int .i64 t_5)]) hF hS Tryd.underlying42 inf3 rfl rfl (by kernel_rfl) rfl rfl rfl ⟨rfl, rfl⟩ rfl rfl fun a w q9 s9 hF hS h9 _ => hK _ _ ?_))
     have hS : St _ _ _ _ [q4, q9, q8, [⟨b2, [s1.v], 60⟩]] := hS.sel [2, 0, 1, 3] (by decide)
     obtain ⟨l_10, hl_10, hj3⟩ := bindS hj3
     refine q_do rfl fun _ hK => wp_append hF hS h4 Tryd.underlying42 inf3 rfl rfl rfl rfl (h9.vw hS (j := 1) rfl) rfl (by decide) hl_10 rfl fun a w q11 s11 hF hS h11 => hK _ _ (q_x (v := s11.v) hF hS (ex_assign rfl) rfl rfl fun a hF => q_end (n_jn ?_))
     obtain rfl := someI hj3
     exact ⟨q11, s11, hF.sub ⟨rfl, rfl, rfl, rfl, trivial⟩, hS.mask [true, false, false, true], h11⟩
   ·rintro a w ⟨q13, s13, hF, hS, h13⟩
    refine n_ib (n_sq ?_)
    refine q_region (q_x (v := (.int .i64 (w64 (t_5 + 1)))) hF hS (ex_ibin rfl rfl rfl) rfl rfl fun a hF => q_x (v := (.int .i64 (w64 (t_5 + 1)))) hF hS (ex_move rfl) rfl rfl fun a hF => q_end ?_)
    obtain rfl := someI hb1
    exact ⟨rfl, q13, s13, _, _, rfl, hF.sub ⟨rfl, rfl, rfl, rfl, trivial⟩, hS, h13⟩
 ·rintro e a w ⟨q15, s15, rfl, hF, hS, h15⟩
  refine x_ib (n_sq ?_)
  refine q_seq (q_region (q_x (v := s15.v) hF hS (ex_move rfl) rfl rfl fun a hF => q_x (v := s15.v) hF hS (ex_assign rfl) rfl rfl fun a hF => q_end (n_sq (q_ret ?_))))
  obtain rfl := someI hr
  exact ret_of hF hS rfl (.tmp rfl .nil) ⟨q15, s15, rfl, hS.sel [0] (by decide), h15⟩

theorem c_spec_LeavesOf (p_g : impl_Geo) (r : (List Int) × Bool) (hr : spec_LeavesOf p_g = some r) (w0 : World) (m : Mem) (hv : Vis m w0) (s1 : Sl) (h1 : Rd m s1 p_g.Parents) :
  Ret Tryd.prog 41 [(.agg #[s1.v])] w0 (fun v w => ∃ (q0' : Piece) (s0' : Sl), v = (.tuple #[s0'.v, (.bool r.2)]) ∧ St [] w0 w m [q0'] ∧ OwnL m 3 q0' s0' r.1) := by
 unfold spec_LeavesOf at hr
 refine ret_start Tryd.func41 rfl 9 rfl rfl m hv fun a hF hS => q_seq (q_region (q_box (cs := [s1.v]) hF hS rfl rfl rfl fun a w b2 hF hS => q_x (v := nilS.v) hF hS (ex_assign rfl) rfl rfl fun a hF => q_x (v := (.bool false)) hF hS (ex_assign rfl) rfl rfl fun a hF => q_end (n_sq (q_seq (q_seq (q_region (q_x (v := (.agg #[s1.v])) hF hS (ex_loadA (vs := [s1.v]) 0 0 Tryd.underlying60 rfl sz60 rfl rfl rfl rfl) rfl rfl fun a hF => ?_)))))))
 obtain ⟨t_3, ht_3, hr⟩ := bindS hr
 refine q_call (vs := [(.agg #[s1.v])]) hF hS Tryd.func92 (by kernel_rfl) rfl rfl rfl (c_spec_gGood p_g t_3 ht_3 _ m hS.vis s1 h1) ?_
 rintro a w _ rfl hF hS
 refine q_x (v := (.bool (!t_3))) hF hS (ex_not rfl) rfl rfl fun a hF => q_end (n_sq ?_)
 rcases bcase (!t_3) with hc1 | hc1
 ·have hr := cond_f hc1 hr
  refine q_cond_f hF rfl hc1 (q_skipc (n_sq (q_seq (q_region (q_x (v := (.agg #[s1.v])) hF hS (ex_loadA (vs := [s1.v]) 0 0 Tryd.underlying60 rfl sz60 rfl rfl rfl rfl) rfl rfl fun a hF => ?_)))))
  obtain ⟨t_4, ht_4, hr⟩ := bindS hr
  refine q_call (vs := [(.agg #[s1.v])]) hF hS Tryd.func96 (by kernel_rfl) rfl rfl rfl (c_spec_gLeaves p_g t_4 ht_4 _ m hS.vis s1 h1) ?_
  rintro a w _ ⟨q6, s6, rfl, hR5, h6⟩ hF hS2
  have hS : St _ _ _ _ [q6, [⟨b2, [s1.v], 60⟩]] := hS.joinF hR5
  refine q_x (v := s6.v) hF hS (ex_assign rfl) rfl rfl fun a hF => q_x (v := (.bool true)) hF hS (ex_assign rfl) rfl rfl fun a hF => q_end (n_sq (q_ret ?_))
  obtain rfl := someI hr
  exact ret_of hF hS rfl (.tmp rfl (.tmp rfl .nil)) ⟨q6, s6, rfl, hS.sel [0] (by decide), h6⟩
 ·have hr := cond_t hc1 hr
  refine q_cond_t hF rfl hc1 (q_seq (q_region (q_x (v := nilS.v) hF hS (ex_assign rfl) rfl rfl fun a hF => q_x (v := (.bool false)) hF hS (ex_assign rfl) rfl rfl fun a hF => q_end (n_sq (q_ret (r_sq ?_))))))
  obtain rfl := someI hr
  exact ret_of hF hS rfl (.tmp rfl (.tmp rfl .nil)) ⟨[], nilS, rfl, hS.sel [1] (by decide), (OwnL.nil (α := Int) m 3)⟩

theorem c_impl_depthOf (p_g : impl_Geo) (p_i : Int) (r : Int) (hr : impl_depthOf p_g p_i = some r) (w0 : World) (m : Mem) (hv : Vis m w0) (s1 : Sl) (h1 : Rd m s1 p_g.Parents) :
  Ret Tryd.prog 128 [(.agg #[s1.v]), (.int .i64 p_i)] w0 (fun v _ => v = (.int .i64 r)) := by
 unfold impl_depthOf at hr
 refine ret_start Tryd.func128 rfl 16 rfl rfl m hv fun a hF hS => q_seq (q_region (q_box (cs := [s1.v]) hF hS rfl rfl rfl fun a w b2 hF hS => q_x (v := (.int .i64 0)) hF hS (ex_assign rfl) rfl rfl fun a hF => q_end (n_sq (q_seq (q_region (q_x (v := (.int .i64 0)) hF hS (ex_assign rfl) rfl rfl fun a hF => q_end (n_sq (q_seq (q_block ?_)))))))))
 obtain ⟨d_7, hl1, hr⟩ := bindS hr
 refine q_loop (fun (s : Int × Int) a w => ∃ i_3, ∃ d_4, s = (i_3, d_4) ∧ Fr a 16 [(1, (.int .i64 i_3)), (2, (.pointer (some ⟨b2, 0, none⟩))), (5, (.int .i64 d_4))] ∧ St [] w0 w m [[⟨b2, [s1.v], 60⟩]]) (fun (d_7 : Int) e a w => e = .exit 0 ∧ Fr a 16 [(5, (.int .i64 d_7))] ∧ St [] w0 w m []) hl1 ⟨_, _, rfl, hF.sub ⟨rfl, rfl, rfl, trivial⟩, hS⟩ ?_ ?_
 ·clear hF hS
  rintro s a w st ⟨i_3, d_4, rfl, hF, hS⟩ hb1
  unfold impl_depthOf_l1 at hb1
  refine q_seq (q_seq (q_region (q_x (v := (.int .i64 i_3)) hF hS (ex_move rfl) rfl rfl fun a hF => q_x (v := (.bool (decide (0 < i_3)))) hF hS (ex_ibin rfl rfl rfl) rfl rfl fun a hF => q_end (n_sq ?_))))
  rcases bcase (decide (0 < i_3)) with hc2 | hc2
  ·have hb1 := cond_f hc2 hb1
   refine q_cond_f hF rfl hc2 (q_exit (x_sq ?_))
   obtain rfl := someI hb1
   exact ⟨nofun, .inl ⟨rfl, hF.sub ⟨rfl, trivial⟩, hS.mask [false]⟩⟩
  ·have hb1 := cond_t hc2 hb1
   refine q_cond_t hF rfl hc2 (q_skipc (n_sq (q_block (q_seq (q_region (q_x (v := (.pointer (some ⟨b2, 0, none⟩))) hF hS (ex_fieldAddr Tryd.underlying60 rfl sz42 rfl rfl) rfl rfl fun a hF => q_x (v := s1.v) hF hS (ex_load1 0 0 Tryd.underlying42 rfl rfl rfl rfl) rfl rfl fun a hF => q_x (v := (.int .i64 i_3)) hF hS (ex_move rfl) rfl rfl fun a hF => ?_))))))
   obtain ⟨e_5, he_5, hb1⟩ := bindS hb1
   obtain ⟨vs6, at6, d6⟩ := h1.at he_5 1 rfl
   obtain rfl : vs6 = [(.int .i64 e_5)] := d6
   refine q_x (v := (elP s1 (i_3.toNat * 1))) hF hS (ex_indexAddr Tryd.underlying42 sz3 rfl rfl (h1.idx he_5)) rfl rfl fun a hF => q_x (v := (.int .i64 e_5)) hF hS (ex_loadE1 0 Tryd.underlying3 rfl rfl ((at6).at) rfl rfl) rfl rfl fun a hF => q_x (v := (.int .i64 e_5)) hF hS (ex_assign rfl) rfl rfl fun a hF => q_end (n_sq (q_region (q_x (v := (.int .i64 d_4)) hF hS (ex_move rfl) rfl rfl fun a hF => q_x (v := (.int .i64 (w64 (d_4 + 1)))) hF hS (ex_ibin rfl rfl rfl) rfl rfl fun a hF => q_x (v := (.int .i64 (w64 (d_4 + 1)))) hF hS (ex_assign rfl) rfl rfl fun a hF => q_end (n_ib ?_))))
   obtain rfl := someI hb1
   exact ⟨rfl, _, _, rfl, hF.sub ⟨rfl, rfl, rfl, trivial⟩, hS⟩
 ·rintro e a w ⟨rfl, hF, hS⟩
  refine x_ib (n_sq ?_)
  refine q_seq (q_region (q_x (v := (.int .i64 d_7)) hF hS (ex_move rfl) rfl rfl fun a hF => q_x (v := (.int .i64 d_7)) hF hS (ex_assign rfl) rfl rfl fun a hF => q_end (n_sq (q_ret ?_))))
  obtain rfl := someI hr
  exact ret_of hF hS rfl (.tmp rfl .nil) rfl

end Go.Proofs.YtgaeknajcakinaaDoor
