/- The walks of the functions: each returns what its plain function says. -/
import Derived.Test.YtebjhiflnemkhaaGreatDoorDDefs
import Derived.Test.YtebjhiflnemkhaaGreatDoorRows
import Derived.Test.YtebjhiflnemkhaaGreatDoorDItoa
namespace Go.Proofs.YtebjhiflnemkhaaGreatDoor
open Go.Gx Go.Gx.F Go.RowKit
set_option linter.all false
set_option maxRecDepth 10000

theorem mixed : Tryz.prog.follows .mixedOrders = true := by kernel_rfl
theorem inf3 : inf Tryz.prog 3 = some (1, 8, [(.int .i64 0)]) := by kernel_rfl
theorem inf5 : inf Tryz.prog 5 = some (1, 1, [(.int .u8 0)]) := by kernel_rfl
theorem inf9 : inf Tryz.prog 9 = some (1, 16, [(strV ([] : List UInt8))]) := by kernel_rfl
theorem inf42 : inf Tryz.prog 42 = some (3, 40, [(.int .i64 0), (.int .i64 0), nilS.v]) := by kernel_rfl
theorem inf44 : inf Tryz.prog 44 = some (3, 40, [(.int .i64 0), (.int .i64 0), nilS.v]) := by kernel_rfl
theorem inf83 : inf Tryz.prog 83 = some (2, 24, [(strV ([] : List UInt8)), (.int .i64 0)]) := by kernel_rfl
theorem sz3 : szOf Tryz.prog 3 = some 1 := by kernel_rfl
theorem sz5 : szOf Tryz.prog 5 = some 1 := by kernel_rfl
theorem sz9 : szOf Tryz.prog 9 = some 1 := by kernel_rfl
theorem sz22 : szOf Tryz.prog 22 = some 1 := by kernel_rfl
theorem sz40 : szOf Tryz.prog 40 = some 1 := by kernel_rfl
theorem sz42 : szOf Tryz.prog 42 = some 3 := by kernel_rfl
theorem sz44 : szOf Tryz.prog 44 = some 3 := by kernel_rfl
theorem sz51 : szOf Tryz.prog 51 = some 1 := by kernel_rfl
theorem sz83 : szOf Tryz.prog 83 = some 2 := by kernel_rfl

theorem c_spec_l1Cur_next (p_c : spec_l1Cur) (r : Int × spec_l1Cur) (hr : spec_l1Cur_next p_c = some r) (w0 : World) (m : Mem) (b_p_c : Nat) (s1 : Sl) (h1 : Rd m s1 p_c.code) (X : List Nat) (hS : St X w0 w0 m [[⟨b_p_c, [s1.v, (.int .i64 p_c.at_), (.int .u64 p_c.seed.v)], 53⟩]]) :
  RetX Tryz.prog 77 [(.pointer (some ⟨b_p_c, 0, none⟩))] w0 (fun v w => v = (.int .i64 r.1) ∧ St X w0 w m [[⟨b_p_c, [s1.v, (.int .i64 r.2.at_), (.int .u64 r.2.seed.v)], 53⟩]] ∧ r.2.code = p_c.code) := by
 unfold spec_l1Cur_next at hr
 refine ret_startX Tryz.func77 rfl 62 rfl rfl fun a hF => q_seq (q_region (q_x (v := (.int .i64 0)) hF hS (ex_assign rfl) rfl rfl fun a hF => q_end (n_sq (q_seq (q_region (q_x (v := (.int .i64 0)) hF hS (ex_assign rfl) rfl rfl fun a hF => q_end (n_sq (q_seq (q_seq (e_region ⟨[], []⟩ mixed fun w' hw' => ?_))))))))))
 have hS := hS.below hw'
 refine e_p (v := (.pointer (some ⟨b_p_c, 0, none⟩))) 0 hF rfl (ex_move rfl) rfl rfl (by kernel_rfl) (by kernel_rfl) (by kernel_rfl) fun a hF => e_p (v := (.pointer (some ⟨b_p_c, 0, none⟩))) 1 hF rfl (ex_nilCheck rfl) rfl rfl (by kernel_rfl) (by kernel_rfl) (by kernel_rfl) fun a hF => e_p (v := (.pointer (some ⟨b_p_c, 1, none⟩))) 2 hF rfl (ex_fieldAddr Tryz.underlying53 rfl sz3 rfl rfl) rfl rfl (by kernel_rfl) (by kernel_rfl) (by kernel_rfl) fun a hF => e_x (v := (.int .i64 p_c.at_)) 3 hF hS rfl (ex_load1 0 0 Tryz.underlying3 rfl rfl rfl rfl) rfl rfl (by kernel_rfl) (by kernel_rfl) (by kernel_rfl) (by kernel_rfl) fun a hF => e_p (v := (.pointer (some ⟨b_p_c, 0, none⟩))) 4 hF rfl (ex_move rfl) rfl rfl (by kernel_rfl) (by kernel_rfl) (by kernel_rfl) fun a hF => e_p (v := (.pointer (some ⟨b_p_c, 0, none⟩))) 5 hF rfl (ex_nilCheck rfl) rfl rfl (by kernel_rfl) (by kernel_rfl) (by kernel_rfl) fun a hF => e_p (v := (.pointer (some ⟨b_p_c, 0, none⟩))) 6 hF rfl (ex_fieldAddr Tryz.underlying53 rfl sz22 rfl rfl) rfl rfl (by kernel_rfl) (by kernel_rfl) (by kernel_rfl) fun a hF => e_x (v := s1.v) 7 hF hS rfl (ex_load1 0 0 Tryz.underlying22 rfl rfl rfl rfl) rfl rfl (by kernel_rfl) (by kernel_rfl) (by kernel_rfl) (by kernel_rfl) fun a hF => e_p (v := (.int .i64 (goLen p_c.code))) 8 hF rfl (ex_len Tryz.underlying22 rfl h1.len) rfl rfl (by kernel_rfl) (by kernel_rfl) (by kernel_rfl) fun a hF => e_p (v := (.bool (decide (p_c.at_ < (goLen p_c.code))))) 9 hF rfl (ex_ibin rfl rfl rfl) rfl rfl (by kernel_rfl) (by kernel_rfl) (by kernel_rfl) fun a hF => e_end (by kernel_rfl) (n_sq ?_) _
 obtain ⟨b_4, hj1, hr⟩ := bindS hr
 refine q_join (fun a w => Fr a 62 [(0, (.pointer (some ⟨b_p_c, 0, none⟩))), (3, (.int .i64 b_4))] ∧ St X w0 w m [[⟨b_p_c, [s1.v, (.int .i64 p_c.at_), (.int .u64 p_c.seed.v)], 53⟩]]) ?_ ?_
 ·rcases bcase (decide (p_c.at_ < (goLen p_c.code))) with hc2 | hc2
  ·have hj1 := cond_f hc2 hj1
   refine q_cond_f hF rfl hc2 (q_skipc (n_jn ?_))
   obtain rfl := someI hj1
   exact ⟨hF.sub ⟨rfl, rfl, trivial⟩, hS⟩
  ·have hj1 := cond_t hc2 hj1
   refine q_cond_t hF rfl hc2 (e_region ⟨[], []⟩ mixed fun w' hw' => ?_)
   have hS := hS.below hw'
   refine e_p (v := (.pointer (some ⟨b_p_c, 0, none⟩))) 0 hF rfl (ex_move rfl) rfl rfl (by kernel_rfl) (by kernel_rfl) (by kernel_rfl) fun a hF => e_p (v := (.pointer (some ⟨b_p_c, 0, none⟩))) 1 hF rfl (ex_nilCheck rfl) rfl rfl (by kernel_rfl) (by kernel_rfl) (by kernel_rfl) fun a hF => e_p (v := (.pointer (some ⟨b_p_c, 0, none⟩))) 2 hF rfl (ex_fieldAddr Tryz.underlying53 rfl sz22 rfl rfl) rfl rfl (by kernel_rfl) (by kernel_rfl) (by kernel_rfl) fun a hF => e_x (v := s1.v) 3 hF hS rfl (ex_load1 0 0 Tryz.underlying22 rfl rfl rfl rfl) rfl rfl (by kernel_rfl) (by kernel_rfl) (by kernel_rfl) (by kernel_rfl) fun a hF => e_p (v := (.pointer (some ⟨b_p_c, 0, none⟩))) 4 hF rfl (ex_move rfl) rfl rfl (by kernel_rfl) (by kernel_rfl) (by kernel_rfl) fun a hF => e_p (v := (.pointer (some ⟨b_p_c, 0, none⟩))) 5 hF rfl (ex_nilCheck rfl) rfl rfl (by kernel_rfl) (by kernel_rfl) (by kernel_rfl) fun a hF => e_p (v := (.pointer (some ⟨b_p_c, 1, none⟩))) 6 hF rfl (ex_fieldAddr Tryz.underlying53 rfl sz3 rfl rfl) rfl rfl (by kernel_rfl) (by kernel_rfl) (by kernel_rfl) fun a hF => e_x (v := (.int .i64 p_c.at_)) 7 hF hS rfl (ex_load1 0 0 Tryz.underlying3 rfl rfl rfl rfl) rfl rfl (by kernel_rfl) (by kernel_rfl) (by kernel_rfl) (by kernel_rfl) fun a hF => ?_
   obtain ⟨e_2, he_2, hj1⟩ := bindS hj1
   obtain ⟨vs3, at3, d3⟩ := h1.at he_2 1 rfl
   obtain rfl : vs3 = [(.int .u8 e_2.v)] := d3
   refine e_p (v := (elP s1 (p_c.at_.toNat * 1))) 8 hF rfl (ex_indexAddr Tryz.underlying22 sz5 rfl rfl (h1.idx he_2)) rfl rfl (by kernel_rfl) (by kernel_rfl) (by kernel_rfl) fun a hF => e_x (v := (.int .u8 e_2.v)) 9 hF hS rfl (ex_loadE1 0 Tryz.underlying5 rfl rfl ((at3).at) rfl rfl) rfl rfl (by kernel_rfl) (by kernel_rfl) (by kernel_rfl) (by kernel_rfl) fun a hF => e_p (v := (.int .i64 (w64 e_2.v))) 10 hF rfl (ex_conv Tryz.underlying5 Tryz.underlying3 rfl) rfl rfl (by kernel_rfl) (by kernel_rfl) (by kernel_rfl) fun a hF => e_p (v := (.int .i64 (w64 e_2.v))) 11 hF rfl (ex_assign rfl) rfl rfl (by kernel_rfl) (by kernel_rfl) (by kernel_rfl) fun a hF => e_end (by kernel_rfl) (n_jn ?_) _
   obtain rfl := someI hj1
   exact ⟨hF.sub ⟨rfl, rfl, trivial⟩, hS⟩
 ·rintro a w ⟨hF, hS⟩
  refine n_sq ?_
  refine q_seq (q_region (q_x (v := (.pointer (some ⟨b_p_c, 0, none⟩))) hF hS (ex_move rfl) rfl rfl fun a hF => q_x (v := (.pointer (some ⟨b_p_c, 0, none⟩))) hF hS (ex_nilCheck rfl) rfl rfl fun a hF => q_x (v := (.pointer (some ⟨b_p_c, 1, none⟩))) hF hS (ex_fieldAddr Tryz.underlying53 rfl sz3 rfl rfl) rfl rfl fun a hF => q_x (v := (.int .i64 p_c.at_)) hF hS (ex_load1 0 0 Tryz.underlying3 rfl rfl rfl rfl) rfl rfl fun a hF => q_x (v := (.int .i64 (w64 (p_c.at_ + 1)))) hF hS (ex_ibin rfl rfl rfl) rfl rfl fun a hF => q_x (v := (.pointer (some ⟨b_p_c, 0, none⟩))) hF hS (ex_nilCheck rfl) rfl rfl fun a hF => q_x (v := (.pointer (some ⟨b_p_c, 1, none⟩))) hF hS (ex_fieldAddr Tryz.underlying53 rfl sz3 rfl rfl) rfl rfl fun a hF => q_store (vs := [(.int .i64 (w64 (p_c.at_ + 1)))]) (cs' := [s1.v, (.int .i64 (w64 (p_c.at_ + 1))), (.int .u64 p_c.seed.v)]) 0 0 hF hS sz3 rfl rfl rfl rfl rfl rfl rfl rfl fun a w hF hS => q_end (n_sq (q_seq (q_region (q_x (v := (.pointer (some ⟨b_p_c, 0, none⟩))) hF hS (ex_move rfl) rfl rfl fun a hF => q_x (v := (.pointer (some ⟨b_p_c, 0, none⟩))) hF hS (ex_move rfl) rfl rfl fun a hF => q_x (v := (.pointer (some ⟨b_p_c, 0, none⟩))) hF hS (ex_nilCheck rfl) rfl rfl fun a hF => q_x (v := (.pointer (some ⟨b_p_c, 2, none⟩))) hF hS (ex_fieldAddr Tryz.underlying53 rfl sz51 rfl rfl) rfl rfl fun a hF => q_x (v := (.int .u64 p_c.seed.v)) hF hS (ex_load1 0 0 Tryz.underlying51 rfl rfl rfl rfl) rfl rfl fun a hF => q_x (v := (.int .u64 (IntKind.wrap .u64 (p_c.seed.v * 6364136223846793005)))) hF hS (ex_ibin rfl rfl rfl) rfl rfl fun a hF => q_x (v := (.int .i64 b_4)) hF hS (ex_move rfl) rfl rfl fun a hF => q_x (v := (.int .u64 (IntKind.wrap .u64 b_4))) hF hS (ex_conv Tryz.underlying3 Tryz.underlying51 rfl) rfl rfl fun a hF => q_x (v := (.int .u64 (IntKind.wrap .u64 ((IntKind.wrap .u64 (p_c.seed.v * 6364136223846793005)) + (IntKind.wrap .u64 b_4))))) hF hS (ex_ibin rfl rfl rfl) rfl rfl fun a hF => q_x (v := (.int .u64 (IntKind.wrap .u64 ((IntKind.wrap .u64 ((IntKind.wrap .u64 (p_c.seed.v * 6364136223846793005)) + (IntKind.wrap .u64 b_4))) + 1442695040888963407)))) hF hS (ex_ibin rfl rfl rfl) rfl rfl fun a hF => q_x (v := (.pointer (some ⟨b_p_c, 0, none⟩))) hF hS (ex_nilCheck rfl) rfl rfl fun a hF => q_x (v := (.pointer (some ⟨b_p_c, 2, none⟩))) hF hS (ex_fieldAddr Tryz.underlying53 rfl sz51 rfl rfl) rfl rfl fun a hF => ?_))))))
  refine q_store (vs := [(.int .u64 (IntKind.wrap .u64 ((IntKind.wrap .u64 ((IntKind.wrap .u64 (p_c.seed.v * 6364136223846793005)) + (IntKind.wrap .u64 b_4))) + 1442695040888963407)))]) (cs' := [s1.v, (.int .i64 (w64 (p_c.at_ + 1))), (.int .u64 (IntKind.wrap .u64 ((IntKind.wrap .u64 ((IntKind.wrap .u64 (p_c.seed.v * 6364136223846793005)) + (IntKind.wrap .u64 b_4))) + 1442695040888963407)))]) 0 0 hF hS sz51 rfl rfl rfl rfl rfl rfl rfl rfl fun a w hF hS => q_end (n_sq (q_seq (q_seq (e_region ⟨[], []⟩ mixed fun w' hw' => ?_))))
  have hS := hS.below hw'
  refine e_p (v := (.pointer (some ⟨b_p_c, 0, none⟩))) 0 hF rfl (ex_move rfl) rfl rfl (by kernel_rfl) (by kernel_rfl) (by kernel_rfl) fun a hF => e_p (v := (.pointer (some ⟨b_p_c, 0, none⟩))) 1 hF rfl (ex_nilCheck rfl) rfl rfl (by kernel_rfl) (by kernel_rfl) (by kernel_rfl) fun a hF => e_p (v := (.pointer (some ⟨b_p_c, 1, none⟩))) 2 hF rfl (ex_fieldAddr Tryz.underlying53 rfl sz3 rfl rfl) rfl rfl (by kernel_rfl) (by kernel_rfl) (by kernel_rfl) fun a hF => e_x (v := (.int .i64 (w64 (p_c.at_ + 1)))) 3 hF hS rfl (ex_load1 0 0 Tryz.underlying3 rfl rfl rfl rfl) rfl rfl (by kernel_rfl) (by kernel_rfl) (by kernel_rfl) (by kernel_rfl) fun a hF => e_p (v := (.pointer (some ⟨b_p_c, 0, none⟩))) 4 hF rfl (ex_move rfl) rfl rfl (by kernel_rfl) (by kernel_rfl) (by kernel_rfl) fun a hF => e_p (v := (.pointer (some ⟨b_p_c, 0, none⟩))) 5 hF rfl (ex_nilCheck rfl) rfl rfl (by kernel_rfl) (by kernel_rfl) (by kernel_rfl) fun a hF => e_p (v := (.pointer (some ⟨b_p_c, 0, none⟩))) 6 hF rfl (ex_fieldAddr Tryz.underlying53 rfl sz22 rfl rfl) rfl rfl (by kernel_rfl) (by kernel_rfl) (by kernel_rfl) fun a hF => e_x (v := s1.v) 7 hF hS rfl (ex_load1 0 0 Tryz.underlying22 rfl rfl rfl rfl) rfl rfl (by kernel_rfl) (by kernel_rfl) (by kernel_rfl) (by kernel_rfl) fun a hF => e_p (v := (.int .i64 (goLen p_c.code))) 8 hF rfl (ex_len Tryz.underlying22 rfl h1.len) rfl rfl (by kernel_rfl) (by kernel_rfl) (by kernel_rfl) fun a hF => e_p (v := (.bool (decide ((w64 (p_c.at_ + 1)) ≤ (goLen p_c.code))))) 9 hF rfl (ex_ibin rfl rfl rfl) rfl rfl (by kernel_rfl) (by kernel_rfl) (by kernel_rfl) fun a hF => e_end (by kernel_rfl) (n_sq ?_) _
  rcases bcase (decide ((w64 (p_c.at_ + 1)) ≤ (goLen p_c.code))) with hc3 | hc3
  ·have hr := cond_f hc3 hr
   refine q_cond_f hF rfl hc3 (q_skipc (n_sq (q_seq (q_region (q_x (v := (.pointer (some ⟨b_p_c, 0, none⟩))) hF hS (ex_move rfl) rfl rfl fun a hF => q_x (v := (.pointer (some ⟨b_p_c, 0, none⟩))) hF hS (ex_nilCheck rfl) rfl rfl fun a hF => q_x (v := (.pointer (some ⟨b_p_c, 2, none⟩))) hF hS (ex_fieldAddr Tryz.underlying53 rfl sz51 rfl rfl) rfl rfl fun a hF => q_x (v := (.int .u64 (IntKind.wrap .u64 ((IntKind.wrap .u64 ((IntKind.wrap .u64 (p_c.seed.v * 6364136223846793005)) + (IntKind.wrap .u64 b_4))) + 1442695040888963407)))) hF hS (ex_load1 0 0 Tryz.underlying51 rfl rfl rfl rfl) rfl rfl fun a hF => ?_)))))
   obtain ⟨t_5, ht_5, hr⟩ := bindS hr
   refine q_x (v := (.int .u64 t_5)) hF hS (ex_shr rfl rfl ht_5) rfl rfl fun a hF => q_x (v := (.int .u64 (goBits .and .u64 t_5 255))) hF hS (ex_bits rfl rfl rfl) rfl rfl fun a hF => q_x (v := (.int .i64 (w64 (goBits .and .u64 t_5 255)))) hF hS (ex_conv Tryz.underlying51 Tryz.underlying3 rfl) rfl rfl fun a hF => q_x (v := (.int .i64 (w64 (goBits .and .u64 t_5 255)))) hF hS (ex_assign rfl) rfl rfl fun a hF => q_end (n_sq (q_ret ?_))
   obtain rfl := someI hr
   exact ret_ofX hF hS rfl (.tmp rfl .nil) ⟨rfl, hS.sel [0] (by decide), rfl⟩
  ·have hr := cond_t hc3 hr
   refine q_cond_t hF rfl hc3 (q_seq (q_region (q_x (v := (.int .i64 b_4)) hF hS (ex_move rfl) rfl rfl fun a hF => q_x (v := (.int .i64 b_4)) hF hS (ex_assign rfl) rfl rfl fun a hF => q_end (n_sq (q_ret (r_sq ?_))))))
   obtain rfl := someI hr
   exact ret_ofX hF hS rfl (.tmp rfl .nil) ⟨rfl, hS.sel [0] (by decide), rfl⟩

theorem c_spec_l1Cur_pick (p_c : spec_l1Cur) (p_n : Int) (r : Int × spec_l1Cur) (hr : spec_l1Cur_pick p_c p_n = some r) (w0 : World) (m : Mem) (b_p_c : Nat) (s1 : Sl) (h1 : Rd m s1 p_c.code) (X : List Nat) (hS : St X w0 w0 m [[⟨b_p_c, [s1.v, (.int .i64 p_c.at_), (.int .u64 p_c.seed.v)], 53⟩]]) :
  RetX Tryz.prog 50 [(.pointer (some ⟨b_p_c, 0, none⟩)), (.int .i64 p_n)] w0 (fun v w => v = (.int .i64 r.1) ∧ St X w0 w m [[⟨b_p_c, [s1.v, (.int .i64 r.2.at_), (.int .u64 r.2.seed.v)], 53⟩]] ∧ r.2.code = p_c.code) := by
 unfold spec_l1Cur_pick at hr
 refine ret_startX Tryz.func50 rfl 20 rfl rfl fun a hF => q_seq (q_region (q_x (v := (.int .i64 0)) hF hS (ex_assign rfl) rfl rfl fun a hF => q_end (n_sq (q_seq (q_seq (q_region (q_x (v := (.int .i64 p_n)) hF hS (ex_move rfl) rfl rfl fun a hF => q_x (v := (.bool (decide (p_n ≤ 1)))) hF hS (ex_ibin rfl rfl rfl) rfl rfl fun a hF => q_end (n_sq ?_))))))))
 rcases bcase (decide (p_n ≤ 1)) with hc1 | hc1
 ·have hr := cond_f hc1 hr
  refine q_cond_f hF rfl hc1 (q_skipc (n_sq (q_seq (q_region (q_x (v := (.pointer (some ⟨b_p_c, 0, none⟩))) hF hS (ex_move rfl) rfl rfl fun a hF => ?_)))))
  have hS2 : St _ _ _ _ ([[⟨b_p_c, [s1.v, (.int .i64 p_c.at_), (.int .u64 p_c.seed.v)], 53⟩]] ++ []) := hS
  have hE2 := hS2.enter
  obtain ⟨t_3, ht_3, hr⟩ := bindS hr
  refine q_do rfl fun _ hK => wp_callX (vs := [(.pointer (some ⟨b_p_c, 0, none⟩))]) hF Tryz.func77 (by kernel_rfl) rfl rfl rfl (c_spec_l1Cur_next p_c t_3 ht_3 _ m b_p_c s1 h1 _ hE2) fun a w _ hR hF => hK _ _ ?_
  obtain ⟨rfl, hR2, hk4⟩ := hR
  have hS : St _ _ _ _ [[⟨b_p_c, [s1.v, (.int .i64 t_3.2.at_), (.int .u64 t_3.2.seed.v)], 53⟩]] := hS2.leaveF hR2
  have h4 : Rd m s1 t_3.2.code := by rw [hk4]; exact h1
  refine q_x (v := (.int .i64 t_3.1)) hF hS (ex_assign rfl) rfl rfl fun a hF => q_end (n_sq (q_seq (q_seq (q_region (q_x (v := (.int .i64 p_n)) hF hS (ex_move rfl) rfl rfl fun a hF => q_x (v := (.bool (decide (200 < p_n)))) hF hS (ex_ibin rfl rfl rfl) rfl rfl fun a hF => q_end (n_sq ?_))))))
  obtain ⟨j2, hj2, hr⟩ := bindS hr
  refine q_join (fun a w => ∃ x_8, ∃ p_c_9, j2 = (x_8, p_c_9) ∧ Fr a 20 [(1, (.int .i64 p_n)), (5, (.int .i64 x_8))] ∧ St X w0 w m [[⟨b_p_c, [s1.v, (.int .i64 p_c_9.at_), (.int .u64 p_c_9.seed.v)], 53⟩]] ∧ Rd m s1 p_c_9.code ∧ p_c_9.code = p_c.code) ?_ ?_
  ·rcases bcase (decide (200 < p_n)) with hc3 | hc3
   ·have hj2 := cond_f hc3 hj2
    refine q_cond_f hF rfl hc3 (q_skipc (n_jn ?_))
    obtain rfl := someI hj2
    exact ⟨_, _, rfl, hF.sub ⟨rfl, rfl, trivial⟩, hS, h4, hk4⟩
   ·have hj2 := cond_t hc3 hj2
    refine q_cond_t hF rfl hc3 (q_region (q_x (v := (.int .i64 t_3.1)) hF hS (ex_move rfl) rfl rfl fun a hF => q_x (v := (.int .i64 (w64 (t_3.1 * 256)))) hF hS (ex_ibin rfl rfl rfl) rfl rfl fun a hF => q_x (v := (.pointer (some ⟨b_p_c, 0, none⟩))) hF hS (ex_move rfl) rfl rfl fun a hF => ?_))
    have hS5 : St _ _ _ _ ([[⟨b_p_c, [s1.v, (.int .i64 t_3.2.at_), (.int .u64 t_3.2.seed.v)], 53⟩]] ++ []) := hS
    have hE5 := hS5.enter
    obtain ⟨t_6, ht_6, hj2⟩ := bindS hj2
    refine q_do rfl fun _ hK => wp_callX (vs := [(.pointer (some ⟨b_p_c, 0, none⟩))]) hF Tryz.func77 (by kernel_rfl) rfl rfl rfl (c_spec_l1Cur_next t_3.2 t_6 ht_6 _ m b_p_c s1 h4 _ hE5) fun a w _ hR hF => hK _ _ ?_
    obtain ⟨rfl, hR5, hk7⟩ := hR
    have hS : St _ _ _ _ [[⟨b_p_c, [s1.v, (.int .i64 t_6.2.at_), (.int .u64 t_6.2.seed.v)], 53⟩]] := hS5.leaveF hR5
    have h7 : Rd m s1 t_6.2.code := by rw [hk7]; exact h4
    refine q_x (v := (.int .i64 (w64 ((w64 (t_3.1 * 256)) + t_6.1)))) hF hS (ex_ibin rfl rfl rfl) rfl rfl fun a hF => q_x (v := (.int .i64 (w64 ((w64 (t_3.1 * 256)) + t_6.1)))) hF hS (ex_assign rfl) rfl rfl fun a hF => q_end (n_jn ?_)
    obtain rfl := someI hj2
    exact ⟨_, _, rfl, hF.sub ⟨rfl, rfl, trivial⟩, hS, h7, (hk7.trans hk4)⟩
  ·rintro a w ⟨x_8, p_c_9, rfl, hF, hS, h10, h10k⟩
   refine n_sq ?_
   refine q_seq (q_region (q_x (v := (.int .i64 x_8)) hF hS (ex_move rfl) rfl rfl fun a hF => q_x (v := (.int .i64 p_n)) hF hS (ex_move rfl) rfl rfl fun a hF => ?_))
   obtain ⟨t_11, ht_11, hr⟩ := bindS hr
   refine q_x (v := (.int .i64 t_11)) hF hS (ex_rem rfl rfl ht_11) rfl rfl fun a hF => q_x (v := (.int .i64 t_11)) hF hS (ex_assign rfl) rfl rfl fun a hF => q_end (n_sq (q_ret ?_))
   obtain rfl := someI hr
   exact ret_ofX hF hS rfl (.tmp rfl .nil) ⟨rfl, hS.sel [0] (by decide), h10k⟩
 ·have hr := cond_t hc1 hr
  refine q_cond_t hF rfl hc1 (q_seq (q_region (q_x (v := (.int .i64 0)) hF hS (ex_assign rfl) rfl rfl fun a hF => q_end (n_sq (q_ret (r_sq ?_))))))
  obtain rfl := someI hr
  exact ret_ofX hF hS rfl (.tmp rfl .nil) ⟨rfl, hS.sel [0] (by decide), rfl⟩

theorem c_spec_l1Cur_schema (p_c : spec_l1Cur) (r : (List impl_Variable) × spec_l1Cur) (hr : spec_l1Cur_schema p_c = some r) (w0 : World) (m : Mem) (b_p_c : Nat) (s1 : Sl) (h1 : Rd m s1 p_c.code) (X : List Nat) (hS : St X w0 w0 m [[⟨b_p_c, [s1.v, (.int .i64 p_c.at_), (.int .u64 p_c.seed.v)], 53⟩]]) :
  RetX Tryz.prog 21 [(.pointer (some ⟨b_p_c, 0, none⟩))] w0 (fun v w => ∃ (q0' : Piece) (s0' : Sl), v = s0'.v ∧ St X w0 w m [[⟨b_p_c, [s1.v, (.int .i64 r.2.at_), (.int .u64 r.2.seed.v)], 53⟩], q0'] ∧ OwnL m 83 q0' s0' r.1 ∧ r.2.code = p_c.code) := by
 unfold spec_l1Cur_schema at hr
 refine ret_startX Tryz.func21 rfl 26 rfl rfl fun a hF => q_seq (q_region (q_x (v := nilS.v) hF hS (ex_assign rfl) rfl rfl fun a hF => q_end (n_sq (q_seq (q_region (q_do rfl fun _ hK => wp_buildSlice' (l := ([([115, 101, 120] : List UInt8), ([97, 103, 101] : List UInt8), ([106, 111, 98] : List UInt8), ([104, 111, 109, 101] : List UInt8), ([115, 105, 122, 101] : List UInt8), ([108, 97, 110, 103] : List UInt8)] : List (List UInt8))) (cells := [(strV ([115, 101, 120] : List UInt8)), (strV ([97, 103, 101] : List UInt8)), (strV ([106, 111, 98] : List UInt8)), (strV ([104, 111, 109, 101] : List UInt8)), (strV ([115, 105, 122, 101] : List UInt8)), (strV ([108, 97, 110, 103] : List UInt8))]) hF hS Tryz.underlying63 inf9 rfl rfl (by kernel_rfl) rfl rfl rfl ⟨rfl, rfl, rfl, rfl, rfl, rfl, rfl⟩ rfl rfl fun a w q2 s2 hF hS h2 _ => hK _ _ (q_x (v := s2.v) hF hS (ex_assign rfl) rfl rfl fun a hF => q_end (n_sq (q_seq (q_region (q_x (v := nilS.v) hF hS (ex_assign rfl) rfl rfl fun a hF => q_end (n_sq (q_seq (q_seq (q_region (q_x (v := (.int .i64 0)) hF hS (ex_assign rfl) rfl rfl fun a hF => q_end (n_sq (q_block ?_))))))))))))))))))
 obtain ⟨o1, hl1, hr⟩ := bindS hr
 refine q_loop (fun (s : (List impl_Variable) × Int × spec_l1Cur) a w => ∃ (q4 : Piece), ∃ (s4 : Sl), ∃ out_3, ∃ k_5, ∃ p_c_6, s = (out_3, k_5, p_c_6) ∧ Fr a 26 [(0, (.pointer (some ⟨b_p_c, 0, none⟩))), (3, s2.v), (4, s4.v), (5, (.int .i64 k_5))] ∧ St X w0 w m [q4, q2, [⟨b_p_c, [s1.v, (.int .i64 p_c_6.at_), (.int .u64 p_c_6.seed.v)], 53⟩]] ∧ OwnL m 83 q4 s4 out_3 ∧ Rd m s1 p_c_6.code ∧ p_c_6.code = p_c.code) (fun (o : (List impl_Variable) × spec_l1Cur) e a w => ∃ (q27 : Piece), ∃ (s27 : Sl), ∃ out_26, ∃ p_c_28, o = (out_26, p_c_28) ∧ e = .exit 0 ∧ Fr a 26 [(4, s27.v)] ∧ St X w0 w m [q27, [⟨b_p_c, [s1.v, (.int .i64 p_c_28.at_), (.int .u64 p_c_28.seed.v)], 53⟩]] ∧ OwnL m 83 q27 s27 out_26 ∧ Rd m s1 p_c_28.code ∧ p_c_28.code = p_c.code) hl1 ⟨[], nilS, _, _, _, rfl, hF.sub ⟨rfl, rfl, rfl, rfl, trivial⟩, hS.sel [2, 0, 1] (by decide), (OwnL.nil (α := impl_Variable) m 83), h1, rfl⟩ ?_ ?_
 ·clear hF hS
  rintro s a w st ⟨q4, s4, out_3, k_5, p_c_6, rfl, hF, hS, h4, h7, h7k⟩ hb1
  unfold spec_l1Cur_schema_l1 at hb1
  refine q_seq (q_seq (q_region (q_x (v := (.int .i64 k_5)) hF hS (ex_move rfl) rfl rfl fun a hF => q_x (v := (.pointer (some ⟨b_p_c, 0, none⟩))) hF hS (ex_move rfl) rfl rfl fun a hF => ?_)))
  have hS : St _ _ _ _ [[⟨b_p_c, [s1.v, (.int .i64 p_c_6.at_), (.int .u64 p_c_6.seed.v)], 53⟩], q4, q2] := hS.sel [2, 0, 1] (by decide)
  have hS8 : St _ _ _ _ ([[⟨b_p_c, [s1.v, (.int .i64 p_c_6.at_), (.int .u64 p_c_6.seed.v)], 53⟩]] ++ [q4, q2]) := hS
  have hE8 := hS8.enter
  obtain ⟨t_9, ht_9, hb1⟩ := bindS hb1
  refine q_do rfl fun _ hK => wp_callX (vs := [(.pointer (some ⟨b_p_c, 0, none⟩)), (.int .i64 3)]) hF Tryz.func50 (by kernel_rfl) rfl rfl rfl (c_spec_l1Cur_pick p_c_6 3 t_9 ht_9 _ m b_p_c s1 h7 _ hE8) fun a w _ hR hF => hK _ _ ?_
  obtain ⟨rfl, hR8, hk10⟩ := hR
  have hS : St _ _ _ _ [[⟨b_p_c, [s1.v, (.int .i64 t_9.2.at_), (.int .u64 t_9.2.seed.v)], 53⟩], q4, q2] := hS8.leaveF hR8
  have h10 : Rd m s1 t_9.2.code := by rw [hk10]; exact h7
  refine q_x (v := (.int .i64 (w64 (1 + t_9.1)))) hF hS (ex_ibin rfl rfl rfl) rfl rfl fun a hF => q_x (v := (.bool (decide (k_5 < (w64 (1 + t_9.1)))))) hF hS (ex_ibin rfl rfl rfl) rfl rfl fun a hF => q_end (n_sq ?_)
  rcases bcase (decide (k_5 < (w64 (1 + t_9.1)))) with hc2 | hc2
  ·have hb1 := cond_f hc2 hb1
   refine q_cond_f hF rfl hc2 (q_exit (x_sq ?_))
   obtain rfl := someI hb1
   exact ⟨nofun, .inl ⟨q4, s4, _, _, rfl, rfl, hF.sub ⟨rfl, trivial⟩, hS.sel [1, 0] (by decide), h4, h10, (hk10.trans h7k)⟩⟩
  ·have hb1 := cond_t hc2 hb1
   refine q_cond_t hF rfl hc2 (q_skipc (n_sq (q_seq (q_block ?_))))
   obtain ⟨j3, hj3, hb1⟩ := bindS hb1
   refine q_join (fun a w => ∃ (q23 : Piece), ∃ (s23 : Sl), ∃ out_22, ∃ p_c_24, j3 = (out_22, p_c_24) ∧ Fr a 26 [(0, (.pointer (some ⟨b_p_c, 0, none⟩))), (3, s2.v), (4, s23.v), (5, (.int .i64 k_5))] ∧ St X w0 w m [q2, q23, [⟨b_p_c, [s1.v, (.int .i64 p_c_24.at_), (.int .u64 p_c_24.seed.v)], 53⟩]] ∧ OwnL m 83 q23 s23 out_22 ∧ Rd m s1 p_c_24.code ∧ p_c_24.code = p_c.code) ?_ ?_
   ·refine e_region ⟨[6, 10], []⟩ mixed fun w' hw' => ?_
    have hS := hS.below hw'
    refine e_p (v := s4.v) 0 hF rfl (ex_move rfl) rfl rfl (by kernel_rfl) (by kernel_rfl) (by kernel_rfl) fun a hF => e_p (v := s2.v) 1 hF rfl (ex_move rfl) rfl rfl (by kernel_rfl) (by kernel_rfl) (by kernel_rfl) fun a hF => e_p (v := (.int .i64 k_5)) 2 hF rfl (ex_move rfl) rfl rfl (by kernel_rfl) (by kernel_rfl) (by kernel_rfl) fun a hF => ?_
    obtain ⟨e_11, he_11, hj3⟩ := bindS hj3
    obtain ⟨vs12, at12, d12⟩ := h2.at he_11 1 rfl
    obtain rfl : vs12 = [(strV e_11)] := d12
    refine e_p (v := (elP s2 (k_5.toNat * 1))) 3 hF rfl (ex_indexAddr Tryz.underlying63 sz9 rfl rfl (h2.idx he_11)) rfl rfl (by kernel_rfl) (by kernel_rfl) (by kernel_rfl) fun a hF => e_p (v := (.pointer (some ⟨b_p_c, 0, none⟩))) 5 hF rfl (ex_move rfl) rfl rfl (by kernel_rfl) (by kernel_rfl) (by kernel_rfl) fun a hF => ?_
    obtain ⟨t_17, ht_17, hj3⟩ := bindS hj3
    obtain ⟨l_20, hl_20, hj3⟩ := bindS hj3
    refine e_all [4, 6] (by kernel_rfl) rfl ⟨?_, ?_, trivial⟩
    ·refine e_lx (v := (strV e_11)) hF hS rfl (ex_loadE1 0 Tryz.underlying9 rfl rfl (at12.at 2 rfl) rfl rfl) rfl rfl fun a hF => e_one 6 (by kernel_rfl) ?_
     have hS16 : St _ _ _ _ ([[⟨b_p_c, [s1.v, (.int .i64 t_9.2.at_), (.int .u64 t_9.2.seed.v)], 53⟩]] ++ [q4, q2]) := hS
     have hE16 := hS16.enter
     refine e_opl rfl rfl rfl fun _ hK => wp_callX (vs := [(.pointer (some ⟨b_p_c, 0, none⟩)), (.int .i64 3)]) hF Tryz.func50 (by kernel_rfl) rfl rfl rfl (c_spec_l1Cur_pick t_9.2 3 t_17 ht_17 _ m b_p_c s1 h10 _ hE16) fun a w _ hR hF => hK _ _ ?_
     obtain ⟨rfl, hR16, hk18⟩ := hR
     have hS : St _ _ _ _ [[⟨b_p_c, [s1.v, (.int .i64 t_17.2.at_), (.int .u64 t_17.2.seed.v)], 53⟩], q4, q2] := hS16.leaveF hR16
     have h18 : Rd m s1 t_17.2.code := by rw [hk18]; exact h10
     refine ⟨kpN, ?_⟩
     refine e_p (v := (.int .i64 (w64 (2 + t_17.1)))) 7 hF rfl (ex_ibin rfl rfl rfl) rfl rfl (by kernel_rfl) (by kernel_rfl) (by kernel_rfl) fun a hF => e_p (v := (.agg #[(strV e_11), (.int .i64 (w64 (2 + t_17.1)))])) 8 hF rfl (ex_build (cells := [(strV e_11), (.int .i64 (w64 (2 + t_17.1)))]) rfl (by kernel_rfl)) rfl rfl (by kernel_rfl) (by kernel_rfl) (by kernel_rfl) fun a hF => e_one 9 (by kernel_rfl) (e_op rfl rfl fun _ hK => wp_buildSlice' (l := ([(impl_Variable.mk e_11 (w64 (2 + t_17.1)))] : List impl_Variable)) (cells := [(strV e_11), (.int .i64 (w64 (2 + t_17.1)))]) hF hS Tryz.underlying23 inf83 rfl rfl (by kernel_rfl) rfl rfl rfl ⟨rfl, rfl⟩ rfl rfl fun a w q19 s19 hF hS h19 hb => hK _ _ hb (e_one 10 (by kernel_rfl) ?_))
     have hS : St _ _ _ _ [q4, q19, [⟨b_p_c, [s1.v, (.int .i64 t_17.2.at_), (.int .u64 t_17.2.seed.v)], 53⟩], q2] := hS.sel [2, 0, 1, 3] (by decide)
     refine e_opl rfl rfl rfl fun _ hK => wp_append hF hS h4 Tryz.underlying23 inf83 rfl rfl rfl rfl (h19.vw hS (j := 1) rfl) rfl (by decide) hl_20 rfl fun a w q21 s21 hF hS h21 => hK _ _ (⟨kpN, ?_⟩)
     refine e_p (v := s21.v) 11 hF rfl (ex_assign rfl) rfl rfl (by kernel_rfl) (by kernel_rfl) (by kernel_rfl) fun a hF => e_end (by kernel_rfl) (n_jn ?_) _
     obtain rfl := someI hj3
     exact ⟨q21, s21, _, _, rfl, hF.sub ⟨rfl, rfl, rfl, rfl, trivial⟩, hS.sel [3, 0, 2] (by decide), h21, h18, (hk18.trans (hk10.trans h7k))⟩
    ·have hS16 : St _ _ _ _ ([[⟨b_p_c, [s1.v, (.int .i64 t_9.2.at_), (.int .u64 t_9.2.seed.v)], 53⟩]] ++ [q4, q2]) := hS
     have hE16 := hS16.enter
     refine e_opl rfl rfl rfl fun _ hK => wp_callX (vs := [(.pointer (some ⟨b_p_c, 0, none⟩)), (.int .i64 3)]) hF Tryz.func50 (by kernel_rfl) rfl rfl rfl (c_spec_l1Cur_pick t_9.2 3 t_17 ht_17 _ m b_p_c s1 h10 _ hE16) fun a w _ hR hF => hK _ _ ?_
     obtain ⟨rfl, hR16, hk18⟩ := hR
     have hS : St _ _ _ _ [[⟨b_p_c, [s1.v, (.int .i64 t_17.2.at_), (.int .u64 t_17.2.seed.v)], 53⟩], q4, q2] := hS16.leaveF hR16
     have h18 : Rd m s1 t_17.2.code := by rw [hk18]; exact h10
     refine ⟨kpN, ?_⟩
     refine e_p (v := (.int .i64 (w64 (2 + t_17.1)))) 7 hF rfl (ex_ibin rfl rfl rfl) rfl rfl (by kernel_rfl) (by kernel_rfl) (by kernel_rfl) fun a hF => e_one 4 (by kernel_rfl) (e_lx (v := (strV e_11)) hF hS rfl (ex_loadE1 0 Tryz.underlying9 rfl rfl (at12.at 2 rfl) rfl rfl) rfl rfl fun a hF => e_p (v := (.agg #[(strV e_11), (.int .i64 (w64 (2 + t_17.1)))])) 8 hF rfl (ex_build (cells := [(strV e_11), (.int .i64 (w64 (2 + t_17.1)))]) rfl (by kernel_rfl)) rfl rfl (by kernel_rfl) (by kernel_rfl) (by kernel_rfl) fun a hF => e_one 9 (by kernel_rfl) (e_op rfl rfl fun _ hK => wp_buildSlice' (l := ([(impl_Variable.mk e_11 (w64 (2 + t_17.1)))] : List impl_Variable)) (cells := [(strV e_11), (.int .i64 (w64 (2 + t_17.1)))]) hF hS Tryz.underlying23 inf83 rfl rfl (by kernel_rfl) rfl rfl rfl ⟨rfl, rfl⟩ rfl rfl fun a w q19 s19 hF hS h19 hb => hK _ _ hb (e_one 10 (by kernel_rfl) ?_)))
     have hS : St _ _ _ _ [q4, q19, [⟨b_p_c, [s1.v, (.int .i64 t_17.2.at_), (.int .u64 t_17.2.seed.v)], 53⟩], q2] := hS.sel [2, 0, 1, 3] (by decide)
     refine e_opl rfl rfl rfl fun _ hK => wp_append hF hS h4 Tryz.underlying23 inf83 rfl rfl rfl rfl (h19.vw hS (j := 1) rfl) rfl (by decide) hl_20 rfl fun a w q21 s21 hF hS h21 => hK _ _ (⟨kpN, ?_⟩)
     refine e_p (v := s21.v) 11 hF rfl (ex_assign rfl) rfl rfl (by kernel_rfl) (by kernel_rfl) (by kernel_rfl) fun a hF => e_end (by kernel_rfl) (n_jn ?_) _
     obtain rfl := someI hj3
     exact ⟨q21, s21, _, _, rfl, hF.sub ⟨rfl, rfl, rfl, rfl, trivial⟩, hS.sel [3, 0, 2] (by decide), h21, h18, (hk18.trans (hk10.trans h7k))⟩
   ·rintro a w ⟨q23, s23, out_22, p_c_24, rfl, hF, hS, h23, h25, h25k⟩
    refine n_ib (n_sq ?_)
    refine q_region (q_x (v := (.int .i64 k_5)) hF hS (ex_move rfl) rfl rfl fun a hF => q_x (v := (.int .i64 (w64 (k_5 + 1)))) hF hS (ex_ibin rfl rfl rfl) rfl rfl fun a hF => q_x (v := (.int .i64 (w64 (k_5 + 1)))) hF hS (ex_assign rfl) rfl rfl fun a hF => q_end ?_)
    obtain rfl := someI hb1
    exact ⟨rfl, q23, s23, _, _, _, rfl, hF.sub ⟨rfl, rfl, rfl, rfl, trivial⟩, hS.sel [1, 0, 2] (by decide), h23, h25, h25k⟩
 ·rintro e a w ⟨q27, s27, out_26, p_c_28, rfl, rfl, hF, hS, h27, h29, h29k⟩
  refine x_ib (n_sq ?_)
  refine q_seq (q_region (q_x (v := s27.v) hF hS (ex_move rfl) rfl rfl fun a hF => q_x (v := s27.v) hF hS (ex_assign rfl) rfl rfl fun a hF => q_end (n_sq (q_ret ?_))))
  obtain rfl := someI hr
  exact ret_ofX hF hS rfl (.tmp rfl .nil) ⟨q27, s27, rfl, hS.sel [1, 0] (by decide), h27, h29k⟩

theorem c_spec_l1Cur_among (p_c : spec_l1Cur) (p_list : List Int) (r : Int × spec_l1Cur) (hr : spec_l1Cur_among p_c p_list = some r) (w0 : World) (m : Mem) (b_p_c : Nat) (s1 : Sl) (h1 : Rd m s1 p_c.code) (s2 : Sl) (h2 : Rd m s2 p_list) (X : List Nat) (hS : St X w0 w0 m [[⟨b_p_c, [s1.v, (.int .i64 p_c.at_), (.int .u64 p_c.seed.v)], 53⟩]]) :
  RetX Tryz.prog 68 [(.pointer (some ⟨b_p_c, 0, none⟩)), s2.v] w0 (fun v w => v = (.int .i64 r.1) ∧ St X w0 w m [[⟨b_p_c, [s1.v, (.int .i64 r.2.at_), (.int .u64 r.2.seed.v)], 53⟩]] ∧ r.2.code = p_c.code) := by
 unfold spec_l1Cur_among at hr
 refine ret_startX Tryz.func68 rfl 12 rfl rfl fun a hF => q_seq (q_region (q_x (v := (.int .i64 0)) hF hS (ex_assign rfl) rfl rfl fun a hF => q_end (n_sq (q_seq (q_region (q_x (v := s2.v) hF hS (ex_move rfl) rfl rfl fun a hF => q_x (v := (.pointer (some ⟨b_p_c, 0, none⟩))) hF hS (ex_move rfl) rfl rfl fun a hF => q_x (v := s2.v) hF hS (ex_move rfl) rfl rfl fun a hF => q_x (v := (.int .i64 (goLen p_list))) hF hS (ex_len Tryz.underlying40 rfl h2.len) rfl rfl fun a hF => ?_))))))
 have hS3 : St _ _ _ _ ([[⟨b_p_c, [s1.v, (.int .i64 p_c.at_), (.int .u64 p_c.seed.v)], 53⟩]] ++ []) := hS
 have hE3 := hS3.enter
 obtain ⟨t_4, ht_4, hr⟩ := bindS hr
 refine q_do rfl fun _ hK => wp_callX (vs := [(.pointer (some ⟨b_p_c, 0, none⟩)), (.int .i64 (goLen p_list))]) hF Tryz.func50 (by kernel_rfl) rfl rfl rfl (c_spec_l1Cur_pick p_c (goLen p_list) t_4 ht_4 _ m b_p_c s1 h1 _ hE3) fun a w _ hR hF => hK _ _ ?_
 obtain ⟨rfl, hR3, hk5⟩ := hR
 have hS : St _ _ _ _ [[⟨b_p_c, [s1.v, (.int .i64 t_4.2.at_), (.int .u64 t_4.2.seed.v)], 53⟩]] := hS3.leaveF hR3
 have h5 : Rd m s1 t_4.2.code := by rw [hk5]; exact h1
 obtain ⟨e_6, he_6, hr⟩ := bindS hr
 obtain ⟨vs7, at7, d7⟩ := h2.at he_6 1 rfl
 obtain rfl : vs7 = [(.int .i64 e_6)] := d7
 refine q_x (v := (elP s2 (t_4.1.toNat * 1))) hF hS (ex_indexAddr Tryz.underlying40 sz3 rfl rfl (h2.idx he_6)) rfl rfl fun a hF => q_x (v := (.int .i64 e_6)) hF hS (ex_loadE1 0 Tryz.underlying3 rfl rfl ((at7).at) rfl rfl) rfl rfl fun a hF => q_x (v := (.int .i64 e_6)) hF hS (ex_assign rfl) rfl rfl fun a hF => q_end (n_sq (q_ret ?_))
 obtain rfl := someI hr
 exact ret_ofX hF hS rfl (.tmp rfl .nil) ⟨rfl, hS.sel [0] (by decide), hk5⟩

theorem c_spec_l1Cur_of (p_c : spec_l1Cur) (p_list : List (List UInt8)) (r : (List UInt8) × spec_l1Cur) (hr : spec_l1Cur_of p_c p_list = some r) (w0 : World) (m : Mem) (b_p_c : Nat) (s1 : Sl) (h1 : Rd m s1 p_c.code) (s2 : Sl) (h2 : Rd m s2 p_list) (X : List Nat) (hS : St X w0 w0 m [[⟨b_p_c, [s1.v, (.int .i64 p_c.at_), (.int .u64 p_c.seed.v)], 53⟩]]) :
  RetX Tryz.prog 69 [(.pointer (some ⟨b_p_c, 0, none⟩)), s2.v] w0 (fun v w => v = (strV r.1) ∧ St X w0 w m [[⟨b_p_c, [s1.v, (.int .i64 r.2.at_), (.int .u64 r.2.seed.v)], 53⟩]] ∧ r.2.code = p_c.code) := by
 unfold spec_l1Cur_of at hr
 refine ret_startX Tryz.func69 rfl 12 rfl rfl fun a hF => q_seq (q_region (q_x (v := (strV ([] : List UInt8))) hF hS (ex_assign rfl) rfl rfl fun a hF => q_end (n_sq (q_seq (q_region (q_x (v := s2.v) hF hS (ex_move rfl) rfl rfl fun a hF => q_x (v := (.pointer (some ⟨b_p_c, 0, none⟩))) hF hS (ex_move rfl) rfl rfl fun a hF => q_x (v := s2.v) hF hS (ex_move rfl) rfl rfl fun a hF => q_x (v := (.int .i64 (goLen p_list))) hF hS (ex_len Tryz.underlying63 rfl h2.len) rfl rfl fun a hF => ?_))))))
 have hS3 : St _ _ _ _ ([[⟨b_p_c, [s1.v, (.int .i64 p_c.at_), (.int .u64 p_c.seed.v)], 53⟩]] ++ []) := hS
 have hE3 := hS3.enter
 obtain ⟨t_4, ht_4, hr⟩ := bindS hr
 refine q_do rfl fun _ hK => wp_callX (vs := [(.pointer (some ⟨b_p_c, 0, none⟩)), (.int .i64 (goLen p_list))]) hF Tryz.func50 (by kernel_rfl) rfl rfl rfl (c_spec_l1Cur_pick p_c (goLen p_list) t_4 ht_4 _ m b_p_c s1 h1 _ hE3) fun a w _ hR hF => hK _ _ ?_
 obtain ⟨rfl, hR3, hk5⟩ := hR
 have hS : St _ _ _ _ [[⟨b_p_c, [s1.v, (.int .i64 t_4.2.at_), (.int .u64 t_4.2.seed.v)], 53⟩]] := hS3.leaveF hR3
 have h5 : Rd m s1 t_4.2.code := by rw [hk5]; exact h1
 obtain ⟨e_6, he_6, hr⟩ := bindS hr
 obtain ⟨vs7, at7, d7⟩ := h2.at he_6 1 rfl
 obtain rfl : vs7 = [(strV e_6)] := d7
 refine q_x (v := (elP s2 (t_4.1.toNat * 1))) hF hS (ex_indexAddr Tryz.underlying63 sz9 rfl rfl (h2.idx he_6)) rfl rfl fun a hF => q_x (v := (strV e_6)) hF hS (ex_loadE1 0 Tryz.underlying9 rfl rfl ((at7).at) rfl rfl) rfl rfl fun a hF => q_x (v := (strV e_6)) hF hS (ex_assign rfl) rfl rfl fun a hF => q_end (n_sq (q_ret ?_))
 obtain rfl := someI hr
 exact ret_ofX hF hS rfl (.tmp rfl .nil) ⟨rfl, hS.sel [0] (by decide), hk5⟩

theorem c_spec_l1Cur_anySchema (p_c : spec_l1Cur) (r : (List impl_Variable) × spec_l1Cur) (hr : spec_l1Cur_anySchema p_c = some r) (w0 : World) (m : Mem) (b_p_c : Nat) (s1 : Sl) (h1 : Rd m s1 p_c.code) (X : List Nat) (hS : St X w0 w0 m [[⟨b_p_c, [s1.v, (.int .i64 p_c.at_), (.int .u64 p_c.seed.v)], 53⟩]]) :
  RetX Tryz.prog 42 [(.pointer (some ⟨b_p_c, 0, none⟩))] w0 (fun v w => ∃ (q0' : Piece) (s0' : Sl), v = s0'.v ∧ St X w0 w m [[⟨b_p_c, [s1.v, (.int .i64 r.2.at_), (.int .u64 r.2.seed.v)], 53⟩], q0'] ∧ OwnL m 83 q0' s0' r.1 ∧ r.2.code = p_c.code) := by
 unfold spec_l1Cur_anySchema at hr
 refine ret_startX Tryz.func42 rfl 46 rfl rfl fun a hF => q_seq (q_region (q_x (v := nilS.v) hF hS (ex_assign rfl) rfl rfl fun a hF => q_end (n_sq (q_seq (q_region (q_x (v := (.pointer (some ⟨b_p_c, 0, none⟩))) hF hS (ex_move rfl) rfl rfl fun a hF => ?_))))))
 have hS2 : St _ _ _ _ ([[⟨b_p_c, [s1.v, (.int .i64 p_c.at_), (.int .u64 p_c.seed.v)], 53⟩]] ++ []) := hS
 have hE2 := hS2.enter
 obtain ⟨t_3, ht_3, hr⟩ := bindS hr
 refine q_do rfl fun _ hK => wp_callX (vs := [(.pointer (some ⟨b_p_c, 0, none⟩))]) hF Tryz.func21 (by kernel_rfl) rfl rfl rfl (c_spec_l1Cur_schema p_c t_3 ht_3 _ m b_p_c s1 h1 _ hE2) fun a w _ hR hF => hK _ _ ?_
 obtain ⟨q4, s4, rfl, hR2, h4, hk5⟩ := hR
 have hS : St _ _ _ _ [[⟨b_p_c, [s1.v, (.int .i64 t_3.2.at_), (.int .u64 t_3.2.seed.v)], 53⟩], q4] := hS2.leaveF hR2
 have h5 : Rd m s1 t_3.2.code := by rw [hk5]; exact h1
 refine q_x (v := s4.v) hF hS (ex_assign rfl) rfl rfl fun a hF => q_end (n_sq (q_seq (q_seq (q_region (q_x (v := (.pointer (some ⟨b_p_c, 0, none⟩))) hF hS (ex_move rfl) rfl rfl fun a hF => ?_)))))
 have hS6 : St _ _ _ _ ([[⟨b_p_c, [s1.v, (.int .i64 t_3.2.at_), (.int .u64 t_3.2.seed.v)], 53⟩]] ++ [q4]) := hS
 have hE6 := hS6.enter
 obtain ⟨t_7, ht_7, hr⟩ := bindS hr
 refine q_do rfl fun _ hK => wp_callX (vs := [(.pointer (some ⟨b_p_c, 0, none⟩)), (.int .i64 24)]) hF Tryz.func50 (by kernel_rfl) rfl rfl rfl (c_spec_l1Cur_pick t_3.2 24 t_7 ht_7 _ m b_p_c s1 h5 _ hE6) fun a w _ hR hF => hK _ _ ?_
 obtain ⟨rfl, hR6, hk8⟩ := hR
 have hS : St _ _ _ _ [[⟨b_p_c, [s1.v, (.int .i64 t_7.2.at_), (.int .u64 t_7.2.seed.v)], 53⟩], q4] := hS6.leaveF hR6
 have h8 : Rd m s1 t_7.2.code := by rw [hk8]; exact h5
 refine q_end (n_sq (q_block (q_seq (q_region (q_x (v := (.bool (t_7.1 == 0))) hF hS (ex_ibin rfl rfl rfl) rfl rfl fun a hF => q_x (v := (.bool (t_7.1 == 0))) hF hS (ex_assign rfl) rfl rfl fun a hF => q_end (n_sq ?_))))))
 obtain ⟨j1, hj1, hr⟩ := bindS hr
 refine q_join (fun a w => ∃ (q48 : Piece), ∃ (s48 : Sl), ∃ s_47, ∃ p_c_49, j1 = .inl (s_47, p_c_49) ∧ Fr a 46 [(3, s48.v)] ∧ St X w0 w m [q48, [⟨b_p_c, [s1.v, (.int .i64 p_c_49.at_), (.int .u64 p_c_49.seed.v)], 53⟩]] ∧ OwnL m 83 q48 s48 s_47 ∧ Rd m s1 p_c_49.code ∧ p_c_49.code = p_c.code) ?_ ?_
 ·rcases bcase (t_7.1 == 0) with hc2 | hc2
  ·have hj1 := cond_f hc2 hj1
   refine q_cond_f hF rfl hc2 (q_seq (q_region (q_x (v := (.bool (t_7.1 == 1))) hF hS (ex_ibin rfl rfl rfl) rfl rfl fun a hF => q_x (v := (.bool (t_7.1 == 1))) hF hS (ex_assign rfl) rfl rfl fun a hF => q_end (n_sq ?_))))
   obtain ⟨j3, hj3, hj1⟩ := bindS hj1
   refine q_join (fun a w => ∃ (q37 : Piece), ∃ (s37 : Sl), ∃ s_36, ∃ p_c_38, j3 = .inl (s_36, p_c_38) ∧ Fr a 46 [(3, s37.v)] ∧ St X w0 w m [q37, [⟨b_p_c, [s1.v, (.int .i64 p_c_38.at_), (.int .u64 p_c_38.seed.v)], 53⟩]] ∧ OwnL m 83 q37 s37 s_36 ∧ Rd m s1 p_c_38.code ∧ p_c_38.code = p_c.code) ?_ ?_
   ·rcases bcase (t_7.1 == 1) with hc4 | hc4
    ·have hj3 := cond_f hc4 hj3
     refine q_cond_f hF rfl hc4 (q_seq (q_region (q_x (v := (.bool (t_7.1 == 2))) hF hS (ex_ibin rfl rfl rfl) rfl rfl fun a hF => q_x (v := (.bool (t_7.1 == 2))) hF hS (ex_assign rfl) rfl rfl fun a hF => q_end (n_sq ?_))))
     rcases bcase (t_7.1 == 2) with hc5 | hc5
     ·have hj3 := cond_f hc5 hj3
      refine q_cond_f hF rfl hc5 (q_seq (q_region (q_x (v := (.bool (t_7.1 == 3))) hF hS (ex_ibin rfl rfl rfl) rfl rfl fun a hF => q_x (v := (.bool (t_7.1 == 3))) hF hS (ex_assign rfl) rfl rfl fun a hF => q_end (n_sq ?_))))
      obtain ⟨j6, hj6, hj3⟩ := bindS hj3
      refine q_join (fun a w => ∃ (q26 : Piece), ∃ (s26 : Sl), ∃ s_25, ∃ p_c_27, j6 = (s_25, p_c_27) ∧ Fr a 46 [(3, s26.v)] ∧ St X w0 w m [q26, [⟨b_p_c, [s1.v, (.int .i64 p_c_27.at_), (.int .u64 p_c_27.seed.v)], 53⟩]] ∧ OwnL m 83 q26 s26 s_25 ∧ Rd m s1 p_c_27.code ∧ p_c_27.code = p_c.code) ?_ ?_
      ·rcases bcase (t_7.1 == 3) with hc7 | hc7
       ·have hj6 := cond_f hc7 hj6
        refine q_cond_f hF rfl hc7 (q_skipc (n_jn ?_))
        obtain rfl := someI hj6
        exact ⟨q4, s4, _, _, rfl, hF.sub ⟨rfl, trivial⟩, hS.sel [1, 0] (by decide), h4, h8, (hk8.trans hk5)⟩
       ·have hj6 := cond_t hc7 hj6
        refine q_cond_t hF rfl hc7 (q_block ?_)
        obtain ⟨o8, hl8, hj6⟩ := bindS hj6
        refine q_loop (fun (s : (List impl_Variable) × spec_l1Cur) a w => ∃ (q10 : Piece), ∃ (s10 : Sl), ∃ s_9, ∃ p_c_11, s = (s_9, p_c_11) ∧ Fr a 46 [(0, (.pointer (some ⟨b_p_c, 0, none⟩))), (3, s10.v)] ∧ St X w0 w m [q10, [⟨b_p_c, [s1.v, (.int .i64 p_c_11.at_), (.int .u64 p_c_11.seed.v)], 53⟩]] ∧ OwnL m 83 q10 s10 s_9 ∧ Rd m s1 p_c_11.code ∧ p_c_11.code = p_c.code) (fun (o : (List impl_Variable) × spec_l1Cur) e a w => ∃ (q22 : Piece), ∃ (s22 : Sl), ∃ s_21, ∃ p_c_23, o = (s_21, p_c_23) ∧ e = .exit 1 ∧ Fr a 46 [(3, s22.v)] ∧ St X w0 w m [q22, [⟨b_p_c, [s1.v, (.int .i64 p_c_23.at_), (.int .u64 p_c_23.seed.v)], 53⟩]] ∧ OwnL m 83 q22 s22 s_21 ∧ Rd m s1 p_c_23.code ∧ p_c_23.code = p_c.code) hl8 ⟨q4, s4, _, _, rfl, hF.sub ⟨rfl, rfl, trivial⟩, hS.sel [1, 0] (by decide), h4, h8, (hk8.trans hk5)⟩ ?_ ?_
        ·clear hF hS
         rintro s a w st ⟨q10, s10, s_9, p_c_11, rfl, hF, hS, h10, h12, h12k⟩ hb8
         unfold spec_l1Cur_anySchema_l1 at hb8
         refine q_seq (q_seq (q_region (q_x (v := s10.v) hF hS (ex_move rfl) rfl rfl fun a hF => q_x (v := (.int .i64 (goLen s_9))) hF hS (ex_len Tryz.underlying23 rfl h10.len) rfl rfl fun a hF => q_x (v := (.pointer (some ⟨b_p_c, 0, none⟩))) hF hS (ex_move rfl) rfl rfl fun a hF => ?_)))
         have hS : St _ _ _ _ [[⟨b_p_c, [s1.v, (.int .i64 p_c_11.at_), (.int .u64 p_c_11.seed.v)], 53⟩], q10] := hS.sel [1, 0] (by decide)
         have hS13 : St _ _ _ _ ([[⟨b_p_c, [s1.v, (.int .i64 p_c_11.at_), (.int .u64 p_c_11.seed.v)], 53⟩]] ++ [q10]) := hS
         have hE13 := hS13.enter
         obtain ⟨t_14, ht_14, hb8⟩ := bindS hb8
         refine q_do rfl fun _ hK => wp_callX (vs := [(.pointer (some ⟨b_p_c, 0, none⟩)), (.int .i64 2)]) hF Tryz.func50 (by kernel_rfl) rfl rfl rfl (c_spec_l1Cur_pick p_c_11 2 t_14 ht_14 _ m b_p_c s1 h12 _ hE13) fun a w _ hR hF => hK _ _ ?_
         obtain ⟨rfl, hR13, hk15⟩ := hR
         have hS : St _ _ _ _ [[⟨b_p_c, [s1.v, (.int .i64 t_14.2.at_), (.int .u64 t_14.2.seed.v)], 53⟩], q10] := hS13.leaveF hR13
         have h15 : Rd m s1 t_14.2.code := by rw [hk15]; exact h12
         refine q_x (v := (.int .i64 (w64 (6 + t_14.1)))) hF hS (ex_ibin rfl rfl rfl) rfl rfl fun a hF => q_x (v := (.bool (decide ((goLen s_9) < (w64 (6 + t_14.1)))))) hF hS (ex_ibin rfl rfl rfl) rfl rfl fun a hF => q_end (n_sq ?_)
         rcases bcase (decide ((goLen s_9) < (w64 (6 + t_14.1)))) with hc9 | hc9
         ·have hb8 := cond_f hc9 hb8
          refine q_cond_f hF rfl hc9 (q_exit (x_sq ?_))
          obtain rfl := someI hb8
          exact ⟨nofun, .inl ⟨q10, s10, _, _, rfl, rfl, hF.sub ⟨rfl, trivial⟩, hS.sel [1, 0] (by decide), h10, h15, (hk15.trans h12k)⟩⟩
         ·have hb8 := cond_t hc9 hb8
          refine q_cond_t hF rfl hc9 (q_skipc (n_sq (q_block (q_region (q_x (v := s10.v) hF hS (ex_move rfl) rfl rfl fun a hF => q_x (v := s10.v) hF hS (ex_move rfl) rfl rfl fun a hF => q_x (v := (.int .i64 (goLen s_9))) hF hS (ex_len Tryz.underlying23 rfl h10.len) rfl rfl fun a hF => q_x (v := (.int .i64 (w64 (97 + (goLen s_9))))) hF hS (ex_ibin rfl rfl rfl) rfl rfl fun a hF => q_x (v := (.int .u8 (IntKind.wrap .u8 (w64 (97 + (goLen s_9)))))) hF hS (ex_conv Tryz.underlying3 Tryz.underlying5 rfl) rfl rfl fun a hF => q_do rfl fun _ hK => wp_buildSlice' (l := ([(⟨(IntKind.wrap .u8 (w64 (97 + (goLen s_9))))⟩ : K .u8)] : List (K .u8))) (cells := [(.int .u8 (IntKind.wrap .u8 (w64 (97 + (goLen s_9)))))]) hF hS Tryz.underlying22 inf5 rfl rfl (by kernel_rfl) rfl rfl rfl ⟨rfl, rfl⟩ rfl rfl fun a w q16 s16 hF hS h16 _ => hK _ _ (q_x (v := (strV (goBytes ([(⟨(IntKind.wrap .u8 (w64 (97 + (goLen s_9))))⟩ : K .u8)] : List (K .u8))))) hF hS (ex_toStr Tryz.underlying22 Tryz.underlying5 Tryz.underlying9 rfl (fun X w0 w hS => h16.vw hS (j := 0) rfl)) rfl rfl fun a hF => ?_))))))
          obtain ⟨t_17, ht_17, hb8⟩ := bindS hb8
          refine q_x (v := (strV t_17)) hF hS (ex_strCat rfl rfl ht_17) rfl rfl fun a hF => q_x (v := (.agg #[(strV t_17), (.int .i64 2)])) hF hS (ex_build (cells := [(strV t_17), (.int .i64 2)]) rfl (by kernel_rfl)) rfl rfl fun a hF => q_do rfl fun _ hK => wp_buildSlice' (l := ([(impl_Variable.mk t_17 2)] : List impl_Variable)) (cells := [(strV t_17), (.int .i64 2)]) hF hS Tryz.underlying23 inf83 rfl rfl (by kernel_rfl) rfl rfl rfl ⟨rfl, rfl⟩ rfl rfl fun a w q18 s18 hF hS h18 _ => hK _ _ ?_
          have hS : St _ _ _ _ [q10, q18, q16, [⟨b_p_c, [s1.v, (.int .i64 t_14.2.at_), (.int .u64 t_14.2.seed.v)], 53⟩]] := hS.sel [3, 0, 1, 2] (by decide)
          obtain ⟨l_19, hl_19, hb8⟩ := bindS hb8
          refine q_do rfl fun _ hK => wp_append hF hS h10 Tryz.underlying23 inf83 rfl rfl rfl rfl (h18.vw hS (j := 1) rfl) rfl (by decide) hl_19 rfl fun a w q20 s20 hF hS h20 => hK _ _ (q_x (v := s20.v) hF hS (ex_assign rfl) rfl rfl fun a hF => q_end (n_ib ?_))
          obtain rfl := someI hb8
          exact ⟨rfl, q20, s20, _, _, rfl, hF.sub ⟨rfl, rfl, trivial⟩, hS.mask [true, false, false, true], h20, h15, (hk15.trans h12k)⟩
        ·rintro e a w ⟨q22, s22, s_21, p_c_23, rfl, rfl, hF, hS, h22, h24, h24k⟩
         refine x_ib (n_jn ?_)
         obtain rfl := someI hj6
         exact ⟨q22, s22, _, _, rfl, hF.sub ⟨rfl, trivial⟩, hS, h22, h24, h24k⟩
      ·rintro a w ⟨q26, s26, s_25, p_c_27, rfl, hF, hS, h26, h28, h28k⟩
       refine n_jn ?_
       obtain rfl := someI hj3
       exact ⟨q26, s26, _, _, rfl, hF.sub ⟨rfl, trivial⟩, hS, h26, h28, h28k⟩
     ·have hj3 := cond_t hc5 hj3
      refine q_cond_t hF rfl hc5 (q_seq (q_region (q_x (v := nilS.v) hF hS (ex_assign rfl) rfl rfl fun a hF => q_end (n_sq (q_ret (r_jn ?_))))))
      obtain rfl := someI hj3
      refine r_jn ?_
      obtain rfl := someI hj1
      refine r_ib (r_sq ?_)
      obtain rfl := someI hr
      exact ret_ofX hF hS rfl (.tmp rfl .nil) ⟨[], nilS, rfl, hS.sel [0, 2] (by decide), (OwnL.nil (α := impl_Variable) m 83), (hk8.trans hk5)⟩
    ·have hj3 := cond_t hc4 hj3
     refine q_cond_t hF rfl hc4 (q_region (q_x (v := s4.v) hF hS (ex_move rfl) rfl rfl fun a hF => q_x (v := (.pointer (some ⟨b_p_c, 0, none⟩))) hF hS (ex_move rfl) rfl rfl fun a hF => q_do rfl fun _ hK => wp_buildSlice' (l := ([([] : List UInt8), ([65, 103, 101] : List UInt8), ([97, 98, 99, 100, 101, 102, 103, 104, 105] : List UInt8), ([97, 103, 101] : List UInt8), ([97, 98, 32, 99, 100] : List UInt8)] : List (List UInt8))) (cells := [(strV ([] : List UInt8)), (strV ([65, 103, 101] : List UInt8)), (strV ([97, 98, 99, 100, 101, 102, 103, 104, 105] : List UInt8)), (strV ([97, 103, 101] : List UInt8)), (strV ([97, 98, 32, 99, 100] : List UInt8))]) hF hS Tryz.underlying63 inf9 rfl rfl (by kernel_rfl) rfl rfl rfl ⟨rfl, rfl, rfl, rfl, rfl, rfl⟩ rfl rfl fun a w q29 s29 hF hS h29 _ => hK _ _ ?_))
     have hS : St _ _ _ _ [[⟨b_p_c, [s1.v, (.int .i64 t_7.2.at_), (.int .u64 t_7.2.seed.v)], 53⟩], q29, q4] := hS.sel [1, 0, 2] (by decide)
     have hS30 : St _ _ _ _ ([[⟨b_p_c, [s1.v, (.int .i64 t_7.2.at_), (.int .u64 t_7.2.seed.v)], 53⟩]] ++ [q29, q4]) := hS
     obtain ⟨m30, hl30, hE30, hz30⟩ := hS30.lendX
     obtain ⟨t_31, ht_31, hj3⟩ := bindS hj3
     refine q_do rfl fun _ hK => wp_callX (vs := [(.pointer (some ⟨b_p_c, 0, none⟩)), s29.v]) hF Tryz.func69 (by kernel_rfl) rfl rfl rfl (c_spec_l1Cur_of t_7.2 ([([] : List UInt8), ([65, 103, 101] : List UInt8), ([97, 98, 99, 100, 101, 102, 103, 104, 105] : List UInt8), ([97, 103, 101] : List UInt8), ([97, 98, 32, 99, 100] : List UInt8)] : List (List UInt8)) t_31 ht_31 _ m30 b_p_c s1 (h8.mono hl30) s29 (h29.froz hl30 (hz30 0 _ rfl)) _ hE30) fun a w _ hR hF => hK _ _ ?_
     obtain ⟨rfl, hR30, hk32⟩ := hR
     have hS : St _ _ _ _ [[⟨b_p_c, [s1.v, (.int .i64 t_31.2.at_), (.int .u64 t_31.2.seed.v)], 53⟩], q29, q4] := hS30.leaveF hR30
     have h32 : Rd m s1 t_31.2.code := by rw [hk32]; exact h8
     obtain ⟨e_33, he_33, hj3⟩ := bindS hj3
     obtain ⟨vs34, at34, d34⟩ := h4.at he_33 2 rfl
     obtain rfl : vs34 = [(strV e_33.Name), (.int .i64 e_33.Levels)] := d34
     refine q_x (v := (elP s4 ((0 : Int).toNat * 2))) hF hS (ex_indexAddr Tryz.underlying23 sz83 rfl rfl (h4.idx he_33)) rfl rfl fun a hF => q_x (v := (elP s4 ((0 : Int).toNat * 2 + 0))) hF hS (ex_fieldAddrE Tryz.underlying83 rfl sz9 rfl (h4.idx he_33) rfl) rfl rfl fun a hF => ?_
     have hS : St _ _ _ _ [q4, [⟨b_p_c, [s1.v, (.int .i64 t_31.2.at_), (.int .u64 t_31.2.seed.v)], 53⟩], q29] := hS.sel [2, 0, 1] (by decide)
     refine q_do rfl fun _ hK => wp_storeE (e' := (impl_Variable.mk t_31.1 e_33.Levels)) (us := [(strV t_31.1)]) (vs := [(strV e_33.Name), (.int .i64 e_33.Levels)]) 0 hF hS h4 sz9 rfl rfl rfl rfl rfl rfl rfl he_33 at34 rfl rfl rfl fun w q35 hS h35 => hK _ _ (q_end (n_jn ?_))
     obtain rfl := someI hj3
     exact ⟨q35, s4, _, _, rfl, hF.sub ⟨rfl, trivial⟩, hS.mask [true, true, false], h35, h32, (hk32.trans (hk8.trans hk5))⟩
   ·rintro a w ⟨q37, s37, s_36, p_c_38, rfl, hF, hS, h37, h39, h39k⟩
    refine n_jn ?_
    obtain rfl := someI hj1
    exact ⟨q37, s37, _, _, rfl, hF.sub ⟨rfl, trivial⟩, hS, h37, h39, h39k⟩
  ·have hj1 := cond_t hc2 hj1
   refine q_cond_t hF rfl hc2 (q_region (q_x (v := s4.v) hF hS (ex_move rfl) rfl rfl fun a hF => q_x (v := (.pointer (some ⟨b_p_c, 0, none⟩))) hF hS (ex_move rfl) rfl rfl fun a hF => q_do rfl fun _ hK => wp_buildSlice' (l := ([1, 8, 9] : List Int)) (cells := [(.int .i64 1), (.int .i64 8), (.int .i64 9)]) hF hS Tryz.underlying40 inf3 rfl rfl (by kernel_rfl) rfl rfl rfl ⟨rfl, rfl, rfl, rfl⟩ rfl rfl fun a w q40 s40 hF hS h40 _ => hK _ _ ?_))
   have hS : St _ _ _ _ [[⟨b_p_c, [s1.v, (.int .i64 t_7.2.at_), (.int .u64 t_7.2.seed.v)], 53⟩], q40, q4] := hS.sel [1, 0, 2] (by decide)
   have hS41 : St _ _ _ _ ([[⟨b_p_c, [s1.v, (.int .i64 t_7.2.at_), (.int .u64 t_7.2.seed.v)], 53⟩]] ++ [q40, q4]) := hS
   obtain ⟨m41, hl41, hE41, hz41⟩ := hS41.lendX
   obtain ⟨t_42, ht_42, hj1⟩ := bindS hj1
   refine q_do rfl fun _ hK => wp_callX (vs := [(.pointer (some ⟨b_p_c, 0, none⟩)), s40.v]) hF Tryz.func68 (by kernel_rfl) rfl rfl rfl (c_spec_l1Cur_among t_7.2 ([1, 8, 9] : List Int) t_42 ht_42 _ m41 b_p_c s1 (h8.mono hl41) s40 (h40.froz hl41 (hz41 0 _ rfl)) _ hE41) fun a w _ hR hF => hK _ _ ?_
   obtain ⟨rfl, hR41, hk43⟩ := hR
   have hS : St _ _ _ _ [[⟨b_p_c, [s1.v, (.int .i64 t_42.2.at_), (.int .u64 t_42.2.seed.v)], 53⟩], q40, q4] := hS41.leaveF hR41
   have h43 : Rd m s1 t_42.2.code := by rw [hk43]; exact h8
   obtain ⟨e_44, he_44, hj1⟩ := bindS hj1
   obtain ⟨vs45, at45, d45⟩ := h4.at he_44 2 rfl
   obtain rfl : vs45 = [(strV e_44.Name), (.int .i64 e_44.Levels)] := d45
   refine q_x (v := (elP s4 ((0 : Int).toNat * 2))) hF hS (ex_indexAddr Tryz.underlying23 sz83 rfl rfl (h4.idx he_44)) rfl rfl fun a hF => q_x (v := (elP s4 ((0 : Int).toNat * 2 + 1))) hF hS (ex_fieldAddrE Tryz.underlying83 rfl sz3 rfl (h4.idx he_44) rfl) rfl rfl fun a hF => ?_
   have hS : St _ _ _ _ [q4, [⟨b_p_c, [s1.v, (.int .i64 t_42.2.at_), (.int .u64 t_42.2.seed.v)], 53⟩], q40] := hS.sel [2, 0, 1] (by decide)
   refine q_do rfl fun _ hK => wp_storeE (e' := (impl_Variable.mk e_44.Name t_42.1)) (us := [(.int .i64 t_42.1)]) (vs := [(strV e_44.Name), (.int .i64 e_44.Levels)]) 1 hF hS h4 sz3 rfl rfl rfl rfl rfl rfl rfl he_44 at45 rfl rfl rfl fun w q46 hS h46 => hK _ _ (q_end (n_jn ?_))
   obtain rfl := someI hj1
   exact ⟨q46, s4, _, _, rfl, hF.sub ⟨rfl, trivial⟩, hS.mask [true, true, false], h46, h43, (hk43.trans (hk8.trans hk5))⟩
 ·rintro a w ⟨q48, s48, s_47, p_c_49, rfl, hF, hS, h48, h50, h50k⟩
  refine n_ib (n_sq ?_)
  refine q_seq (q_region (q_x (v := s48.v) hF hS (ex_move rfl) rfl rfl fun a hF => q_x (v := s48.v) hF hS (ex_assign rfl) rfl rfl fun a hF => q_end (n_sq (q_ret ?_))))
  obtain rfl := someI hr
  exact ret_ofX hF hS rfl (.tmp rfl .nil) ⟨q48, s48, rfl, hS.sel [1, 0] (by decide), h48, h50k⟩

theorem c_spec_l1Cur_values (p_c : spec_l1Cur) (p_s : List impl_Variable) (r : (List Int) × spec_l1Cur) (hr : spec_l1Cur_values p_c p_s = some r) (w0 : World) (m : Mem) (b_p_c : Nat) (s1 : Sl) (h1 : Rd m s1 p_c.code) (s2 : Sl) (h2 : Rd m s2 p_s) (X : List Nat) (hS : St X w0 w0 m [[⟨b_p_c, [s1.v, (.int .i64 p_c.at_), (.int .u64 p_c.seed.v)], 53⟩]]) :
  RetX Tryz.prog 71 [(.pointer (some ⟨b_p_c, 0, none⟩)), s2.v] w0 (fun v w => ∃ (q0' : Piece) (s0' : Sl), v = s0'.v ∧ St X w0 w m [[⟨b_p_c, [s1.v, (.int .i64 r.2.at_), (.int .u64 r.2.seed.v)], 53⟩], q0'] ∧ OwnL m 3 q0' s0' r.1 ∧ r.2.code = p_c.code) := by
 unfold spec_l1Cur_values at hr
 refine ret_startX Tryz.func71 rfl 23 rfl rfl fun a hF => q_seq (q_region (q_x (v := nilS.v) hF hS (ex_assign rfl) rfl rfl fun a hF => q_end (n_sq (q_seq (q_region (q_x (v := nilS.v) hF hS (ex_assign rfl) rfl rfl fun a hF => q_end (n_sq (q_seq (q_seq (q_region (q_x (v := s2.v) hF hS (ex_move rfl) rfl rfl fun a hF => q_x (v := (.int .i64 (goLen p_s))) hF hS (ex_len Tryz.underlying23 rfl h2.len) rfl rfl fun a hF => q_x (v := (.int .i64 0)) hF hS (ex_move rfl) rfl rfl fun a hF => q_end (n_sq (q_block ?_)))))))))))))
 obtain ⟨o1, hl1, hr⟩ := bindS hr
 refine q_loop (fun (s : (List Int) × Int × spec_l1Cur) a w => ∃ (q4 : Piece), ∃ (s4 : Sl), ∃ out_3, ∃ t_5, ∃ p_c_6, s = (out_3, t_5, p_c_6) ∧ Fr a 23 [(0, (.pointer (some ⟨b_p_c, 0, none⟩))), (5, s4.v), (8, s2.v), (9, (.int .i64 (goLen p_s))), (10, (.int .i64 t_5))] ∧ St X w0 w m [q4, [⟨b_p_c, [s1.v, (.int .i64 p_c_6.at_), (.int .u64 p_c_6.seed.v)], 53⟩]] ∧ OwnL m 3 q4 s4 out_3 ∧ Rd m s1 p_c_6.code ∧ p_c_6.code = p_c.code) (fun (o : (List Int) × spec_l1Cur) e a w => ∃ (q18 : Piece), ∃ (s18 : Sl), ∃ out_17, ∃ p_c_19, o = (out_17, p_c_19) ∧ e = .exit 0 ∧ Fr a 23 [(5, s18.v)] ∧ St X w0 w m [q18, [⟨b_p_c, [s1.v, (.int .i64 p_c_19.at_), (.int .u64 p_c_19.seed.v)], 53⟩]] ∧ OwnL m 3 q18 s18 out_17 ∧ Rd m s1 p_c_19.code ∧ p_c_19.code = p_c.code) hl1 ⟨[], nilS, _, _, _, rfl, hF.sub ⟨rfl, rfl, rfl, rfl, rfl, trivial⟩, hS.sel [1, 0] (by decide), (OwnL.nil (α := Int) m 3), h1, rfl⟩ ?_ ?_
 ·clear hF hS
  rintro s a w st ⟨q4, s4, out_3, t_5, p_c_6, rfl, hF, hS, h4, h7, h7k⟩ hb1
  unfold spec_l1Cur_values_l1 at hb1
  refine q_seq (q_region (q_x (v := (.bool (decide (t_5 < (goLen p_s))))) hF hS (ex_ibin rfl rfl rfl) rfl rfl fun a hF => q_end (n_sq (q_seq ?_))))
  rcases bcase (decide (t_5 < (goLen p_s))) with hc2 | hc2
  ·have hb1 := cond_f hc2 hb1
   refine q_cond_f hF rfl hc2 (q_exit (x_sq ?_))
   obtain rfl := someI hb1
   exact ⟨nofun, .inl ⟨q4, s4, _, _, rfl, rfl, hF.sub ⟨rfl, trivial⟩, hS, h4, h7, h7k⟩⟩
  ·have hb1 := cond_t hc2 hb1
   refine q_cond_t hF rfl hc2 (q_skipc (n_sq (q_seq (q_block (q_seq (q_region ?_))))))
   obtain ⟨e_8, he_8, hb1⟩ := bindS hb1
   obtain ⟨vs9, at9, d9⟩ := h2.at he_8 2 rfl
   obtain rfl : vs9 = [(strV e_8.Name), (.int .i64 e_8.Levels)] := d9
   refine q_x (v := (elP s2 (t_5.toNat * 2))) hF hS (ex_indexAddr Tryz.underlying23 sz83 rfl rfl (h2.idx he_8)) rfl rfl fun a hF => q_x (v := (.agg #[(strV e_8.Name), (.int .i64 e_8.Levels)])) hF hS (ex_loadEA (us := [(strV e_8.Name), (.int .i64 e_8.Levels)]) 0 Tryz.underlying83 rfl sz83 rfl ((at9).at) rfl rfl rfl) rfl rfl fun a hF => q_alloc (cs := [(strV ([] : List UInt8)), (.int .i64 0)]) hF hS rfl rfl rfl fun a w b10 hF hS => q_store (vs := [(strV e_8.Name), (.int .i64 e_8.Levels)]) (cs' := [(strV e_8.Name), (.int .i64 e_8.Levels)]) 0 0 hF hS sz83 rfl rfl rfl rfl rfl rfl rfl rfl fun a w hF hS => q_end (n_sq (q_region (q_x (v := s4.v) hF hS (ex_move rfl) rfl rfl fun a hF => q_x (v := (.pointer (some ⟨b_p_c, 0, none⟩))) hF hS (ex_move rfl) rfl rfl fun a hF => q_x (v := (.pointer (some ⟨b10, 1, none⟩))) hF hS (ex_fieldAddr Tryz.underlying83 rfl sz3 rfl rfl) rfl rfl fun a hF => q_x (v := (.int .i64 e_8.Levels)) hF hS (ex_load1 0 0 Tryz.underlying3 rfl rfl rfl rfl) rfl rfl fun a hF => ?_)))
   have hS : St _ _ _ _ [[⟨b_p_c, [s1.v, (.int .i64 p_c_6.at_), (.int .u64 p_c_6.seed.v)], 53⟩], [⟨b10, [(strV e_8.Name), (.int .i64 e_8.Levels)], 83⟩], q4] := hS.sel [2, 0, 1] (by decide)
   have hS11 : St _ _ _ _ ([[⟨b_p_c, [s1.v, (.int .i64 p_c_6.at_), (.int .u64 p_c_6.seed.v)], 53⟩]] ++ [[⟨b10, [(strV e_8.Name), (.int .i64 e_8.Levels)], 83⟩], q4]) := hS
   have hE11 := hS11.enter
   obtain ⟨t_12, ht_12, hb1⟩ := bindS hb1
   refine q_do rfl fun _ hK => wp_callX (vs := [(.pointer (some ⟨b_p_c, 0, none⟩)), (.int .i64 e_8.Levels)]) hF Tryz.func50 (by kernel_rfl) rfl rfl rfl (c_spec_l1Cur_pick p_c_6 e_8.Levels t_12 ht_12 _ m b_p_c s1 h7 _ hE11) fun a w _ hR hF => hK _ _ ?_
   obtain ⟨rfl, hR11, hk13⟩ := hR
   have hS : St _ _ _ _ [[⟨b_p_c, [s1.v, (.int .i64 t_12.2.at_), (.int .u64 t_12.2.seed.v)], 53⟩], [⟨b10, [(strV e_8.Name), (.int .i64 e_8.Levels)], 83⟩], q4] := hS11.leaveF hR11
   have h13 : Rd m s1 t_12.2.code := by rw [hk13]; exact h7
   refine q_do rfl fun _ hK => wp_buildSlice' (l := ([t_12.1] : List Int)) (cells := [(.int .i64 t_12.1)]) hF hS Tryz.underlying40 inf3 rfl rfl (by kernel_rfl) rfl rfl rfl ⟨rfl, rfl⟩ rfl rfl fun a w q14 s14 hF hS h14 _ => hK _ _ ?_
   have hS : St _ _ _ _ [q4, q14, [⟨b_p_c, [s1.v, (.int .i64 t_12.2.at_), (.int .u64 t_12.2.seed.v)], 53⟩], [⟨b10, [(strV e_8.Name), (.int .i64 e_8.Levels)], 83⟩]] := hS.sel [3, 0, 1, 2] (by decide)
   obtain ⟨l_15, hl_15, hb1⟩ := bindS hb1
   refine q_do rfl fun _ hK => wp_append hF hS h4 Tryz.underlying40 inf3 rfl rfl rfl rfl (h14.vw hS (j := 1) rfl) rfl (by decide) hl_15 rfl fun a w q16 s16 hF hS h16 => hK _ _ (q_x (v := s16.v) hF hS (ex_assign rfl) rfl rfl fun a hF => q_end (n_ib (n_sq (q_region (q_x (v := (.int .i64 (w64 (t_5 + 1)))) hF hS (ex_ibin rfl rfl rfl) rfl rfl fun a hF => q_x (v := (.int .i64 (w64 (t_5 + 1)))) hF hS (ex_move rfl) rfl rfl fun a hF => q_end ?_)))))
   obtain rfl := someI hb1
   exact ⟨rfl, q16, s16, _, _, _, rfl, hF.sub ⟨rfl, rfl, rfl, rfl, rfl, trivial⟩, hS.mask [true, false, true, false], h16, h13, (hk13.trans h7k)⟩
 ·rintro e a w ⟨q18, s18, out_17, p_c_19, rfl, rfl, hF, hS, h18, h20, h20k⟩
  refine x_ib (n_sq ?_)
  refine q_seq (q_region (q_x (v := s18.v) hF hS (ex_move rfl) rfl rfl fun a hF => q_x (v := s18.v) hF hS (ex_assign rfl) rfl rfl fun a hF => q_end (n_sq (q_ret ?_))))
  obtain rfl := someI hr
  exact ret_ofX hF hS rfl (.tmp rfl .nil) ⟨q18, s18, rfl, hS.sel [1, 0] (by decide), h18, h20k⟩

theorem c_spec_l1Cur_record (p_c : spec_l1Cur) (p_s : List impl_Variable) (p_areas : List Int) (r : impl_Record × spec_l1Cur) (hr : spec_l1Cur_record p_c p_s p_areas = some r) (w0 : World) (m : Mem) (b_p_c : Nat) (s1 : Sl) (h1 : Rd m s1 p_c.code) (s2 : Sl) (h2 : Rd m s2 p_s) (s3 : Sl) (h3 : Rd m s3 p_areas) (X : List Nat) (hS : St X w0 w0 m [[⟨b_p_c, [s1.v, (.int .i64 p_c.at_), (.int .u64 p_c.seed.v)], 53⟩]]) :
  RetX Tryz.prog 52 [(.pointer (some ⟨b_p_c, 0, none⟩)), s2.v, s3.v] w0 (fun v w => ∃ (q0' : Piece) (s0' : Sl), v = (.agg #[(.int .i64 r.1.Area), (.int .i64 r.1.House), s0'.v]) ∧ St X w0 w m [[⟨b_p_c, [s1.v, (.int .i64 r.2.at_), (.int .u64 r.2.seed.v)], 53⟩], q0'] ∧ OwnL m 3 q0' s0' r.1.Values ∧ r.2.code = p_c.code) := by
 unfold spec_l1Cur_record at hr
 refine ret_startX Tryz.func52 rfl 16 rfl rfl fun a hF => q_seq (q_region (q_alloc (cs := [(.int .i64 0), (.int .i64 0), nilS.v]) hF hS rfl rfl rfl fun a w b4 hF hS => q_end (n_sq (q_seq (q_region (q_x (v := (.pointer (some ⟨b_p_c, 0, none⟩))) hF hS (ex_move rfl) rfl rfl fun a hF => q_x (v := s3.v) hF hS (ex_move rfl) rfl rfl fun a hF => ?_))))))
 have hS : St _ _ _ _ [[⟨b_p_c, [s1.v, (.int .i64 p_c.at_), (.int .u64 p_c.seed.v)], 53⟩], [⟨b4, [(.int .i64 0), (.int .i64 0), nilS.v], 44⟩]] := hS.sel [1, 0] (by decide)
 have hS5 : St _ _ _ _ ([[⟨b_p_c, [s1.v, (.int .i64 p_c.at_), (.int .u64 p_c.seed.v)], 53⟩]] ++ [[⟨b4, [(.int .i64 0), (.int .i64 0), nilS.v], 44⟩]]) := hS
 have hE5 := hS5.enter
 obtain ⟨t_6, ht_6, hr⟩ := bindS hr
 refine q_do rfl fun _ hK => wp_callX (vs := [(.pointer (some ⟨b_p_c, 0, none⟩)), s3.v]) hF Tryz.func68 (by kernel_rfl) rfl rfl rfl (c_spec_l1Cur_among p_c p_areas t_6 ht_6 _ m b_p_c s1 h1 s3 h3 _ hE5) fun a w _ hR hF => hK _ _ ?_
 obtain ⟨rfl, hR5, hk7⟩ := hR
 have hS : St _ _ _ _ [[⟨b_p_c, [s1.v, (.int .i64 t_6.2.at_), (.int .u64 t_6.2.seed.v)], 53⟩], [⟨b4, [(.int .i64 0), (.int .i64 0), nilS.v], 44⟩]] := hS5.leaveF hR5
 have h7 : Rd m s1 t_6.2.code := by rw [hk7]; exact h1
 refine q_x (v := (.pointer (some ⟨b_p_c, 0, none⟩))) hF hS (ex_move rfl) rfl rfl fun a hF => ?_
 have hS8 : St _ _ _ _ ([[⟨b_p_c, [s1.v, (.int .i64 t_6.2.at_), (.int .u64 t_6.2.seed.v)], 53⟩]] ++ [[⟨b4, [(.int .i64 0), (.int .i64 0), nilS.v], 44⟩]]) := hS
 have hE8 := hS8.enter
 obtain ⟨t_9, ht_9, hr⟩ := bindS hr
 refine q_do rfl fun _ hK => wp_callX (vs := [(.pointer (some ⟨b_p_c, 0, none⟩)), (.int .i64 6)]) hF Tryz.func50 (by kernel_rfl) rfl rfl rfl (c_spec_l1Cur_pick t_6.2 6 t_9 ht_9 _ m b_p_c s1 h7 _ hE8) fun a w _ hR hF => hK _ _ ?_
 obtain ⟨rfl, hR8, hk10⟩ := hR
 have hS : St _ _ _ _ [[⟨b_p_c, [s1.v, (.int .i64 t_9.2.at_), (.int .u64 t_9.2.seed.v)], 53⟩], [⟨b4, [(.int .i64 0), (.int .i64 0), nilS.v], 44⟩]] := hS8.leaveF hR8
 have h10 : Rd m s1 t_9.2.code := by rw [hk10]; exact h7
 refine q_x (v := (.pointer (some ⟨b_p_c, 0, none⟩))) hF hS (ex_move rfl) rfl rfl fun a hF => q_x (v := s2.v) hF hS (ex_move rfl) rfl rfl fun a hF => ?_
 have hS11 : St _ _ _ _ ([[⟨b_p_c, [s1.v, (.int .i64 t_9.2.at_), (.int .u64 t_9.2.seed.v)], 53⟩]] ++ [[⟨b4, [(.int .i64 0), (.int .i64 0), nilS.v], 44⟩]]) := hS
 have hE11 := hS11.enter
 obtain ⟨t_12, ht_12, hr⟩ := bindS hr
 refine q_do rfl fun _ hK => wp_callX (vs := [(.pointer (some ⟨b_p_c, 0, none⟩)), s2.v]) hF Tryz.func71 (by kernel_rfl) rfl rfl rfl (c_spec_l1Cur_values t_9.2 p_s t_12 ht_12 _ m b_p_c s1 h10 s2 h2 _ hE11) fun a w _ hR hF => hK _ _ ?_
 obtain ⟨q13, s13, rfl, hR11, h13, hk14⟩ := hR
 have hS : St _ _ _ _ [[⟨b_p_c, [s1.v, (.int .i64 t_12.2.at_), (.int .u64 t_12.2.seed.v)], 53⟩], q13, [⟨b4, [(.int .i64 0), (.int .i64 0), nilS.v], 44⟩]] := hS11.leaveF hR11
 have h14 : Rd m s1 t_12.2.code := by rw [hk14]; exact h10
 refine q_x (v := (.agg #[(.int .i64 t_6.1), (.int .i64 t_9.1), s13.v])) hF hS (ex_build (cells := [(.int .i64 t_6.1), (.int .i64 t_9.1), s13.v]) rfl (by kernel_rfl)) rfl rfl fun a hF => q_store (vs := [(.int .i64 t_6.1), (.int .i64 t_9.1), s13.v]) (cs' := [(.int .i64 t_6.1), (.int .i64 t_9.1), s13.v]) 2 0 hF hS sz44 rfl rfl rfl rfl rfl rfl rfl rfl fun a w hF hS => q_end (n_sq (q_ret ?_))
 obtain rfl := someI hr
 exact ret_ofX hF hS rfl (.cellA (us := [(.int .i64 t_6.1), (.int .i64 t_9.1), s13.v]) 2 0 Tryz.underlying44 rfl sz44 rfl rfl rfl rfl .nil) ⟨q13, s13, rfl, hS.sel [0, 1] (by decide), h13, (hk14.trans (hk10.trans hk7))⟩

theorem c_spec_l1Cur_one (p_c : spec_l1Cur) (p_n : Int) (r : Bool × spec_l1Cur) (hr : spec_l1Cur_one p_c p_n = some r) (w0 : World) (m : Mem) (b_p_c : Nat) (s1 : Sl) (h1 : Rd m s1 p_c.code) (X : List Nat) (hS : St X w0 w0 m [[⟨b_p_c, [s1.v, (.int .i64 p_c.at_), (.int .u64 p_c.seed.v)], 53⟩]]) :
  RetX Tryz.prog 24 [(.pointer (some ⟨b_p_c, 0, none⟩)), (.int .i64 p_n)] w0 (fun v w => v = (.bool r.1) ∧ St X w0 w m [[⟨b_p_c, [s1.v, (.int .i64 r.2.at_), (.int .u64 r.2.seed.v)], 53⟩]] ∧ r.2.code = p_c.code) := by
 unfold spec_l1Cur_one at hr
 refine ret_startX Tryz.func24 rfl 9 rfl rfl fun a hF => q_seq (q_region (q_x (v := (.bool false)) hF hS (ex_assign rfl) rfl rfl fun a hF => q_end (n_sq (q_seq (q_region (q_x (v := (.pointer (some ⟨b_p_c, 0, none⟩))) hF hS (ex_move rfl) rfl rfl fun a hF => q_x (v := (.int .i64 p_n)) hF hS (ex_move rfl) rfl rfl fun a hF => ?_))))))
 have hS2 : St _ _ _ _ ([[⟨b_p_c, [s1.v, (.int .i64 p_c.at_), (.int .u64 p_c.seed.v)], 53⟩]] ++ []) := hS
 have hE2 := hS2.enter
 obtain ⟨t_3, ht_3, hr⟩ := bindS hr
 refine q_do rfl fun _ hK => wp_callX (vs := [(.pointer (some ⟨b_p_c, 0, none⟩)), (.int .i64 p_n)]) hF Tryz.func50 (by kernel_rfl) rfl rfl rfl (c_spec_l1Cur_pick p_c p_n t_3 ht_3 _ m b_p_c s1 h1 _ hE2) fun a w _ hR hF => hK _ _ ?_
 obtain ⟨rfl, hR2, hk4⟩ := hR
 have hS : St _ _ _ _ [[⟨b_p_c, [s1.v, (.int .i64 t_3.2.at_), (.int .u64 t_3.2.seed.v)], 53⟩]] := hS2.leaveF hR2
 have h4 : Rd m s1 t_3.2.code := by rw [hk4]; exact h1
 refine q_x (v := (.bool (t_3.1 == 0))) hF hS (ex_ibin rfl rfl rfl) rfl rfl fun a hF => q_x (v := (.bool (t_3.1 == 0))) hF hS (ex_assign rfl) rfl rfl fun a hF => q_end (n_sq (q_ret ?_))
 obtain rfl := someI hr
 exact ret_ofX hF hS rfl (.tmp rfl .nil) ⟨rfl, hS.sel [0] (by decide), hk4⟩

theorem c_spec_l1Own (p_l : List Int) (r : (List Int)) (hr : spec_l1Own p_l = some r) (w0 : World) (m : Mem) (hv : Vis m w0) (s1 : Sl) (h1 : Rd m s1 p_l) :
  Ret Tryz.prog 75 [s1.v] w0 (fun v w => ∃ (q0' : Piece) (s0' : Sl), v = s0'.v ∧ St [] w0 w m [q0'] ∧ OwnL m 3 q0' s0' r) := by
 unfold spec_l1Own at hr
 refine ret_start Tryz.func75 rfl 6 rfl rfl m hv fun a hF hS => q_seq (q_region (q_x (v := nilS.v) hF hS (ex_assign rfl) rfl rfl fun a hF => q_end (n_sq (q_seq (q_region (q_do rfl fun _ hK => wp_build0 (α := Int) hF hS Tryz.underlying40 inf3 rfl fun a w q2 s2 hF hS h2 _ => hK _ _ (q_x (v := s1.v) hF hS (ex_move rfl) rfl rfl fun a hF => ?_)))))))
 obtain ⟨l_3, hl_3, hr⟩ := bindS hr
 refine q_do rfl fun _ hK => wp_append hF hS h2 Tryz.underlying40 inf3 rfl rfl rfl rfl (h1.vw hS.vis) rfl (by decide) hl_3 rfl fun a w q4 s4 hF hS h4 => hK _ _ (q_x (v := s4.v) hF hS (ex_assign rfl) rfl rfl fun a hF => q_end (n_sq (q_ret ?_)))
 obtain rfl := someI hr
 exact ret_of hF hS rfl (.tmp rfl .nil) ⟨q4, s4, rfl, hS.sel [0] (by decide), h4⟩

theorem c_spec_rOwn (p_r : impl_Record) (r : impl_Record) (hr : spec_rOwn p_r = some r) (w0 : World) (m : Mem) (hv : Vis m w0) (s1 : Sl) (h1 : Rd m s1 p_r.Values) :
  Ret Tryz.prog 48 [(.agg #[(.int .i64 p_r.Area), (.int .i64 p_r.House), s1.v])] w0 (fun v w => ∃ (q0' : Piece) (s0' : Sl), v = (.agg #[(.int .i64 r.Area), (.int .i64 r.House), s0'.v]) ∧ St [] w0 w m [q0'] ∧ OwnL m 3 q0' s0' r.Values) := by
 unfold spec_rOwn at hr
 refine ret_start Tryz.func48 rfl 11 rfl rfl m hv fun a hF hS => q_seq (q_region (q_box (cs := [(.int .i64 p_r.Area), (.int .i64 p_r.House), s1.v]) hF hS rfl rfl rfl fun a w b2 hF hS => q_alloc (cs := [(.int .i64 0), (.int .i64 0), nilS.v]) hF hS rfl rfl rfl fun a w b3 hF hS => q_end (n_sq (q_seq (e_region ⟨[8], [b2]⟩ mixed fun w' hw' => ?_)))))
 have hS := hS.below hw'
 refine e_p (v := (.pointer (some ⟨b2, 0, none⟩))) 0 hF rfl (ex_fieldAddr Tryz.underlying44 rfl sz3 rfl rfl) rfl rfl (by kernel_rfl) (by kernel_rfl) (by kernel_rfl) fun a hF => e_xb (v := (.int .i64 p_r.Area)) 1 1 hF hS (.head _) rfl rfl (ex_load1 0 0 Tryz.underlying3 rfl rfl rfl rfl) rfl rfl (by kernel_rfl) (by kernel_rfl) (by kernel_rfl) fun a hF => e_p (v := (.pointer (some ⟨b2, 1, none⟩))) 2 hF rfl (ex_fieldAddr Tryz.underlying44 rfl sz3 rfl rfl) rfl rfl (by kernel_rfl) (by kernel_rfl) (by kernel_rfl) fun a hF => e_xb (v := (.int .i64 p_r.House)) 3 1 hF hS (.head _) rfl rfl (ex_load1 0 0 Tryz.underlying3 rfl rfl rfl rfl) rfl rfl (by kernel_rfl) (by kernel_rfl) (by kernel_rfl) fun a hF => e_p (v := (.pointer (some ⟨b2, 2, none⟩))) 4 hF rfl (ex_fieldAddr Tryz.underlying44 rfl sz40 rfl rfl) rfl rfl (by kernel_rfl) (by kernel_rfl) (by kernel_rfl) fun a hF => e_xb (v := s1.v) 5 1 hF hS (.head _) rfl rfl (ex_load1 0 0 Tryz.underlying40 rfl rfl rfl rfl) rfl rfl (by kernel_rfl) (by kernel_rfl) (by kernel_rfl) fun a hF => e_one 6 (by kernel_rfl) ?_
 obtain ⟨t_4, ht_4, hr⟩ := bindS hr
 refine e_call (vs := [s1.v]) hF hS rfl Tryz.func75 (by kernel_rfl) rfl rfl rfl (c_spec_l1Own p_r.Values t_4 ht_4 _ m hS.vis s1 h1) ?_
 rintro a w _ ⟨q6, s6, rfl, hR5, h6⟩ hF hS2
 have hS : St _ _ _ _ [q6, [⟨b3, [(.int .i64 0), (.int .i64 0), nilS.v], 44⟩], [⟨b2, [(.int .i64 p_r.Area), (.int .i64 p_r.House), s1.v], 44⟩]] := hS.joinF hR5
 refine e_p (v := (.agg #[(.int .i64 p_r.Area), (.int .i64 p_r.House), s6.v])) 7 hF rfl (ex_build (cells := [(.int .i64 p_r.Area), (.int .i64 p_r.House), s6.v]) rfl (by kernel_rfl)) rfl rfl (by kernel_rfl) (by kernel_rfl) (by kernel_rfl) fun a hF => e_one 8 (by kernel_rfl) ?_
 have hSo := hS
 refine e_store (vs := [(.int .i64 p_r.Area), (.int .i64 p_r.House), s6.v]) (cs' := [(.int .i64 p_r.Area), (.int .i64 p_r.House), s6.v]) 1 0 hF hS rfl rfl sz44 rfl rfl rfl rfl rfl rfl rfl rfl fun a w hF hS => ⟨kpC hSo hS 2 2 rfl rfl kpN, ?_⟩
 refine e_end (by kernel_rfl) (n_sq (q_ret ?_)) _
 obtain rfl := someI hr
 exact ret_of hF hS rfl (.cellA (us := [(.int .i64 p_r.Area), (.int .i64 p_r.House), s6.v]) 1 0 Tryz.underlying44 rfl sz44 rfl rfl rfl rfl .nil) ⟨q6, s6, rfl, hS.sel [0] (by decide), h6⟩

theorem c_spec_l1Cur_data (p_c : spec_l1Cur) (p_s : List impl_Variable) (p_areas : List Int) (r : (List impl_Record) × spec_l1Cur) (hr : spec_l1Cur_data p_c p_s p_areas = some r) (w0 : World) (m : Mem) (b_p_c : Nat) (s1 : Sl) (h1 : Rd m s1 p_c.code) (s2 : Sl) (h2 : Rd m s2 p_s) (s3 : Sl) (h3 : Rd m s3 p_areas) (X : List Nat) (hS : St X w0 w0 m [[⟨b_p_c, [s1.v, (.int .i64 p_c.at_), (.int .u64 p_c.seed.v)], 53⟩]]) :
  RetX Tryz.prog 23 [(.pointer (some ⟨b_p_c, 0, none⟩)), s2.v, s3.v] w0 (fun v w => ∃ (m' : Mem) (q0' : Piece) (s0' : Sl), v = s0'.v ∧ MLe X w0.heap.size m m' ∧ St X w0 w m' [[⟨b_p_c, [s1.v, (.int .i64 r.2.at_), (.int .u64 r.2.seed.v)], 53⟩], q0'] ∧ OwnL m' 44 q0' s0' r.1 ∧ r.2.code = p_c.code) := by
 unfold spec_l1Cur_data at hr
 refine ret_startX Tryz.func23 rfl 32 rfl rfl fun a hF => q_seq (q_region (q_x (v := nilS.v) hF hS (ex_assign rfl) rfl rfl fun a hF => q_end (n_sq (q_seq (q_region (q_x (v := nilS.v) hF hS (ex_assign rfl) rfl rfl fun a hF => q_end (n_sq (q_seq (q_seq (q_region (q_x (v := (.pointer (some ⟨b_p_c, 0, none⟩))) hF hS (ex_move rfl) rfl rfl fun a hF => ?_)))))))))))
 have hS4 : St _ _ _ _ ([[⟨b_p_c, [s1.v, (.int .i64 p_c.at_), (.int .u64 p_c.seed.v)], 53⟩]] ++ []) := hS
 have hE4 := hS4.enter
 obtain ⟨t_5, ht_5, hr⟩ := bindS hr
 refine q_do rfl fun _ hK => wp_callX (vs := [(.pointer (some ⟨b_p_c, 0, none⟩)), (.int .i64 12)]) hF Tryz.func50 (by kernel_rfl) rfl rfl rfl (c_spec_l1Cur_pick p_c 12 t_5 ht_5 _ m b_p_c s1 h1 _ hE4) fun a w _ hR hF => hK _ _ ?_
 obtain ⟨rfl, hR4, hk6⟩ := hR
 have hS : St _ _ _ _ [[⟨b_p_c, [s1.v, (.int .i64 t_5.2.at_), (.int .u64 t_5.2.seed.v)], 53⟩]] := hS4.leaveF hR4
 have h6 : Rd m s1 t_5.2.code := by rw [hk6]; exact h1
 refine q_x (v := (.int .i64 t_5.1)) hF hS (ex_assign rfl) rfl rfl fun a hF => q_end (n_sq (q_block ?_))
 obtain ⟨o1, hl1, hr⟩ := bindS hr
 refine q_loop (fun (s : (List impl_Record) × Int × spec_l1Cur) a w => ∃ (m12 : Mem), ∃ (q8 : Piece), ∃ (s8 : Sl), ∃ out_7, ∃ k_9, ∃ p_c_10, s = (out_7, k_9, p_c_10) ∧ Fr a 32 [(0, (.pointer (some ⟨b_p_c, 0, none⟩))), (1, s2.v), (2, s3.v), (7, s8.v), (8, (.int .i64 k_9))] ∧ St X w0 w m12 [q8, [⟨b_p_c, [s1.v, (.int .i64 p_c_10.at_), (.int .u64 p_c_10.seed.v)], 53⟩]] ∧ MLe X w0.heap.size m m12 ∧ OwnL m12 44 q8 s8 out_7 ∧ Rd m12 s1 p_c_10.code ∧ p_c_10.code = p_c.code) (fun (o : (List impl_Record) × spec_l1Cur) e a w => ∃ (m39 : Mem), ∃ (q36 : Piece), ∃ (s36 : Sl), ∃ out_35, ∃ p_c_37, o = (out_35, p_c_37) ∧ e = .exit 0 ∧ Fr a 32 [(7, s36.v)] ∧ St X w0 w m39 [q36, [⟨b_p_c, [s1.v, (.int .i64 p_c_37.at_), (.int .u64 p_c_37.seed.v)], 53⟩]] ∧ MLe X w0.heap.size m m39 ∧ OwnL m39 44 q36 s36 out_35 ∧ Rd m39 s1 p_c_37.code ∧ p_c_37.code = p_c.code) hl1 ⟨m, [], nilS, _, _, _, rfl, hF.sub ⟨rfl, rfl, rfl, rfl, rfl, trivial⟩, hS.sel [1, 0] (by decide), (MLe.refl _ _), (OwnL.nil (α := impl_Record) m 44), h6, hk6⟩ ?_ ?_
 ·clear hF hS
  rintro s a w st ⟨m12, q8, s8, out_7, k_9, p_c_10, rfl, hF, hS, hm12, h8, h11, h11k⟩ hb1
  unfold spec_l1Cur_data_l1 at hb1
  refine q_seq (q_seq (q_region (q_x (v := (.int .i64 k_9)) hF hS (ex_move rfl) rfl rfl fun a hF => q_x (v := (.bool (decide (0 < k_9)))) hF hS (ex_ibin rfl rfl rfl) rfl rfl fun a hF => q_end (n_sq ?_))))
  rcases bcase (decide (0 < k_9)) with hc2 | hc2
  ·have hb1 := cond_f hc2 hb1
   refine q_cond_f hF rfl hc2 (q_exit (x_sq ?_))
   obtain rfl := someI hb1
   exact ⟨nofun, .inl ⟨m12, q8, s8, _, _, rfl, rfl, hF.sub ⟨rfl, trivial⟩, hS, hm12, h8, h11, h11k⟩⟩
  ·have hb1 := cond_t hc2 hb1
   refine q_cond_t hF rfl hc2 (q_skipc (n_sq (q_seq (q_block (q_seq (q_region (q_x (v := (.pointer (some ⟨b_p_c, 0, none⟩))) hF hS (ex_move rfl) rfl rfl fun a hF => q_x (v := s2.v) hF hS (ex_move rfl) rfl rfl fun a hF => q_x (v := s3.v) hF hS (ex_move rfl) rfl rfl fun a hF => ?_)))))))
   have hS : St _ _ _ _ [[⟨b_p_c, [s1.v, (.int .i64 p_c_10.at_), (.int .u64 p_c_10.seed.v)], 53⟩], q8] := hS.sel [1, 0] (by decide)
   have hS13 : St _ _ _ _ ([[⟨b_p_c, [s1.v, (.int .i64 p_c_10.at_), (.int .u64 p_c_10.seed.v)], 53⟩]] ++ [q8]) := hS
   have hE13 := hS13.enter
   obtain ⟨t_14, ht_14, hb1⟩ := bindS hb1
   refine q_do rfl fun _ hK => wp_callX (vs := [(.pointer (some ⟨b_p_c, 0, none⟩)), s2.v, s3.v]) hF Tryz.func52 (by kernel_rfl) rfl rfl rfl (c_spec_l1Cur_record p_c_10 p_s p_areas t_14 ht_14 _ m12 b_p_c s1 h11 s2 (h2.mono hm12.le) s3 (h3.mono hm12.le) _ hE13) fun a w _ hR hF => hK _ _ ?_
   obtain ⟨q15, s15, rfl, hR13, h15, hk16⟩ := hR
   have hS : St _ _ _ _ [[⟨b_p_c, [s1.v, (.int .i64 t_14.2.at_), (.int .u64 t_14.2.seed.v)], 53⟩], q15, q8] := hS13.leaveF hR13
   have h16 : Rd m12 s1 t_14.2.code := by rw [hk16]; exact h11
   refine q_alloc (cs := [(.int .i64 0), (.int .i64 0), nilS.v]) hF hS rfl rfl rfl fun a w b17 hF hS => q_store (vs := [(.int .i64 t_14.1.Area), (.int .i64 t_14.1.House), s15.v]) (cs' := [(.int .i64 t_14.1.Area), (.int .i64 t_14.1.House), s15.v]) 0 0 hF hS sz44 rfl rfl rfl rfl rfl rfl rfl rfl fun a w hF hS => q_end (n_sq (q_seq (q_region (q_x (v := s8.v) hF hS (ex_move rfl) rfl rfl fun a hF => q_x (v := (.agg #[(.int .i64 t_14.1.Area), (.int .i64 t_14.1.House), s15.v])) hF hS (ex_loadA (vs := [(.int .i64 t_14.1.Area), (.int .i64 t_14.1.House), s15.v]) 0 0 Tryz.underlying44 rfl sz44 rfl rfl rfl rfl) rfl rfl fun a hF => ?_))))
   have hS : St _ _ _ _ [q15, [⟨b17, [(.int .i64 t_14.1.Area), (.int .i64 t_14.1.House), s15.v], 44⟩], [⟨b_p_c, [s1.v, (.int .i64 t_14.2.at_), (.int .u64 t_14.2.seed.v)], 53⟩], q8] := hS.sel [2, 0, 1, 3] (by decide)
   obtain ⟨m19, hm19, hS, hz19⟩ := hS.freeze
   have h19 := h15.froz hm19.le hz19
   refine q_do rfl fun _ hK => wp_buildSlice' (l := ([t_14.1] : List impl_Record)) (cells := [(.int .i64 t_14.1.Area), (.int .i64 t_14.1.House), s15.v]) hF hS Tryz.underlying24 inf44 rfl rfl (by kernel_rfl) rfl rfl rfl ⟨⟨s15, rfl, h19⟩, rfl⟩ rfl rfl fun a w q18 s18 hF hS h18 _ => hK _ _ ?_
   have hS : St _ _ _ _ [q8, q18, [⟨b17, [(.int .i64 t_14.1.Area), (.int .i64 t_14.1.House), s15.v], 44⟩], [⟨b_p_c, [s1.v, (.int .i64 t_14.2.at_), (.int .u64 t_14.2.seed.v)], 53⟩]] := hS.sel [3, 0, 1, 2] (by decide)
   obtain ⟨l_20, hl_20, hb1⟩ := bindS hb1
   refine q_do rfl fun _ hK => wp_append hF hS (h8.mono hm19.le) Tryz.underlying24 inf44 rfl rfl rfl rfl (h18.vw hS (j := 1) rfl) rfl (by decide) hl_20 rfl fun a w q21 s21 hF hS h21 => hK _ _ (q_x (v := s21.v) hF hS (ex_assign rfl) rfl rfl fun a hF => q_end (n_sq (q_seq (q_region (q_x (v := (.pointer (some ⟨b_p_c, 0, none⟩))) hF hS (ex_move rfl) rfl rfl fun a hF => ?_)))))
   have hS : St _ _ _ _ [[⟨b_p_c, [s1.v, (.int .i64 t_14.2.at_), (.int .u64 t_14.2.seed.v)], 53⟩], q21, q18, [⟨b17, [(.int .i64 t_14.1.Area), (.int .i64 t_14.1.House), s15.v], 44⟩]] := hS.sel [3, 0, 1, 2] (by decide)
   have hS22 : St _ _ _ _ ([[⟨b_p_c, [s1.v, (.int .i64 t_14.2.at_), (.int .u64 t_14.2.seed.v)], 53⟩]] ++ [q21, q18, [⟨b17, [(.int .i64 t_14.1.Area), (.int .i64 t_14.1.House), s15.v], 44⟩]]) := hS
   have hE22 := hS22.enter
   obtain ⟨t_23, ht_23, hb1⟩ := bindS hb1
   refine q_do rfl fun _ hK => wp_callX (vs := [(.pointer (some ⟨b_p_c, 0, none⟩)), (.int .i64 4)]) hF Tryz.func24 (by kernel_rfl) rfl rfl rfl (c_spec_l1Cur_one t_14.2 4 t_23 ht_23 _ m19 b_p_c s1 (h16.mono hm19.le) _ hE22) fun a w _ hR hF => hK _ _ ?_
   obtain ⟨rfl, hR22, hk24⟩ := hR
   have hS : St _ _ _ _ [[⟨b_p_c, [s1.v, (.int .i64 t_23.2.at_), (.int .u64 t_23.2.seed.v)], 53⟩], q21, q18, [⟨b17, [(.int .i64 t_14.1.Area), (.int .i64 t_14.1.House), s15.v], 44⟩]] := hS22.leaveF hR22
   have h24 : Rd m19 s1 t_23.2.code := by rw [hk24]; exact (h16.mono hm19.le)
   refine q_end (n_sq ?_)
   obtain ⟨out_32, hj3, hb1⟩ := bindS hb1
   refine q_join (fun a w => ∃ (m34 : Mem), ∃ (q33 : Piece), ∃ (s33 : Sl), Fr a 32 [(0, (.pointer (some ⟨b_p_c, 0, none⟩))), (1, s2.v), (2, s3.v), (7, s33.v), (8, (.int .i64 k_9))] ∧ St X w0 w m34 [q33, [⟨b_p_c, [s1.v, (.int .i64 t_23.2.at_), (.int .u64 t_23.2.seed.v)], 53⟩]] ∧ MLe X w0.heap.size m19 m34 ∧ OwnL m34 44 q33 s33 out_32) ?_ ?_
   ·rcases bcase (t_23.1) with hc4 | hc4
    ·have hj3 := cond_f hc4 hj3
     refine q_cond_f hF rfl hc4 (q_skipc (n_jn ?_))
     obtain rfl := someI hj3
     exact ⟨m19, q21, s21, hF.sub ⟨rfl, rfl, rfl, rfl, rfl, trivial⟩, hS.sel [1, 0] (by decide), (MLe.refl _ _), h21⟩
    ·have hj3 := cond_t hc4 hj3
     refine q_cond_t hF rfl hc4 (q_region (q_x (v := s21.v) hF hS (ex_move rfl) rfl rfl fun a hF => q_x (v := (.agg #[(.int .i64 t_14.1.Area), (.int .i64 t_14.1.House), s15.v])) hF hS (ex_loadA (vs := [(.int .i64 t_14.1.Area), (.int .i64 t_14.1.House), s15.v]) 3 0 Tryz.underlying44 rfl sz44 rfl rfl rfl rfl) rfl rfl fun a hF => ?_))
     obtain ⟨t_25, ht_25, hj3⟩ := bindS hj3
     refine q_call (vs := [(.agg #[(.int .i64 t_14.1.Area), (.int .i64 t_14.1.House), s15.v])]) hF hS Tryz.func48 (by kernel_rfl) rfl rfl rfl (c_spec_rOwn t_14.1 t_25 ht_25 _ m19 hS.vis s15 h19) ?_
     rintro a w _ ⟨q27, s27, rfl, hR26, h27⟩ hF hS2
     have hS : St _ _ _ _ [q27, [⟨b_p_c, [s1.v, (.int .i64 t_23.2.at_), (.int .u64 t_23.2.seed.v)], 53⟩], q21, q18, [⟨b17, [(.int .i64 t_14.1.Area), (.int .i64 t_14.1.House), s15.v], 44⟩]] := hS.joinF hR26
     obtain ⟨m29, hm29, hS, hz29⟩ := hS.freeze
     have h29 := h27.froz hm29.le hz29
     refine q_do rfl fun _ hK => wp_buildSlice' (l := ([t_25] : List impl_Record)) (cells := [(.int .i64 t_25.Area), (.int .i64 t_25.House), s27.v]) hF hS Tryz.underlying24 inf44 rfl rfl (by kernel_rfl) rfl rfl rfl ⟨⟨s27, rfl, h29⟩, rfl⟩ rfl rfl fun a w q28 s28 hF hS h28 _ => hK _ _ ?_
     have hS : St _ _ _ _ [q21, q28, [⟨b_p_c, [s1.v, (.int .i64 t_23.2.at_), (.int .u64 t_23.2.seed.v)], 53⟩], q18, [⟨b17, [(.int .i64 t_14.1.Area), (.int .i64 t_14.1.House), s15.v], 44⟩]] := hS.sel [2, 0, 1, 3, 4] (by decide)
     obtain ⟨l_30, hl_30, hj3⟩ := bindS hj3
     refine q_do rfl fun _ hK => wp_append hF hS (h21.mono hm29.le) Tryz.underlying24 inf44 rfl rfl rfl rfl (h28.vw hS (j := 1) rfl) rfl (by decide) hl_30 rfl fun a w q31 s31 hF hS h31 => hK _ _ (q_x (v := s31.v) hF hS (ex_assign rfl) rfl rfl fun a hF => q_end (n_jn ?_))
     obtain rfl := someI hj3
     exact ⟨m29, q31, s31, hF.sub ⟨rfl, rfl, rfl, rfl, rfl, trivial⟩, hS.mask [true, false, true, false, false], hm29, h31⟩
   ·rintro a w ⟨m34, q33, s33, hF, hS, hm34, h33⟩
    refine n_ib (n_sq ?_)
    refine q_region (q_x (v := (.int .i64 k_9)) hF hS (ex_move rfl) rfl rfl fun a hF => q_x (v := (.int .i64 (w64 (k_9 - 1)))) hF hS (ex_ibin rfl rfl rfl) rfl rfl fun a hF => q_x (v := (.int .i64 (w64 (k_9 - 1)))) hF hS (ex_assign rfl) rfl rfl fun a hF => q_end ?_)
    obtain rfl := someI hb1
    exact ⟨rfl, m34, q33, s33, _, _, _, rfl, hF.sub ⟨rfl, rfl, rfl, rfl, rfl, trivial⟩, hS, ((hm12.trans hm19).trans hm34), h33, (h24.mono hm34.le), (hk24.trans (hk16.trans h11k))⟩
 ·rintro e a w ⟨m39, q36, s36, out_35, p_c_37, rfl, rfl, hF, hS, hm39, h36, h38, h38k⟩
  refine x_ib (n_sq ?_)
  refine q_seq (q_region (q_x (v := s36.v) hF hS (ex_move rfl) rfl rfl fun a hF => q_x (v := s36.v) hF hS (ex_assign rfl) rfl rfl fun a hF => q_end (n_sq (q_ret ?_))))
  obtain rfl := someI hr
  exact ret_ofX hF hS rfl (.tmp rfl .nil) ⟨m39, q36, s36, rfl, hm39, hS.sel [1, 0] (by decide), h36, h38k⟩

theorem c_spec_l1Cur_anyValues (p_c : spec_l1Cur) (p_s : List impl_Variable) (r : (List Int) × spec_l1Cur) (hr : spec_l1Cur_anyValues p_c p_s = some r) (w0 : World) (m : Mem) (b_p_c : Nat) (s1 : Sl) (h1 : Rd m s1 p_c.code) (s2 : Sl) (h2 : Rd m s2 p_s) (X : List Nat) (hS : St X w0 w0 m [[⟨b_p_c, [s1.v, (.int .i64 p_c.at_), (.int .u64 p_c.seed.v)], 53⟩]]) :
  RetX Tryz.prog 70 [(.pointer (some ⟨b_p_c, 0, none⟩)), s2.v] w0 (fun v w => ∃ (q0' : Piece) (s0' : Sl), v = s0'.v ∧ St X w0 w m [[⟨b_p_c, [s1.v, (.int .i64 r.2.at_), (.int .u64 r.2.seed.v)], 53⟩], q0'] ∧ OwnL m 3 q0' s0' r.1 ∧ r.2.code = p_c.code) := by
 unfold spec_l1Cur_anyValues at hr
 refine ret_startX Tryz.func70 rfl 33 rfl rfl fun a hF => q_seq (q_region (q_x (v := nilS.v) hF hS (ex_assign rfl) rfl rfl fun a hF => q_end (n_sq (q_seq (q_region (q_x (v := (.pointer (some ⟨b_p_c, 0, none⟩))) hF hS (ex_move rfl) rfl rfl fun a hF => q_x (v := s2.v) hF hS (ex_move rfl) rfl rfl fun a hF => ?_))))))
 have hS3 : St _ _ _ _ ([[⟨b_p_c, [s1.v, (.int .i64 p_c.at_), (.int .u64 p_c.seed.v)], 53⟩]] ++ []) := hS
 have hE3 := hS3.enter
 obtain ⟨t_4, ht_4, hr⟩ := bindS hr
 refine q_do rfl fun _ hK => wp_callX (vs := [(.pointer (some ⟨b_p_c, 0, none⟩)), s2.v]) hF Tryz.func71 (by kernel_rfl) rfl rfl rfl (c_spec_l1Cur_values p_c p_s t_4 ht_4 _ m b_p_c s1 h1 s2 h2 _ hE3) fun a w _ hR hF => hK _ _ ?_
 obtain ⟨q5, s5, rfl, hR3, h5, hk6⟩ := hR
 have hS : St _ _ _ _ [[⟨b_p_c, [s1.v, (.int .i64 t_4.2.at_), (.int .u64 t_4.2.seed.v)], 53⟩], q5] := hS3.leaveF hR3
 have h6 : Rd m s1 t_4.2.code := by rw [hk6]; exact h1
 refine q_x (v := s5.v) hF hS (ex_assign rfl) rfl rfl fun a hF => q_end (n_sq (q_seq (q_block (q_seq ?_))))
 obtain ⟨j1, hj1, hr⟩ := bindS hr
 refine q_join (fun a w => ∃ t_10, ∃ p_c_11, j1 = (t_10, p_c_11) ∧ Fr a 33 [(0, (.pointer (some ⟨b_p_c, 0, none⟩))), (5, s5.v), (9, (.bool t_10))] ∧ St X w0 w m [q5, [⟨b_p_c, [s1.v, (.int .i64 p_c_11.at_), (.int .u64 p_c_11.seed.v)], 53⟩]] ∧ Rd m s1 p_c_11.code ∧ p_c_11.code = p_c.code) ?_ ?_
 ·refine q_region (q_x (v := s5.v) hF hS (ex_move rfl) rfl rfl fun a hF => q_x (v := (.int .i64 (goLen t_4.1))) hF hS (ex_len Tryz.underlying40 rfl h5.len) rfl rfl fun a hF => q_x (v := (.bool (decide (0 < (goLen t_4.1))))) hF hS (ex_ibin rfl rfl rfl) rfl rfl fun a hF => q_x (v := (.bool (decide (0 < (goLen t_4.1))))) hF hS (ex_move rfl) rfl rfl fun a hF => ?_)
  rcases bcase (decide (0 < (goLen t_4.1))) with hc2 | hc2
  ·have hj1 := cond_f hc2 hj1
   refine q_skip hF (wanted_f hF rfl rfl rfl hc2 rfl) rfl fun a hF => q_skip hF (wanted_f hF rfl rfl rfl hc2 rfl) rfl fun a hF => q_x (v := (.bool false)) hF hS (ex_pick_f rfl rfl hc2) rfl rfl fun a hF => q_x (v := (.bool false)) hF hS (ex_assign rfl) rfl rfl fun a hF => q_end (n_jn ?_)
   obtain rfl := someI hj1
   exact ⟨_, _, rfl, hF.sub ⟨rfl, rfl, rfl, trivial⟩, hS.sel [1, 0] (by decide), h6, hk6⟩
  ·have hj1 := cond_t hc2 hj1
   refine q_xg (v := (.pointer (some ⟨b_p_c, 0, none⟩))) hF hS (ex_move rfl) (wanted_t hF rfl rfl rfl hc2) rfl fun a hF => ?_
   have hS7 : St _ _ _ _ ([[⟨b_p_c, [s1.v, (.int .i64 t_4.2.at_), (.int .u64 t_4.2.seed.v)], 53⟩]] ++ [q5]) := hS
   have hE7 := hS7.enter
   obtain ⟨t_8, ht_8, hj1⟩ := bindS hj1
   refine q_dog (wanted_t hF rfl rfl rfl hc2) fun _ hK => wp_callX (vs := [(.pointer (some ⟨b_p_c, 0, none⟩)), (.int .i64 16)]) hF Tryz.func24 (by kernel_rfl) rfl rfl rfl (c_spec_l1Cur_one t_4.2 16 t_8 ht_8 _ m b_p_c s1 h6 _ hE7) fun a w _ hR hF => hK _ _ ?_
   obtain ⟨rfl, hR7, hk9⟩ := hR
   have hS : St _ _ _ _ [[⟨b_p_c, [s1.v, (.int .i64 t_8.2.at_), (.int .u64 t_8.2.seed.v)], 53⟩], q5] := hS7.leaveF hR7
   have h9 : Rd m s1 t_8.2.code := by rw [hk9]; exact h6
   refine q_x (v := (.bool t_8.1)) hF hS (ex_pick_t rfl rfl hc2) rfl rfl fun a hF => q_x (v := (.bool t_8.1)) hF hS (ex_assign rfl) rfl rfl fun a hF => q_end (n_jn ?_)
   obtain rfl := someI hj1
   exact ⟨_, _, rfl, hF.sub ⟨rfl, rfl, rfl, trivial⟩, hS.sel [1, 0] (by decide), h9, (hk9.trans hk6)⟩
 ·rintro a w ⟨t_10, p_c_11, rfl, hF, hS, h12, h12k⟩
  refine n_sq ?_
  obtain ⟨j3, hj3, hr⟩ := bindS hr
  refine q_join (fun a w => ∃ (q30 : Piece), ∃ out_29, ∃ p_c_31, j3 = .inl (out_29, p_c_31) ∧ Fr a 33 [(5, s5.v)] ∧ St X w0 w m [q30, [⟨b_p_c, [s1.v, (.int .i64 p_c_31.at_), (.int .u64 p_c_31.seed.v)], 53⟩]] ∧ OwnL m 3 q30 s5 out_29 ∧ Rd m s1 p_c_31.code ∧ p_c_31.code = p_c.code) ?_ ?_
  ·rcases bcase (t_10) with hc4 | hc4
   ·have hj3 := cond_f hc4 hj3
    refine q_cond_f hF rfl hc4 (q_seq (q_region (q_x (v := (.pointer (some ⟨b_p_c, 0, none⟩))) hF hS (ex_move rfl) rfl rfl fun a hF => ?_)))
    have hS : St _ _ _ _ [[⟨b_p_c, [s1.v, (.int .i64 p_c_11.at_), (.int .u64 p_c_11.seed.v)], 53⟩], q5] := hS.sel [1, 0] (by decide)
    have hS13 : St _ _ _ _ ([[⟨b_p_c, [s1.v, (.int .i64 p_c_11.at_), (.int .u64 p_c_11.seed.v)], 53⟩]] ++ [q5]) := hS
    have hE13 := hS13.enter
    obtain ⟨t_14, ht_14, hj3⟩ := bindS hj3
    refine q_do rfl fun _ hK => wp_callX (vs := [(.pointer (some ⟨b_p_c, 0, none⟩)), (.int .i64 24)]) hF Tryz.func24 (by kernel_rfl) rfl rfl rfl (c_spec_l1Cur_one p_c_11 24 t_14 ht_14 _ m b_p_c s1 h12 _ hE13) fun a w _ hR hF => hK _ _ ?_
    obtain ⟨rfl, hR13, hk15⟩ := hR
    have hS : St _ _ _ _ [[⟨b_p_c, [s1.v, (.int .i64 t_14.2.at_), (.int .u64 t_14.2.seed.v)], 53⟩], q5] := hS13.leaveF hR13
    have h15 : Rd m s1 t_14.2.code := by rw [hk15]; exact h12
    refine q_x (v := (.bool t_14.1)) hF hS (ex_assign rfl) rfl rfl fun a hF => q_end (n_sq ?_)
    rcases bcase (t_14.1) with hc5 | hc5
    ·have hj3 := cond_f hc5 hj3
     refine q_cond_f hF rfl hc5 (q_skipc (n_jn ?_))
     obtain rfl := someI hj3
     exact ⟨q5, _, _, rfl, hF.sub ⟨rfl, trivial⟩, hS.sel [1, 0] (by decide), h5, h15, (hk15.trans h12k)⟩
    ·have hj3 := cond_t hc5 hj3
     refine q_cond_t hF rfl hc5 (q_seq (q_region (q_x (v := s5.v) hF hS (ex_move rfl) rfl rfl fun a hF => q_do rfl fun _ hK => wp_buildSlice' (l := ([0] : List Int)) (cells := [(.int .i64 0)]) hF hS Tryz.underlying40 inf3 rfl rfl (by kernel_rfl) rfl rfl rfl ⟨rfl, rfl⟩ rfl rfl fun a w q16 s16 hF hS h16 _ => hK _ _ ?_)))
     have hS : St _ _ _ _ [q5, q16, [⟨b_p_c, [s1.v, (.int .i64 t_14.2.at_), (.int .u64 t_14.2.seed.v)], 53⟩]] := hS.sel [2, 0, 1] (by decide)
     obtain ⟨l_17, hl_17, hj3⟩ := bindS hj3
     refine q_do rfl fun _ hK => wp_append hF hS h5 Tryz.underlying40 inf3 rfl rfl rfl rfl (h16.vw hS (j := 1) rfl) rfl (by decide) hl_17 rfl fun a w q18 s18 hF hS h18 => hK _ _ (q_x (v := s18.v) hF hS (ex_assign rfl) rfl rfl fun a hF => q_end (n_sq (q_ret (r_jn ?_))))
     obtain rfl := someI hj3
     refine r_ib (r_sq ?_)
     obtain rfl := someI hr
     exact ret_ofX hF hS rfl (.tmp rfl .nil) ⟨q18, s18, rfl, hS.sel [2, 0] (by decide), h18, (hk15.trans h12k)⟩
   ·have hj3 := cond_t hc4 hj3
    refine q_cond_t hF rfl hc4 (q_region (q_x (v := s5.v) hF hS (ex_move rfl) rfl rfl fun a hF => q_x (v := (.pointer (some ⟨b_p_c, 0, none⟩))) hF hS (ex_move rfl) rfl rfl fun a hF => q_x (v := s5.v) hF hS (ex_move rfl) rfl rfl fun a hF => q_x (v := (.int .i64 (goLen t_4.1))) hF hS (ex_len Tryz.underlying40 rfl h5.len) rfl rfl fun a hF => ?_))
    have hS : St _ _ _ _ [[⟨b_p_c, [s1.v, (.int .i64 p_c_11.at_), (.int .u64 p_c_11.seed.v)], 53⟩], q5] := hS.sel [1, 0] (by decide)
    have hS19 : St _ _ _ _ ([[⟨b_p_c, [s1.v, (.int .i64 p_c_11.at_), (.int .u64 p_c_11.seed.v)], 53⟩]] ++ [q5]) := hS
    have hE19 := hS19.enter
    obtain ⟨t_20, ht_20, hj3⟩ := bindS hj3
    refine q_do rfl fun _ hK => wp_callX (vs := [(.pointer (some ⟨b_p_c, 0, none⟩)), (.int .i64 (goLen t_4.1))]) hF Tryz.func50 (by kernel_rfl) rfl rfl rfl (c_spec_l1Cur_pick p_c_11 (goLen t_4.1) t_20 ht_20 _ m b_p_c s1 h12 _ hE19) fun a w _ hR hF => hK _ _ ?_
    obtain ⟨rfl, hR19, hk21⟩ := hR
    have hS : St _ _ _ _ [[⟨b_p_c, [s1.v, (.int .i64 t_20.2.at_), (.int .u64 t_20.2.seed.v)], 53⟩], q5] := hS19.leaveF hR19
    have h21 : Rd m s1 t_20.2.code := by rw [hk21]; exact h12
    refine q_x (v := (.pointer (some ⟨b_p_c, 0, none⟩))) hF hS (ex_move rfl) rfl rfl fun a hF => q_do rfl fun _ hK => wp_buildSlice' (l := ([-1, 2, 8] : List Int)) (cells := [(.int .i64 (-1)), (.int .i64 2), (.int .i64 8)]) hF hS Tryz.underlying40 inf3 rfl rfl (by kernel_rfl) rfl rfl rfl ⟨rfl, rfl, rfl, rfl⟩ rfl rfl fun a w q22 s22 hF hS h22 _ => hK _ _ ?_
    have hS : St _ _ _ _ [[⟨b_p_c, [s1.v, (.int .i64 t_20.2.at_), (.int .u64 t_20.2.seed.v)], 53⟩], q22, q5] := hS.sel [1, 0, 2] (by decide)
    have hS23 : St _ _ _ _ ([[⟨b_p_c, [s1.v, (.int .i64 t_20.2.at_), (.int .u64 t_20.2.seed.v)], 53⟩]] ++ [q22, q5]) := hS
    obtain ⟨m23, hl23, hE23, hz23⟩ := hS23.lendX
    obtain ⟨t_24, ht_24, hj3⟩ := bindS hj3
    refine q_do rfl fun _ hK => wp_callX (vs := [(.pointer (some ⟨b_p_c, 0, none⟩)), s22.v]) hF Tryz.func68 (by kernel_rfl) rfl rfl rfl (c_spec_l1Cur_among t_20.2 ([-1, 2, 8] : List Int) t_24 ht_24 _ m23 b_p_c s1 (h21.mono hl23) s22 (h22.froz hl23 (hz23 0 _ rfl)) _ hE23) fun a w _ hR hF => hK _ _ ?_
    obtain ⟨rfl, hR23, hk25⟩ := hR
    have hS : St _ _ _ _ [[⟨b_p_c, [s1.v, (.int .i64 t_24.2.at_), (.int .u64 t_24.2.seed.v)], 53⟩], q22, q5] := hS23.leaveF hR23
    have h25 : Rd m s1 t_24.2.code := by rw [hk25]; exact h21
    obtain ⟨e_26, he_26, hj3⟩ := bindS hj3
    obtain ⟨vs27, at27, d27⟩ := h5.at he_26 1 rfl
    obtain rfl : vs27 = [(.int .i64 e_26)] := d27
    refine q_x (v := (elP s5 (t_20.1.toNat * 1))) hF hS (ex_indexAddr Tryz.underlying40 sz3 rfl rfl (h5.idx he_26)) rfl rfl fun a hF => ?_
    have hS : St _ _ _ _ [q5, [⟨b_p_c, [s1.v, (.int .i64 t_24.2.at_), (.int .u64 t_24.2.seed.v)], 53⟩], q22] := hS.sel [2, 0, 1] (by decide)
    refine q_do rfl fun _ hK => wp_storeE (e' := t_24.1) (us := [(.int .i64 t_24.1)]) (vs := [(.int .i64 e_26)]) 0 hF hS h5 sz3 rfl rfl rfl rfl rfl rfl rfl he_26 at27 rfl rfl rfl fun w q28 hS h28 => hK _ _ (q_end (n_jn ?_))
    obtain rfl := someI hj3
    exact ⟨q28, _, _, rfl, hF.sub ⟨rfl, trivial⟩, hS.mask [true, true, false], h28, h25, (hk25.trans (hk21.trans h12k))⟩
  ·rintro a w ⟨q30, out_29, p_c_31, rfl, hF, hS, h30, h32, h32k⟩
   refine n_ib (n_sq ?_)
   refine q_seq (q_region (q_x (v := s5.v) hF hS (ex_move rfl) rfl rfl fun a hF => q_x (v := s5.v) hF hS (ex_assign rfl) rfl rfl fun a hF => q_end (n_sq (q_ret ?_))))
   obtain rfl := someI hr
   exact ret_ofX hF hS rfl (.tmp rfl .nil) ⟨q30, s5, rfl, hS.sel [1, 0] (by decide), h30, h32k⟩

theorem c_spec_l1Cur_anyData (p_c : spec_l1Cur) (p_s : List impl_Variable) (r : (List impl_Record) × spec_l1Cur) (hr : spec_l1Cur_anyData p_c p_s = some r) (w0 : World) (m : Mem) (b_p_c : Nat) (s1 : Sl) (h1 : Rd m s1 p_c.code) (s2 : Sl) (h2 : Rd m s2 p_s) (X : List Nat) (hS : St X w0 w0 m [[⟨b_p_c, [s1.v, (.int .i64 p_c.at_), (.int .u64 p_c.seed.v)], 53⟩]]) :
  RetX Tryz.prog 43 [(.pointer (some ⟨b_p_c, 0, none⟩)), s2.v] w0 (fun v w => ∃ (m' : Mem) (q0' : Piece) (s0' : Sl), v = s0'.v ∧ MLe X w0.heap.size m m' ∧ St X w0 w m' [[⟨b_p_c, [s1.v, (.int .i64 r.2.at_), (.int .u64 r.2.seed.v)], 53⟩], q0'] ∧ OwnL m' 44 q0' s0' r.1 ∧ r.2.code = p_c.code) := by
 unfold spec_l1Cur_anyData at hr
 refine ret_startX Tryz.func43 rfl 43 rfl rfl fun a hF => q_seq (q_region (q_x (v := nilS.v) hF hS (ex_assign rfl) rfl rfl fun a hF => q_end (n_sq (q_seq (q_region (q_x (v := (.pointer (some ⟨b_p_c, 0, none⟩))) hF hS (ex_move rfl) rfl rfl fun a hF => q_x (v := s2.v) hF hS (ex_move rfl) rfl rfl fun a hF => q_do rfl fun _ hK => wp_buildSlice' (l := ([0, 1, 2, 3] : List Int)) (cells := [(.int .i64 0), (.int .i64 1), (.int .i64 2), (.int .i64 3)]) hF hS Tryz.underlying40 inf3 rfl rfl (by kernel_rfl) rfl rfl rfl ⟨rfl, rfl, rfl, rfl, rfl⟩ rfl rfl fun a w q3 s3 hF hS h3 _ => hK _ _ ?_))))))
 obtain ⟨m4, hm4, hS, hz4⟩ := hS.freeze
 have h4 := h3.froz hm4.le hz4
 have hS5 : St _ _ _ _ ([[⟨b_p_c, [s1.v, (.int .i64 p_c.at_), (.int .u64 p_c.seed.v)], 53⟩]] ++ []) := hS
 have hE5 := hS5.enter
 obtain ⟨t_6, ht_6, hr⟩ := bindS hr
 refine q_do rfl fun _ hK => wp_callX (vs := [(.pointer (some ⟨b_p_c, 0, none⟩)), s2.v, s3.v]) hF Tryz.func23 (by kernel_rfl) rfl rfl rfl (c_spec_l1Cur_data p_c p_s ([0, 1, 2, 3] : List Int) t_6 ht_6 _ m4 b_p_c s1 (h1.mono hm4.le) s2 (h2.mono hm4.le) s3 h4 _ hE5) fun a w _ hR hF => hK _ _ ?_
 obtain ⟨m5', q7, s7, rfl, hm5, hR5, h7, hk8⟩ := hR
 have hS : St _ _ _ _ [[⟨b_p_c, [s1.v, (.int .i64 t_6.2.at_), (.int .u64 t_6.2.seed.v)], 53⟩], q7] := hS5.leave hR5 hm5
 have hm5 := MLe.weakX hS5 hm5
 have h8 : Rd m5' s1 t_6.2.code := by rw [hk8]; exact ((h1.mono hm4.le).mono hm5.le)
 refine q_x (v := s7.v) hF hS (ex_assign rfl) rfl rfl fun a hF => q_end (n_sq (q_seq (q_seq (q_region (q_x (v := (.pointer (some ⟨b_p_c, 0, none⟩))) hF hS (ex_move rfl) rfl rfl fun a hF => ?_)))))
 have hS9 : St _ _ _ _ ([[⟨b_p_c, [s1.v, (.int .i64 t_6.2.at_), (.int .u64 t_6.2.seed.v)], 53⟩]] ++ [q7]) := hS
 have hE9 := hS9.enter
 obtain ⟨t_10, ht_10, hr⟩ := bindS hr
 refine q_do rfl fun _ hK => wp_callX (vs := [(.pointer (some ⟨b_p_c, 0, none⟩)), (.int .i64 24)]) hF Tryz.func50 (by kernel_rfl) rfl rfl rfl (c_spec_l1Cur_pick t_6.2 24 t_10 ht_10 _ m5' b_p_c s1 h8 _ hE9) fun a w _ hR hF => hK _ _ ?_
 obtain ⟨rfl, hR9, hk11⟩ := hR
 have hS : St _ _ _ _ [[⟨b_p_c, [s1.v, (.int .i64 t_10.2.at_), (.int .u64 t_10.2.seed.v)], 53⟩], q7] := hS9.leaveF hR9
 have h11 : Rd m5' s1 t_10.2.code := by rw [hk11]; exact h8
 refine q_end (n_sq (q_block (q_seq (q_region (q_x (v := (.bool (t_10.1 == 0))) hF hS (ex_ibin rfl rfl rfl) rfl rfl fun a hF => q_x (v := (.bool (t_10.1 == 0))) hF hS (ex_assign rfl) rfl rfl fun a hF => q_end (n_sq ?_))))))
 obtain ⟨j1, hj1, hr⟩ := bindS hr
 refine q_join (fun a w => ∃ (m58 : Mem), ∃ (q55 : Piece), ∃ (s55 : Sl), ∃ out_54, ∃ p_c_56, j1 = (out_54, p_c_56) ∧ Fr a 43 [(5, s55.v)] ∧ St X w0 w m58 [q55, [⟨b_p_c, [s1.v, (.int .i64 p_c_56.at_), (.int .u64 p_c_56.seed.v)], 53⟩]] ∧ MLe X w0.heap.size m5' m58 ∧ OwnL m58 44 q55 s55 out_54 ∧ Rd m58 s1 p_c_56.code ∧ p_c_56.code = p_c.code) ?_ ?_
 ·rcases bcase (t_10.1 == 0) with hc2 | hc2
  ·have hj1 := cond_f hc2 hj1
   refine q_cond_f hF rfl hc2 (q_seq (q_region (q_x (v := (.bool (t_10.1 == 1))) hF hS (ex_ibin rfl rfl rfl) rfl rfl fun a hF => q_x (v := (.bool (t_10.1 == 1))) hF hS (ex_assign rfl) rfl rfl fun a hF => q_end (n_sq ?_))))
   obtain ⟨j3, hj3, hj1⟩ := bindS hj1
   refine q_join (fun a w => ∃ (m37 : Mem), ∃ (q34 : Piece), ∃ (s34 : Sl), ∃ out_33, ∃ p_c_35, j3 = (out_33, p_c_35) ∧ Fr a 43 [(5, s34.v)] ∧ St X w0 w m37 [q34, [⟨b_p_c, [s1.v, (.int .i64 p_c_35.at_), (.int .u64 p_c_35.seed.v)], 53⟩]] ∧ MLe X w0.heap.size m5' m37 ∧ OwnL m37 44 q34 s34 out_33 ∧ Rd m37 s1 p_c_35.code ∧ p_c_35.code = p_c.code) ?_ ?_
   ·rcases bcase (t_10.1 == 1) with hc4 | hc4
    ·have hj3 := cond_f hc4 hj3
     refine q_cond_f hF rfl hc4 (q_skipc (n_jn ?_))
     obtain rfl := someI hj3
     exact ⟨m5', q7, s7, _, _, rfl, hF.sub ⟨rfl, trivial⟩, hS.sel [1, 0] (by decide), (MLe.refl _ _), h7, h11, (hk11.trans hk8)⟩
    ·have hj3 := cond_t hc4 hj3
     refine q_cond_t hF rfl hc4 (q_block ?_)
     obtain ⟨o5, hl5, hj3⟩ := bindS hj3
     refine q_loop (fun (s : (List impl_Record) × spec_l1Cur) a w => ∃ (m16 : Mem), ∃ (q13 : Piece), ∃ (s13 : Sl), ∃ out_12, ∃ p_c_14, s = (out_12, p_c_14) ∧ Fr a 43 [(0, (.pointer (some ⟨b_p_c, 0, none⟩))), (1, s2.v), (5, s13.v)] ∧ St X w0 w m16 [q13, [⟨b_p_c, [s1.v, (.int .i64 p_c_14.at_), (.int .u64 p_c_14.seed.v)], 53⟩]] ∧ MLe X w0.heap.size m5' m16 ∧ OwnL m16 44 q13 s13 out_12 ∧ Rd m16 s1 p_c_14.code ∧ p_c_14.code = p_c.code) (fun (o : (List impl_Record) × spec_l1Cur) e a w => ∃ (m32 : Mem), ∃ (q29 : Piece), ∃ (s29 : Sl), ∃ out_28, ∃ p_c_30, o = (out_28, p_c_30) ∧ e = .exit 1 ∧ Fr a 43 [(5, s29.v)] ∧ St X w0 w m32 [q29, [⟨b_p_c, [s1.v, (.int .i64 p_c_30.at_), (.int .u64 p_c_30.seed.v)], 53⟩]] ∧ MLe X w0.heap.size m5' m32 ∧ OwnL m32 44 q29 s29 out_28 ∧ Rd m32 s1 p_c_30.code ∧ p_c_30.code = p_c.code) hl5 ⟨m5', q7, s7, _, _, rfl, hF.sub ⟨rfl, rfl, rfl, trivial⟩, hS.sel [1, 0] (by decide), (MLe.refl _ _), h7, h11, (hk11.trans hk8)⟩ ?_ ?_
     ·clear hF hS
      rintro s a w st ⟨m16, q13, s13, out_12, p_c_14, rfl, hF, hS, hm16, h13, h15, h15k⟩ hb5
      unfold spec_l1Cur_anyData_l1 at hb5
      refine q_seq (q_seq (q_region (q_x (v := s13.v) hF hS (ex_move rfl) rfl rfl fun a hF => q_x (v := (.int .i64 (goLen out_12))) hF hS (ex_len Tryz.underlying24 rfl h13.len) rfl rfl fun a hF => q_x (v := (.pointer (some ⟨b_p_c, 0, none⟩))) hF hS (ex_move rfl) rfl rfl fun a hF => ?_)))
      have hS : St _ _ _ _ [[⟨b_p_c, [s1.v, (.int .i64 p_c_14.at_), (.int .u64 p_c_14.seed.v)], 53⟩], q13] := hS.sel [1, 0] (by decide)
      have hS17 : St _ _ _ _ ([[⟨b_p_c, [s1.v, (.int .i64 p_c_14.at_), (.int .u64 p_c_14.seed.v)], 53⟩]] ++ [q13]) := hS
      have hE17 := hS17.enter
      obtain ⟨t_18, ht_18, hb5⟩ := bindS hb5
      refine q_do rfl fun _ hK => wp_callX (vs := [(.pointer (some ⟨b_p_c, 0, none⟩)), (.int .i64 2)]) hF Tryz.func50 (by kernel_rfl) rfl rfl rfl (c_spec_l1Cur_pick p_c_14 2 t_18 ht_18 _ m16 b_p_c s1 h15 _ hE17) fun a w _ hR hF => hK _ _ ?_
      obtain ⟨rfl, hR17, hk19⟩ := hR
      have hS : St _ _ _ _ [[⟨b_p_c, [s1.v, (.int .i64 t_18.2.at_), (.int .u64 t_18.2.seed.v)], 53⟩], q13] := hS17.leaveF hR17
      have h19 : Rd m16 s1 t_18.2.code := by rw [hk19]; exact h15
      refine q_x (v := (.int .i64 (w64 (40 + t_18.1)))) hF hS (ex_ibin rfl rfl rfl) rfl rfl fun a hF => q_x (v := (.bool (decide ((goLen out_12) < (w64 (40 + t_18.1)))))) hF hS (ex_ibin rfl rfl rfl) rfl rfl fun a hF => q_end (n_sq ?_)
      rcases bcase (decide ((goLen out_12) < (w64 (40 + t_18.1)))) with hc6 | hc6
      ·have hb5 := cond_f hc6 hb5
       refine q_cond_f hF rfl hc6 (q_exit (x_sq ?_))
       obtain rfl := someI hb5
       exact ⟨nofun, .inl ⟨m16, q13, s13, _, _, rfl, rfl, hF.sub ⟨rfl, trivial⟩, hS.sel [1, 0] (by decide), hm16, h13, h19, (hk19.trans h15k)⟩⟩
      ·have hb5 := cond_t hc6 hb5
       refine q_cond_t hF rfl hc6 (q_skipc (n_sq (q_block (q_region (q_x (v := s13.v) hF hS (ex_move rfl) rfl rfl fun a hF => q_x (v := (.pointer (some ⟨b_p_c, 0, none⟩))) hF hS (ex_move rfl) rfl rfl fun a hF => q_x (v := s2.v) hF hS (ex_move rfl) rfl rfl fun a hF => ?_)))))
       have hS20 : St _ _ _ _ ([[⟨b_p_c, [s1.v, (.int .i64 t_18.2.at_), (.int .u64 t_18.2.seed.v)], 53⟩]] ++ [q13]) := hS
       have hE20 := hS20.enter
       obtain ⟨t_21, ht_21, hb5⟩ := bindS hb5
       refine q_do rfl fun _ hK => wp_callX (vs := [(.pointer (some ⟨b_p_c, 0, none⟩)), s2.v]) hF Tryz.func71 (by kernel_rfl) rfl rfl rfl (c_spec_l1Cur_values t_18.2 p_s t_21 ht_21 _ m16 b_p_c s1 h19 s2 (((h2.mono hm4.le).mono hm5.le).mono hm16.le) _ hE20) fun a w _ hR hF => hK _ _ ?_
       obtain ⟨q22, s22, rfl, hR20, h22, hk23⟩ := hR
       have hS : St _ _ _ _ [[⟨b_p_c, [s1.v, (.int .i64 t_21.2.at_), (.int .u64 t_21.2.seed.v)], 53⟩], q22, q13] := hS20.leaveF hR20
       have h23 : Rd m16 s1 t_21.2.code := by rw [hk23]; exact h19
       refine q_x (v := (.agg #[(.int .i64 0), (.int .i64 0), s22.v])) hF hS (ex_build (cells := [(.int .i64 0), (.int .i64 0), s22.v]) rfl (by kernel_rfl)) rfl rfl fun a hF => ?_
       have hS : St _ _ _ _ [q22, [⟨b_p_c, [s1.v, (.int .i64 t_21.2.at_), (.int .u64 t_21.2.seed.v)], 53⟩], q13] := hS.sel [1, 0, 2] (by decide)
       obtain ⟨m25, hm25, hS, hz25⟩ := hS.freeze
       have h25 := h22.froz hm25.le hz25
       refine q_do rfl fun _ hK => wp_buildSlice' (l := ([(impl_Record.mk 0 0 t_21.1)] : List impl_Record)) (cells := [(.int .i64 0), (.int .i64 0), s22.v]) hF hS Tryz.underlying24 inf44 rfl rfl (by kernel_rfl) rfl rfl rfl ⟨⟨s22, rfl, h25⟩, rfl⟩ rfl rfl fun a w q24 s24 hF hS h24 _ => hK _ _ ?_
       have hS : St _ _ _ _ [q13, q24, [⟨b_p_c, [s1.v, (.int .i64 t_21.2.at_), (.int .u64 t_21.2.seed.v)], 53⟩]] := hS.sel [2, 0, 1] (by decide)
       obtain ⟨l_26, hl_26, hb5⟩ := bindS hb5
       refine q_do rfl fun _ hK => wp_append hF hS (h13.mono hm25.le) Tryz.underlying24 inf44 rfl rfl rfl rfl (h24.vw hS (j := 1) rfl) rfl (by decide) hl_26 rfl fun a w q27 s27 hF hS h27 => hK _ _ (q_x (v := s27.v) hF hS (ex_assign rfl) rfl rfl fun a hF => q_end (n_ib ?_))
       obtain rfl := someI hb5
       exact ⟨rfl, m25, q27, s27, _, _, rfl, hF.sub ⟨rfl, rfl, rfl, trivial⟩, hS.mask [true, false, true], (hm16.trans hm25), h27, (h23.mono hm25.le), (hk23.trans (hk19.trans h15k))⟩
     ·rintro e a w ⟨m32, q29, s29, out_28, p_c_30, rfl, rfl, hF, hS, hm32, h29, h31, h31k⟩
      refine x_ib (n_jn ?_)
      obtain rfl := someI hj3
      exact ⟨m32, q29, s29, _, _, rfl, hF.sub ⟨rfl, trivial⟩, hS, hm32, h29, h31, h31k⟩
   ·rintro a w ⟨m37, q34, s34, out_33, p_c_35, rfl, hF, hS, hm37, h34, h36, h36k⟩
    refine n_jn ?_
    obtain rfl := someI hj1
    exact ⟨m37, q34, s34, _, _, rfl, hF.sub ⟨rfl, trivial⟩, hS, hm37, h34, h36, h36k⟩
  ·have hj1 := cond_t hc2 hj1
   refine q_cond_t hF rfl hc2 (q_region (q_x (v := s7.v) hF hS (ex_move rfl) rfl rfl fun a hF => q_x (v := (.pointer (some ⟨b_p_c, 0, none⟩))) hF hS (ex_move rfl) rfl rfl fun a hF => q_do rfl fun _ hK => wp_buildSlice' (l := ([-1, 29, 30] : List Int)) (cells := [(.int .i64 (-1)), (.int .i64 29), (.int .i64 30)]) hF hS Tryz.underlying40 inf3 rfl rfl (by kernel_rfl) rfl rfl rfl ⟨rfl, rfl, rfl, rfl⟩ rfl rfl fun a w q38 s38 hF hS h38 _ => hK _ _ ?_))
   have hS : St _ _ _ _ [[⟨b_p_c, [s1.v, (.int .i64 t_10.2.at_), (.int .u64 t_10.2.seed.v)], 53⟩], q38, q7] := hS.sel [1, 0, 2] (by decide)
   have hS39 : St _ _ _ _ ([[⟨b_p_c, [s1.v, (.int .i64 t_10.2.at_), (.int .u64 t_10.2.seed.v)], 53⟩]] ++ [q38, q7]) := hS
   obtain ⟨m39, hl39, hE39, hz39⟩ := hS39.lendX
   obtain ⟨t_40, ht_40, hj1⟩ := bindS hj1
   refine q_do rfl fun _ hK => wp_callX (vs := [(.pointer (some ⟨b_p_c, 0, none⟩)), s38.v]) hF Tryz.func68 (by kernel_rfl) rfl rfl rfl (c_spec_l1Cur_among t_10.2 ([-1, 29, 30] : List Int) t_40 ht_40 _ m39 b_p_c s1 (h11.mono hl39) s38 (h38.froz hl39 (hz39 0 _ rfl)) _ hE39) fun a w _ hR hF => hK _ _ ?_
   obtain ⟨rfl, hR39, hk41⟩ := hR
   have hS : St _ _ _ _ [[⟨b_p_c, [s1.v, (.int .i64 t_40.2.at_), (.int .u64 t_40.2.seed.v)], 53⟩], q38, q7] := hS39.leaveF hR39
   have h41 : Rd m5' s1 t_40.2.code := by rw [hk41]; exact h11
   refine q_x (v := (.pointer (some ⟨b_p_c, 0, none⟩))) hF hS (ex_move rfl) rfl rfl fun a hF => q_do rfl fun _ hK => wp_buildSlice' (l := ([0, 999, 1000, -1] : List Int)) (cells := [(.int .i64 0), (.int .i64 999), (.int .i64 1000), (.int .i64 (-1))]) hF hS Tryz.underlying40 inf3 rfl rfl (by kernel_rfl) rfl rfl rfl ⟨rfl, rfl, rfl, rfl, rfl⟩ rfl rfl fun a w q42 s42 hF hS h42 _ => hK _ _ ?_
   have hS : St _ _ _ _ [[⟨b_p_c, [s1.v, (.int .i64 t_40.2.at_), (.int .u64 t_40.2.seed.v)], 53⟩], q42, q38, q7] := hS.sel [1, 0, 2, 3] (by decide)
   have hS43 : St _ _ _ _ ([[⟨b_p_c, [s1.v, (.int .i64 t_40.2.at_), (.int .u64 t_40.2.seed.v)], 53⟩]] ++ [q42, q38, q7]) := hS
   obtain ⟨m43, hl43, hE43, hz43⟩ := hS43.lendX
   obtain ⟨t_44, ht_44, hj1⟩ := bindS hj1
   refine q_do rfl fun _ hK => wp_callX (vs := [(.pointer (some ⟨b_p_c, 0, none⟩)), s42.v]) hF Tryz.func68 (by kernel_rfl) rfl rfl rfl (c_spec_l1Cur_among t_40.2 ([0, 999, 1000, -1] : List Int) t_44 ht_44 _ m43 b_p_c s1 (h41.mono hl43) s42 (h42.froz hl43 (hz43 0 _ rfl)) _ hE43) fun a w _ hR hF => hK _ _ ?_
   obtain ⟨rfl, hR43, hk45⟩ := hR
   have hS : St _ _ _ _ [[⟨b_p_c, [s1.v, (.int .i64 t_44.2.at_), (.int .u64 t_44.2.seed.v)], 53⟩], q42, q38, q7] := hS43.leaveF hR43
   have h45 : Rd m5' s1 t_44.2.code := by rw [hk45]; exact h41
   refine q_x (v := (.pointer (some ⟨b_p_c, 0, none⟩))) hF hS (ex_move rfl) rfl rfl fun a hF => q_x (v := s2.v) hF hS (ex_move rfl) rfl rfl fun a hF => ?_
   have hS46 : St _ _ _ _ ([[⟨b_p_c, [s1.v, (.int .i64 t_44.2.at_), (.int .u64 t_44.2.seed.v)], 53⟩]] ++ [q42, q38, q7]) := hS
   have hE46 := hS46.enter
   obtain ⟨t_47, ht_47, hj1⟩ := bindS hj1
   refine q_do rfl fun _ hK => wp_callX (vs := [(.pointer (some ⟨b_p_c, 0, none⟩)), s2.v]) hF Tryz.func70 (by kernel_rfl) rfl rfl rfl (c_spec_l1Cur_anyValues t_44.2 p_s t_47 ht_47 _ m5' b_p_c s1 h45 s2 ((h2.mono hm4.le).mono hm5.le) _ hE46) fun a w _ hR hF => hK _ _ ?_
   obtain ⟨q48, s48, rfl, hR46, h48, hk49⟩ := hR
   have hS : St _ _ _ _ [[⟨b_p_c, [s1.v, (.int .i64 t_47.2.at_), (.int .u64 t_47.2.seed.v)], 53⟩], q48, q42, q38, q7] := hS46.leaveF hR46
   have h49 : Rd m5' s1 t_47.2.code := by rw [hk49]; exact h45
   refine q_x (v := (.agg #[(.int .i64 t_40.1), (.int .i64 t_44.1), s48.v])) hF hS (ex_build (cells := [(.int .i64 t_40.1), (.int .i64 t_44.1), s48.v]) rfl (by kernel_rfl)) rfl rfl fun a hF => ?_
   have hS : St _ _ _ _ [q48, [⟨b_p_c, [s1.v, (.int .i64 t_47.2.at_), (.int .u64 t_47.2.seed.v)], 53⟩], q42, q38, q7] := hS.sel [1, 0, 2, 3, 4] (by decide)
   obtain ⟨m51, hm51, hS, hz51⟩ := hS.freeze
   have h51 := h48.froz hm51.le hz51
   refine q_do rfl fun _ hK => wp_buildSlice' (l := ([(impl_Record.mk t_40.1 t_44.1 t_47.1)] : List impl_Record)) (cells := [(.int .i64 t_40.1), (.int .i64 t_44.1), s48.v]) hF hS Tryz.underlying24 inf44 rfl rfl (by kernel_rfl) rfl rfl rfl ⟨⟨s48, rfl, h51⟩, rfl⟩ rfl rfl fun a w q50 s50 hF hS h50 _ => hK _ _ ?_
   have hS : St _ _ _ _ [q7, q50, [⟨b_p_c, [s1.v, (.int .i64 t_47.2.at_), (.int .u64 t_47.2.seed.v)], 53⟩], q42, q38] := hS.sel [4, 0, 1, 2, 3] (by decide)
   obtain ⟨l_52, hl_52, hj1⟩ := bindS hj1
   refine q_do rfl fun _ hK => wp_append hF hS (h7.mono hm51.le) Tryz.underlying24 inf44 rfl rfl rfl rfl (h50.vw hS (j := 1) rfl) rfl (by decide) hl_52 rfl fun a w q53 s53 hF hS h53 => hK _ _ (q_x (v := s53.v) hF hS (ex_assign rfl) rfl rfl fun a hF => q_end (n_jn ?_))
   obtain rfl := someI hj1
   exact ⟨m51, q53, s53, _, _, rfl, hF.sub ⟨rfl, trivial⟩, hS.mask [true, false, true, false, false], hm51, h53, (h49.mono hm51.le), (hk49.trans (hk45.trans (hk41.trans (hk11.trans hk8))))⟩
 ·rintro a w ⟨m58, q55, s55, out_54, p_c_56, rfl, hF, hS, hm58, h55, h57, h57k⟩
  refine n_ib (n_sq ?_)
  refine q_seq (q_region (q_x (v := s55.v) hF hS (ex_move rfl) rfl rfl fun a hF => q_x (v := s55.v) hF hS (ex_assign rfl) rfl rfl fun a hF => q_end (n_sq (q_ret ?_))))
  obtain rfl := someI hr
  exact ret_ofX hF hS rfl (.tmp rfl .nil) ⟨m58, q55, s55, rfl, ((hm4.trans hm5).trans hm58), hS.sel [1, 0] (by decide), h55, h57k⟩

theorem c_spec_DrawIsData (p_code : List (K .u8)) (r : (List impl_Variable) × (List impl_Record)) (hr : spec_DrawIsData p_code = some r) (w0 : World) (m : Mem) (hv : Vis m w0) (s1 : Sl) (h1 : Rd m s1 p_code) :
  Ret Tryz.prog 15 [s1.v] w0 (fun v w => ∃ (m' : Mem) (q1' : Piece) (s0' : Sl) (s1' : Sl), v = (.tuple #[s0'.v, s1'.v]) ∧ MLe [] w0.heap.size m m' ∧ St [] w0 w m' [q1'] ∧ Rd m' s0' r.1 ∧ OwnL m' 44 q1' s1' r.2) := by
 unfold spec_DrawIsData at hr
 refine ret_start Tryz.func15 rfl 15 rfl rfl m hv fun a hF hS => q_seq (q_region (q_x (v := nilS.v) hF hS (ex_assign rfl) rfl rfl fun a hF => q_x (v := nilS.v) hF hS (ex_assign rfl) rfl rfl fun a hF => q_end (n_sq (q_seq (q_region (q_x (v := s1.v) hF hS (ex_move rfl) rfl rfl fun a hF => q_x (v := (.agg #[s1.v, (.int .i64 0), (.int .u64 0)])) hF hS (ex_build (cells := [s1.v, (.int .i64 0), (.int .u64 0)]) rfl (by kernel_rfl)) rfl rfl fun a hF => q_box (cs := [s1.v, (.int .i64 0), (.int .u64 0)]) hF hS rfl rfl rfl fun a w b2 hF hS => q_x (v := (.pointer (some ⟨b2, 0, none⟩))) hF hS (ex_assign rfl) rfl rfl fun a hF => q_end (n_sq (q_seq (q_region (q_x (v := (.pointer (some ⟨b2, 0, none⟩))) hF hS (ex_move rfl) rfl rfl fun a hF => ?_))))))))))
 have hS3 : St _ _ _ _ ([[⟨b2, [s1.v, (.int .i64 0), (.int .u64 0)], 53⟩]] ++ []) := hS
 have hE3 := hS3.enter
 obtain ⟨t_4, ht_4, hr⟩ := bindS hr
 refine q_do rfl fun _ hK => wp_callX (vs := [(.pointer (some ⟨b2, 0, none⟩))]) hF Tryz.func42 (by kernel_rfl) rfl rfl rfl (c_spec_l1Cur_anySchema (spec_l1Cur.mk p_code 0 (⟨0⟩ : K .u64)) t_4 ht_4 _ m b2 s1 h1 _ hE3) fun a w _ hR hF => hK _ _ ?_
 obtain ⟨q5, s5, rfl, hR3, h5, hk6⟩ := hR
 have hS : St _ _ _ _ [[⟨b2, [s1.v, (.int .i64 t_4.2.at_), (.int .u64 t_4.2.seed.v)], 53⟩], q5] := hS3.leaveF hR3
 have h6 : Rd m s1 t_4.2.code := by rw [hk6]; exact h1
 refine q_x (v := s5.v) hF hS (ex_assign rfl) rfl rfl fun a hF => q_end (n_sq (q_seq (q_region (q_x (v := s5.v) hF hS (ex_move rfl) rfl rfl fun a hF => q_x (v := (.pointer (some ⟨b2, 0, none⟩))) hF hS (ex_move rfl) rfl rfl fun a hF => q_x (v := s5.v) hF hS (ex_move rfl) rfl rfl fun a hF => ?_))))
 have hS : St _ _ _ _ [q5, [⟨b2, [s1.v, (.int .i64 t_4.2.at_), (.int .u64 t_4.2.seed.v)], 53⟩]] := hS.sel [1, 0] (by decide)
 obtain ⟨m7, hm7, hS, hz7⟩ := hS.freeze
 have h7 := h5.froz hm7.le hz7
 have hS8 : St _ _ _ _ ([[⟨b2, [s1.v, (.int .i64 t_4.2.at_), (.int .u64 t_4.2.seed.v)], 53⟩]] ++ []) := hS
 have hE8 := hS8.enter
 obtain ⟨t_9, ht_9, hr⟩ := bindS hr
 refine q_do rfl fun _ hK => wp_callX (vs := [(.pointer (some ⟨b2, 0, none⟩)), s5.v]) hF Tryz.func43 (by kernel_rfl) rfl rfl rfl (c_spec_l1Cur_anyData t_4.2 t_4.1 t_9 ht_9 _ m7 b2 s1 (h6.mono hm7.le) s5 h7 _ hE8) fun a w _ hR hF => hK _ _ ?_
 obtain ⟨m8', q10, s10, rfl, hm8, hR8, h10, hk11⟩ := hR
 have hS : St _ _ _ _ [[⟨b2, [s1.v, (.int .i64 t_9.2.at_), (.int .u64 t_9.2.seed.v)], 53⟩], q10] := hS8.leave hR8 hm8
 have hm8 := MLe.weakX hS8 hm8
 have h11 : Rd m8' s1 t_9.2.code := by rw [hk11]; exact ((h6.mono hm7.le).mono hm8.le)
 refine q_x (v := s5.v) hF hS (ex_assign rfl) rfl rfl fun a hF => q_x (v := s10.v) hF hS (ex_assign rfl) rfl rfl fun a hF => q_end (n_sq (q_ret ?_))
 obtain rfl := someI hr
 exact ret_of hF hS rfl (.tmp rfl (.tmp rfl .nil)) ⟨m8', q10, s5, s10, rfl, (hm7.trans hm8), hS.sel [1] (by decide), (h7.mono hm8.le), h10⟩

theorem c_spec_DrawSortData (p_code : List (K .u8)) (r : (List impl_Variable) × (List impl_Record)) (hr : spec_DrawSortData p_code = some r) (w0 : World) (m : Mem) (hv : Vis m w0) (s1 : Sl) (h1 : Rd m s1 p_code) :
  Ret Tryz.prog 4 [s1.v] w0 (fun v w => ∃ (m' : Mem) (q1' : Piece) (s0' : Sl) (s1' : Sl), v = (.tuple #[s0'.v, s1'.v]) ∧ MLe [] w0.heap.size m m' ∧ St [] w0 w m' [q1'] ∧ Rd m' s0' r.1 ∧ OwnL m' 44 q1' s1' r.2) := by
 unfold spec_DrawSortData at hr
 refine ret_start Tryz.func4 rfl 8 rfl rfl m hv fun a hF hS => q_seq (q_region (q_x (v := nilS.v) hF hS (ex_assign rfl) rfl rfl fun a hF => q_x (v := nilS.v) hF hS (ex_assign rfl) rfl rfl fun a hF => q_end (n_sq (q_seq (q_region (q_x (v := s1.v) hF hS (ex_move rfl) rfl rfl fun a hF => ?_))))))
 obtain ⟨t_2, ht_2, hr⟩ := bindS hr
 refine q_call (vs := [s1.v]) hF hS Tryz.func15 (by kernel_rfl) rfl rfl rfl (c_spec_DrawIsData p_code t_2 ht_2 _ m hS.vis s1 h1) ?_
 have hT := hS
 rintro a w _ ⟨m3, q5, s4, s5, rfl, hm3, hR3, h4, h5⟩ hF hS2
 have hS : St _ _ _ _ [q5] := hS.join hR3 hm3
 have hm3 := MLe.weakX (O0 := []) hT hm3
 refine q_x (v := s4.v) hF hS (ex_extract rfl rfl) rfl rfl fun a hF => q_x (v := s5.v) hF hS (ex_extract rfl rfl) rfl rfl fun a hF => q_x (v := s4.v) hF hS (ex_assign rfl) rfl rfl fun a hF => q_x (v := s5.v) hF hS (ex_assign rfl) rfl rfl fun a hF => q_end (n_sq (q_ret ?_))
 obtain rfl := someI hr
 exact ret_of hF hS rfl (.tmp rfl (.tmp rfl .nil)) ⟨m3, q5, s4, s5, rfl, hm3, hS.sel [0] (by decide), h4, h5⟩

theorem c_impl_isWord (p_s : List UInt8) (r : Bool) (hr : impl_isWord p_s = some r) (w0 : World) (m : Mem) (hv : Vis m w0) :
  Ret Tryz.prog 44 [(strV p_s)] w0 (fun v _ => v = (.bool r)) := by
 unfold impl_isWord at hr
 refine ret_start Tryz.func44 rfl 28 rfl rfl m hv fun a hF hS => q_seq (q_region (q_x (v := (.bool false)) hF hS (ex_assign rfl) rfl rfl fun a hF => q_end (n_sq (q_seq (q_seq ?_)))))
 obtain ⟨t_1, hj1, hr⟩ := bindS hr
 refine q_join (fun a w => Fr a 28 [(0, (strV p_s)), (11, (.bool t_1))] ∧ St [] w0 w m []) ?_ ?_
 ·refine q_region (q_x (v := (strV p_s)) hF hS (ex_move rfl) rfl rfl fun a hF => q_x (v := (.int .i64 (goLen p_s))) hF hS (ex_strLen Tryz.underlying9 rfl) rfl rfl fun a hF => q_x (v := (.bool (decide ((goLen p_s) < 1)))) hF hS (ex_ibin rfl rfl rfl) rfl rfl fun a hF => q_x (v := (.bool (decide ((goLen p_s) < 1)))) hF hS (ex_move rfl) rfl rfl fun a hF => ?_)
  rcases bcase (decide ((goLen p_s) < 1)) with hc2 | hc2
  ·have hj1 := cond_f hc2 hj1
   refine q_xg (v := (strV p_s)) hF hS (ex_move rfl) (wanted_t hF rfl rfl rfl hc2) rfl fun a hF => q_xg (v := (.int .i64 (goLen p_s))) hF hS (ex_strLen Tryz.underlying9 rfl) (wanted_t hF rfl rfl rfl hc2) rfl fun a hF => q_xg (v := (.bool (decide (8 < (goLen p_s))))) hF hS (ex_ibin rfl rfl rfl) (wanted_t hF rfl rfl rfl hc2) rfl fun a hF => q_x (v := (.bool (decide (8 < (goLen p_s))))) hF hS (ex_pick_f rfl rfl hc2) rfl rfl fun a hF => q_end (n_jn ?_)
   obtain rfl := someI hj1
   exact ⟨hF.sub ⟨rfl, rfl, trivial⟩, hS⟩
  ·have hj1 := cond_t hc2 hj1
   refine q_skip hF (wanted_f hF rfl rfl rfl hc2 rfl) rfl fun a hF => q_skip hF (wanted_f hF rfl rfl rfl hc2 rfl) rfl fun a hF => q_skip hF (wanted_f hF rfl rfl rfl hc2 rfl) rfl fun a hF => q_x (v := (.bool true)) hF hS (ex_pick_t rfl rfl hc2) rfl rfl fun a hF => q_end (n_jn ?_)
   obtain rfl := someI hj1
   exact ⟨hF.sub ⟨rfl, rfl, trivial⟩, hS⟩
 ·rintro a w ⟨hF, hS⟩
  refine n_sq ?_
  rcases bcase (t_1) with hc3 | hc3
  ·have hr := cond_f hc3 hr
   refine q_cond_f hF rfl hc3 (q_skipc (n_sq (q_seq (q_seq (q_region (q_x (v := (strV p_s)) hF hS (ex_move rfl) rfl rfl fun a hF => q_x (v := (.int .i64 (goLen p_s))) hF hS (ex_strLen Tryz.underlying9 rfl) rfl rfl fun a hF => q_x (v := (.int .i64 0)) hF hS (ex_move rfl) rfl rfl fun a hF => q_end (n_sq (q_block ?_))))))))
   obtain ⟨o4, hl4, hr⟩ := bindS hr
   refine q_loop (fun (t_2 : Int) a w => Fr a 28 [(0, (strV p_s)), (13, (.int .i64 (goLen p_s))), (14, (.int .i64 t_2))] ∧ St [] w0 w m []) (fun (o : (Unit) ⊕ (Bool)) e a w => o = .inl () ∧ e = .exit 0 ∧ Fr a 28 [] ∧ St [] w0 w m []) hl4 ⟨hF.sub ⟨rfl, rfl, rfl, trivial⟩, hS⟩ ?_ ?_
   ·clear hF hS
    rintro t_2 a w st ⟨hF, hS⟩ hb4
    unfold impl_isWord_l1 at hb4
    refine q_seq (q_region (q_x (v := (.bool (decide (t_2 < (goLen p_s))))) hF hS (ex_ibin rfl rfl rfl) rfl rfl fun a hF => q_end (n_sq (q_seq ?_))))
    rcases bcase (decide (t_2 < (goLen p_s))) with hc5 | hc5
    ·have hb4 := cond_f hc5 hb4
     refine q_cond_f hF rfl hc5 (q_exit (x_sq ?_))
     obtain rfl := someI hb4
     exact ⟨nofun, .inl ⟨rfl, rfl, hF.sub trivial, hS⟩⟩
    ·have hb4 := cond_t hc5 hb4
     refine q_cond_t hF rfl hc5 (q_skipc (n_sq (q_seq (q_block (q_seq (q_region (q_x (v := (.int .i64 t_2)) hF hS (ex_move rfl) rfl rfl fun a hF => q_x (v := (.int .i64 t_2)) hF hS (ex_assign rfl) rfl rfl fun a hF => q_end (n_sq (q_seq ?_)))))))))
     obtain ⟨t_5, hj6, hb4⟩ := bindS hb4
     refine q_join (fun a w => Fr a 28 [(0, (strV p_s)), (13, (.int .i64 (goLen p_s))), (14, (.int .i64 t_2)), (26, (.bool t_5))] ∧ St [] w0 w m []) ?_ ?_
     ·refine q_region (q_x (v := (strV p_s)) hF hS (ex_move rfl) rfl rfl fun a hF => q_x (v := (.int .i64 t_2)) hF hS (ex_move rfl) rfl rfl fun a hF => ?_)
      obtain ⟨t_3, ht_3, hj6⟩ := bindS hj6
      refine q_x (v := (.int .u8 t_3)) hF hS (ex_strIdx Tryz.underlying9 rfl rfl ht_3) rfl rfl fun a hF => q_x (v := (.bool (decide (t_3 < 97)))) hF hS (ex_ibin rfl rfl rfl) rfl rfl fun a hF => q_x (v := (.bool (decide (t_3 < 97)))) hF hS (ex_move rfl) rfl rfl fun a hF => ?_
      rcases bcase (decide (t_3 < 97)) with hc7 | hc7
      ·have hj6 := cond_f hc7 hj6
       refine q_xg (v := (strV p_s)) hF hS (ex_move rfl) (wanted_t hF rfl rfl rfl hc7) rfl fun a hF => q_xg (v := (.int .i64 t_2)) hF hS (ex_move rfl) (wanted_t hF rfl rfl rfl hc7) rfl fun a hF => ?_
       obtain ⟨t_4, ht_4, hj6⟩ := bindS hj6
       refine q_xg (v := (.int .u8 t_4)) hF hS (ex_strIdx Tryz.underlying9 rfl rfl ht_4) (wanted_t hF rfl rfl rfl hc7) rfl fun a hF => q_xg (v := (.bool (decide (122 < t_4)))) hF hS (ex_ibin rfl rfl rfl) (wanted_t hF rfl rfl rfl hc7) rfl fun a hF => q_x (v := (.bool (decide (122 < t_4)))) hF hS (ex_pick_f rfl rfl hc7) rfl rfl fun a hF => q_end (n_jn ?_)
       obtain rfl := someI hj6
       exact ⟨hF.sub ⟨rfl, rfl, rfl, rfl, trivial⟩, hS⟩
      ·have hj6 := cond_t hc7 hj6
       refine q_skip hF (wanted_f hF rfl rfl rfl hc7 rfl) rfl fun a hF => q_skip hF (wanted_f hF rfl rfl rfl hc7 rfl) rfl fun a hF => q_skip hF (wanted_f hF rfl rfl rfl hc7 rfl) rfl fun a hF => q_skip hF (wanted_f hF rfl rfl rfl hc7 rfl) rfl fun a hF => q_x (v := (.bool true)) hF hS (ex_pick_t rfl rfl hc7) rfl rfl fun a hF => q_end (n_jn ?_)
       obtain rfl := someI hj6
       exact ⟨hF.sub ⟨rfl, rfl, rfl, rfl, trivial⟩, hS⟩
     ·rintro a w ⟨hF, hS⟩
      refine n_sq ?_
      rcases bcase (t_5) with hc8 | hc8
      ·have hb4 := cond_f hc8 hb4
       refine q_cond_f hF rfl hc8 (q_skipc (n_ib (n_sq (q_region (q_x (v := (.int .i64 (w64 (t_2 + 1)))) hF hS (ex_ibin rfl rfl rfl) rfl rfl fun a hF => q_x (v := (.int .i64 (w64 (t_2 + 1)))) hF hS (ex_move rfl) rfl rfl fun a hF => q_end ?_)))))
       obtain rfl := someI hb4
       exact ⟨rfl, hF.sub ⟨rfl, rfl, rfl, trivial⟩, hS⟩
      ·have hb4 := cond_t hc8 hb4
       refine q_cond_t hF rfl hc8 (q_seq (q_region (q_x (v := (.bool false)) hF hS (ex_assign rfl) rfl rfl fun a hF => q_end (n_sq (q_ret (r_ib (r_sq ?_)))))))
       obtain rfl := someI hb4
       refine ⟨nofun, .inr fun ho => ?_⟩
       subst ho
       refine r_ib (r_sq ?_)
       obtain rfl := someI hr
       exact ret_of hF hS rfl (.tmp rfl .nil) rfl
   ·rintro e a w ⟨rfl, rfl, hF, hS⟩
    refine x_ib (n_sq ?_)
    refine q_seq (q_region (q_x (v := (.bool true)) hF hS (ex_assign rfl) rfl rfl fun a hF => q_end (n_sq (q_ret ?_))))
    obtain rfl := someI hr
    exact ret_of hF hS rfl (.tmp rfl .nil) rfl
  ·have hr := cond_t hc3 hr
   refine q_cond_t hF rfl hc3 (q_seq (q_region (q_x (v := (.bool false)) hF hS (ex_assign rfl) rfl rfl fun a hF => q_end (n_sq (q_ret (r_sq ?_))))))
   obtain rfl := someI hr
   exact ret_of hF hS rfl (.tmp rfl .nil) rfl

theorem c_impl_IsSchema (p_s : List impl_Variable) (r : Bool) (hr : impl_IsSchema p_s = some r) (w0 : World) (m : Mem) (hv : Vis m w0) (s1 : Sl) (h1 : Rd m s1 p_s) :
  Ret Tryz.prog 16 [s1.v] w0 (fun v _ => v = (.bool r)) := by
 unfold impl_IsSchema at hr
 refine ret_start Tryz.func16 rfl 51 rfl rfl m hv fun a hF hS => q_seq (q_region (q_x (v := (.bool false)) hF hS (ex_assign rfl) rfl rfl fun a hF => q_end (n_sq (q_seq (q_seq ?_)))))
 obtain ⟨t_2, hj1, hr⟩ := bindS hr
 refine q_join (fun a w => Fr a 51 [(0, s1.v), (14, (.bool t_2))] ∧ St [] w0 w m []) ?_ ?_
 ·refine q_region (q_x (v := s1.v) hF hS (ex_move rfl) rfl rfl fun a hF => q_x (v := (.int .i64 (goLen p_s))) hF hS (ex_len Tryz.underlying23 rfl h1.len) rfl rfl fun a hF => q_x (v := (.bool (decide ((goLen p_s) < 1)))) hF hS (ex_ibin rfl rfl rfl) rfl rfl fun a hF => q_x (v := (.bool (decide ((goLen p_s) < 1)))) hF hS (ex_move rfl) rfl rfl fun a hF => ?_)
  rcases bcase (decide ((goLen p_s) < 1)) with hc2 | hc2
  ·have hj1 := cond_f hc2 hj1
   refine q_xg (v := s1.v) hF hS (ex_move rfl) (wanted_t hF rfl rfl rfl hc2) rfl fun a hF => q_xg (v := (.int .i64 (goLen p_s))) hF hS (ex_len Tryz.underlying23 rfl h1.len) (wanted_t hF rfl rfl rfl hc2) rfl fun a hF => q_xg (v := (.bool (decide (6 < (goLen p_s))))) hF hS (ex_ibin rfl rfl rfl) (wanted_t hF rfl rfl rfl hc2) rfl fun a hF => q_x (v := (.bool (decide (6 < (goLen p_s))))) hF hS (ex_pick_f rfl rfl hc2) rfl rfl fun a hF => q_end (n_jn ?_)
   obtain rfl := someI hj1
   exact ⟨hF.sub ⟨rfl, rfl, trivial⟩, hS⟩
  ·have hj1 := cond_t hc2 hj1
   refine q_skip hF (wanted_f hF rfl rfl rfl hc2 rfl) rfl fun a hF => q_skip hF (wanted_f hF rfl rfl rfl hc2 rfl) rfl fun a hF => q_skip hF (wanted_f hF rfl rfl rfl hc2 rfl) rfl fun a hF => q_x (v := (.bool true)) hF hS (ex_pick_t rfl rfl hc2) rfl rfl fun a hF => q_end (n_jn ?_)
   obtain rfl := someI hj1
   exact ⟨hF.sub ⟨rfl, rfl, trivial⟩, hS⟩
 ·rintro a w ⟨hF, hS⟩
  refine n_sq ?_
  rcases bcase (t_2) with hc3 | hc3
  ·have hr := cond_f hc3 hr
   refine q_cond_f hF rfl hc3 (q_skipc (n_sq (q_seq (q_seq (q_region (q_x (v := s1.v) hF hS (ex_move rfl) rfl rfl fun a hF => q_x (v := (.int .i64 (goLen p_s))) hF hS (ex_len Tryz.underlying23 rfl h1.len) rfl rfl fun a hF => q_x (v := (.int .i64 0)) hF hS (ex_move rfl) rfl rfl fun a hF => q_end (n_sq (q_block ?_))))))))
   obtain ⟨o4, hl4, hr⟩ := bindS hr
   refine q_loop (fun (t_3 : Int) a w => Fr a 51 [(0, s1.v), (15, s1.v), (16, (.int .i64 (goLen p_s))), (17, (.int .i64 t_3))] ∧ St [] w0 w m []) (fun (o : (Unit) ⊕ (Bool)) e a w => o = .inl () ∧ e = .exit 0 ∧ Fr a 51 [] ∧ St [] w0 w m []) hl4 ⟨hF.sub ⟨rfl, rfl, rfl, rfl, trivial⟩, hS⟩ ?_ ?_
   ·clear hF hS
    rintro t_3 a w st ⟨hF, hS⟩ hb4
    unfold impl_IsSchema_l1 at hb4
    refine q_seq (q_region (q_x (v := (.bool (decide (t_3 < (goLen p_s))))) hF hS (ex_ibin rfl rfl rfl) rfl rfl fun a hF => q_end (n_sq (q_seq ?_))))
    rcases bcase (decide (t_3 < (goLen p_s))) with hc5 | hc5
    ·have hb4 := cond_f hc5 hb4
     refine q_cond_f hF rfl hc5 (q_exit (x_sq ?_))
     obtain rfl := someI hb4
     exact ⟨nofun, .inl ⟨rfl, rfl, hF.sub trivial, hS⟩⟩
    ·have hb4 := cond_t hc5 hb4
     refine q_cond_t hF rfl hc5 (q_skipc (n_sq (q_seq (q_block (q_seq (q_region (q_x (v := (.int .i64 t_3)) hF hS (ex_move rfl) rfl rfl fun a hF => ?_)))))))
     obtain ⟨e_4, he_4, hb4⟩ := bindS hb4
     obtain ⟨vs5, at5, d5⟩ := h1.at he_4 2 rfl
     obtain rfl : vs5 = [(strV e_4.Name), (.int .i64 e_4.Levels)] := d5
     refine q_x (v := (elP s1 (t_3.toNat * 2))) hF hS (ex_indexAddr Tryz.underlying23 sz83 rfl rfl (h1.idx he_4)) rfl rfl fun a hF => q_x (v := (.agg #[(strV e_4.Name), (.int .i64 e_4.Levels)])) hF hS (ex_loadEA (us := [(strV e_4.Name), (.int .i64 e_4.Levels)]) 0 Tryz.underlying83 rfl sz83 rfl ((at5).at) rfl rfl rfl) rfl rfl fun a hF => q_alloc (cs := [(strV ([] : List UInt8)), (.int .i64 0)]) hF hS rfl rfl rfl fun a w b6 hF hS => q_x (v := (.int .i64 t_3)) hF hS (ex_assign rfl) rfl rfl fun a hF => q_store (vs := [(strV e_4.Name), (.int .i64 e_4.Levels)]) (cs' := [(strV e_4.Name), (.int .i64 e_4.Levels)]) 0 0 hF hS sz83 rfl rfl rfl rfl rfl rfl rfl rfl fun a w hF hS => q_end (n_sq (q_seq (q_seq ?_)))
     obtain ⟨t_8, hj6, hb4⟩ := bindS hb4
     refine q_join (fun a w => Fr a 51 [(0, s1.v), (3, (.int .i64 t_3)), (4, (.pointer (some ⟨b6, 0, none⟩))), (15, s1.v), (16, (.int .i64 (goLen p_s))), (17, (.int .i64 t_3)), (35, (.bool t_8))] ∧ St [] w0 w m [[⟨b6, [(strV e_4.Name), (.int .i64 e_4.Levels)], 83⟩]]) ?_ ?_
     ·refine q_region (q_x (v := (.pointer (some ⟨b6, 0, none⟩))) hF hS (ex_fieldAddr Tryz.underlying83 rfl sz9 rfl rfl) rfl rfl fun a hF => q_x (v := (strV e_4.Name)) hF hS (ex_load1 0 0 Tryz.underlying9 rfl rfl rfl rfl) rfl rfl fun a hF => ?_)
      obtain ⟨t_7, ht_7, hj6⟩ := bindS hj6
      refine q_call (vs := [(strV e_4.Name)]) hF hS Tryz.func44 (by kernel_rfl) rfl rfl rfl (c_impl_isWord e_4.Name t_7 ht_7 _ m hS.vis) ?_
      rintro a w _ rfl hF hS
      refine q_x (v := (.bool (!t_7))) hF hS (ex_not rfl) rfl rfl fun a hF => q_x (v := (.bool (!t_7))) hF hS (ex_move rfl) rfl rfl fun a hF => ?_
      rcases bcase (!t_7) with hc7 | hc7
      ·have hj6 := cond_f hc7 hj6
       refine q_xg (v := (.pointer (some ⟨b6, 1, none⟩))) hF hS (ex_fieldAddr Tryz.underlying83 rfl sz3 rfl rfl) (wanted_t hF rfl rfl rfl hc7) rfl fun a hF => q_xg (v := (.int .i64 e_4.Levels)) hF hS (ex_load1 0 0 Tryz.underlying3 rfl rfl rfl rfl) (wanted_t hF rfl rfl rfl hc7) rfl fun a hF => q_xg (v := (.bool (decide (e_4.Levels < 2)))) hF hS (ex_ibin rfl rfl rfl) (wanted_t hF rfl rfl rfl hc7) rfl fun a hF => q_x (v := (.bool (decide (e_4.Levels < 2)))) hF hS (ex_pick_f rfl rfl hc7) rfl rfl fun a hF => q_x (v := (.bool (decide (e_4.Levels < 2)))) hF hS (ex_move rfl) rfl rfl fun a hF => ?_
       rcases bcase (decide (e_4.Levels < 2)) with hc8 | hc8
       ·have hj6 := cond_f hc8 hj6
        refine q_xg (v := (.pointer (some ⟨b6, 1, none⟩))) hF hS (ex_fieldAddr Tryz.underlying83 rfl sz3 rfl rfl) (wanted_t hF rfl rfl rfl hc8) rfl fun a hF => q_xg (v := (.int .i64 e_4.Levels)) hF hS (ex_load1 0 0 Tryz.underlying3 rfl rfl rfl rfl) (wanted_t hF rfl rfl rfl hc8) rfl fun a hF => q_xg (v := (.bool (decide (8 < e_4.Levels)))) hF hS (ex_ibin rfl rfl rfl) (wanted_t hF rfl rfl rfl hc8) rfl fun a hF => q_x (v := (.bool (decide (8 < e_4.Levels)))) hF hS (ex_pick_f rfl rfl hc8) rfl rfl fun a hF => q_end (n_jn ?_)
        obtain rfl := someI hj6
        exact ⟨hF.sub ⟨rfl, rfl, rfl, rfl, rfl, rfl, rfl, trivial⟩, hS⟩
       ·have hj6 := cond_t hc8 hj6
        refine q_skip hF (wanted_f hF rfl rfl rfl hc8 rfl) rfl fun a hF => q_skip hF (wanted_f hF rfl rfl rfl hc8 rfl) rfl fun a hF => q_skip hF (wanted_f hF rfl rfl rfl hc8 rfl) rfl fun a hF => q_x (v := (.bool true)) hF hS (ex_pick_t rfl rfl hc8) rfl rfl fun a hF => q_end (n_jn ?_)
        obtain rfl := someI hj6
        exact ⟨hF.sub ⟨rfl, rfl, rfl, rfl, rfl, rfl, rfl, trivial⟩, hS⟩
      ·have hj6 := cond_t hc7 hj6
       refine q_skip hF (wanted_f hF rfl rfl rfl hc7 rfl) rfl fun a hF => q_skip hF (wanted_f hF rfl rfl rfl hc7 rfl) rfl fun a hF => q_skip hF (wanted_f hF rfl rfl rfl hc7 rfl) rfl fun a hF => q_x (v := (.bool true)) hF hS (ex_pick_t rfl rfl hc7) rfl rfl fun a hF => q_x (v := (.bool true)) hF hS (ex_move rfl) rfl rfl fun a hF => q_skip hF (wanted_f hF rfl rfl rfl rfl rfl) rfl fun a hF => q_skip hF (wanted_f hF rfl rfl rfl rfl rfl) rfl fun a hF => q_skip hF (wanted_f hF rfl rfl rfl rfl rfl) rfl fun a hF => q_x (v := (.bool true)) hF hS (ex_pick_t rfl rfl rfl) rfl rfl fun a hF => q_end (n_jn ?_)
       obtain rfl := someI hj6
       exact ⟨hF.sub ⟨rfl, rfl, rfl, rfl, rfl, rfl, rfl, trivial⟩, hS⟩
     ·rintro a w ⟨hF, hS⟩
      refine n_sq ?_
      rcases bcase (t_8) with hc9 | hc9
      ·have hb4 := cond_f hc9 hb4
       refine q_cond_f hF rfl hc9 (q_skipc (n_sq (q_seq (q_region (q_x (v := s1.v) hF hS (ex_move rfl) rfl rfl fun a hF => q_x (v := (.int .i64 t_3)) hF hS (ex_move rfl) rfl rfl fun a hF => ?_)))))
       obtain ⟨l_9, hl_9, hb4⟩ := bindS hb4
       have h10 : Rd m (subS s1 2 (0 : Int).toNat t_3.toNat s1.cap) l_9 := h1.sub' hl_9 2 rfl
       refine q_x (v := (subS s1 2 (0 : Int).toNat t_3.toNat s1.cap).v) hF hS (ex_slice Tryz.underlying23 sz83 rfl rfl rfl (.inl ⟨rfl, rfl⟩) (.inr ⟨_, rfl⟩) (h1.subok hl_9)) rfl rfl fun a hF => q_x (v := (.int .i64 (goLen l_9))) hF hS (ex_len Tryz.underlying23 rfl h10.len) rfl rfl fun a hF => q_x (v := (.int .i64 0)) hF hS (ex_move rfl) rfl rfl fun a hF => q_end (n_sq (q_block ?_))
       obtain ⟨o10, hl10, hb4⟩ := bindS hb4
       refine q_loop (fun (t_11 : Int) a w => Fr a 51 [(0, s1.v), (4, (.pointer (some ⟨b6, 0, none⟩))), (15, s1.v), (16, (.int .i64 (goLen p_s))), (17, (.int .i64 t_3)), (38, (subS s1 2 (0 : Int).toNat t_3.toNat s1.cap).v), (39, (.int .i64 (goLen l_9))), (40, (.int .i64 t_11))] ∧ St [] w0 w m [[⟨b6, [(strV e_4.Name), (.int .i64 e_4.Levels)], 83⟩]]) (fun (o : (Unit) ⊕ (Stp (Int) ((Unit) ⊕ (Bool)))) e a w => o = .inl () ∧ e = .exit 2 ∧ Fr a 51 [(0, s1.v), (15, s1.v), (16, (.int .i64 (goLen p_s))), (17, (.int .i64 t_3))] ∧ St [] w0 w m []) hl10 ⟨hF.sub ⟨rfl, rfl, rfl, rfl, rfl, rfl, rfl, rfl, trivial⟩, hS⟩ ?_ ?_
       ·clear hF hS
        rintro t_11 a w st ⟨hF, hS⟩ hb10
        unfold impl_IsSchema_l2 at hb10
        refine q_seq (q_region (q_x (v := (.bool (decide (t_11 < (goLen l_9))))) hF hS (ex_ibin rfl rfl rfl) rfl rfl fun a hF => q_end (n_sq (q_seq ?_))))
        rcases bcase (decide (t_11 < (goLen l_9))) with hc11 | hc11
        ·have hb10 := cond_f hc11 hb10
         refine q_cond_f hF rfl hc11 (q_exit (x_sq ?_))
         obtain rfl := someI hb10
         exact ⟨nofun, .inl ⟨rfl, rfl, hF.sub ⟨rfl, rfl, rfl, rfl, trivial⟩, hS.mask [false]⟩⟩
        ·have hb10 := cond_t hc11 hb10
         refine q_cond_t hF rfl hc11 (q_skipc (n_sq (q_seq (q_block (q_seq (q_region ?_))))))
         obtain ⟨e_12, he_12, hb10⟩ := bindS hb10
         obtain ⟨vs13, at13, d13⟩ := h10.at he_12 2 rfl
         obtain rfl : vs13 = [(strV e_12.Name), (.int .i64 e_12.Levels)] := d13
         refine q_x (v := (elP (subS s1 2 (0 : Int).toNat t_3.toNat s1.cap) (t_11.toNat * 2))) hF hS (ex_indexAddr Tryz.underlying23 sz83 rfl rfl (h10.idx he_12)) rfl rfl fun a hF => q_x (v := (.agg #[(strV e_12.Name), (.int .i64 e_12.Levels)])) hF hS (ex_loadEA (us := [(strV e_12.Name), (.int .i64 e_12.Levels)]) 0 Tryz.underlying83 rfl sz83 rfl ((at13).at) rfl rfl rfl) rfl rfl fun a hF => q_alloc (cs := [(strV ([] : List UInt8)), (.int .i64 0)]) hF hS rfl rfl rfl fun a w b14 hF hS => q_store (vs := [(strV e_12.Name), (.int .i64 e_12.Levels)]) (cs' := [(strV e_12.Name), (.int .i64 e_12.Levels)]) 0 0 hF hS sz83 rfl rfl rfl rfl rfl rfl rfl rfl fun a w hF hS => q_end (n_sq (q_seq (q_region (q_x (v := (.pointer (some ⟨b14, 0, none⟩))) hF hS (ex_fieldAddr Tryz.underlying83 rfl sz9 rfl rfl) rfl rfl fun a hF => q_x (v := (strV e_12.Name)) hF hS (ex_load1 0 0 Tryz.underlying9 rfl rfl rfl rfl) rfl rfl fun a hF => q_x (v := (.pointer (some ⟨b6, 0, none⟩))) hF hS (ex_fieldAddr Tryz.underlying83 rfl sz9 rfl rfl) rfl rfl fun a hF => q_x (v := (strV e_4.Name)) hF hS (ex_load1 1 0 Tryz.underlying9 rfl rfl rfl rfl) rfl rfl fun a hF => q_x (v := (.bool (e_12.Name == e_4.Name))) hF hS (ex_strEq rfl rfl) rfl rfl fun a hF => q_end (n_sq ?_)))))
         rcases bcase (e_12.Name == e_4.Name) with hc12 | hc12
         ·have hb10 := cond_f hc12 hb10
          refine q_cond_f hF rfl hc12 (q_skipc (n_ib (n_sq (q_region (q_x (v := (.int .i64 (w64 (t_11 + 1)))) hF hS (ex_ibin rfl rfl rfl) rfl rfl fun a hF => q_x (v := (.int .i64 (w64 (t_11 + 1)))) hF hS (ex_move rfl) rfl rfl fun a hF => q_end ?_)))))
          obtain rfl := someI hb10
          exact ⟨rfl, hF.sub ⟨rfl, rfl, rfl, rfl, rfl, rfl, rfl, rfl, trivial⟩, hS.mask [false, true]⟩
         ·have hb10 := cond_t hc12 hb10
          refine q_cond_t hF rfl hc12 (q_seq (q_region (q_x (v := (.bool false)) hF hS (ex_assign rfl) rfl rfl fun a hF => q_end (n_sq (q_ret (r_ib (r_sq ?_)))))))
          obtain rfl := someI hb10
          refine ⟨nofun, .inr fun ho => ?_⟩
          subst ho
          refine r_ib (r_ib (r_sq ?_))
          obtain rfl := someI hb4
          refine ⟨nofun, .inr fun ho => ?_⟩
          subst ho
          refine r_ib (r_sq ?_)
          obtain rfl := someI hr
          exact ret_of hF hS rfl (.tmp rfl .nil) rfl
       ·rintro e a w ⟨rfl, rfl, hF, hS⟩
        refine x_ib (n_ib (n_sq ?_))
        refine q_region (q_x (v := (.int .i64 (w64 (t_3 + 1)))) hF hS (ex_ibin rfl rfl rfl) rfl rfl fun a hF => q_x (v := (.int .i64 (w64 (t_3 + 1)))) hF hS (ex_move rfl) rfl rfl fun a hF => q_end ?_)
        obtain rfl := someI hb4
        exact ⟨rfl, hF.sub ⟨rfl, rfl, rfl, rfl, trivial⟩, hS⟩
      ·have hb4 := cond_t hc9 hb4
       refine q_cond_t hF rfl hc9 (q_seq (q_region (q_x (v := (.bool false)) hF hS (ex_assign rfl) rfl rfl fun a hF => q_end (n_sq (q_ret (r_sq (r_ib (r_sq ?_))))))))
       obtain rfl := someI hb4
       refine ⟨nofun, .inr fun ho => ?_⟩
       subst ho
       refine r_ib (r_sq ?_)
       obtain rfl := someI hr
       exact ret_of hF hS rfl (.tmp rfl .nil) rfl
   ·rintro e a w ⟨rfl, rfl, hF, hS⟩
    refine x_ib (n_sq ?_)
    refine q_seq (q_region (q_x (v := (.bool true)) hF hS (ex_assign rfl) rfl rfl fun a hF => q_end (n_sq (q_ret ?_))))
    obtain rfl := someI hr
    exact ret_of hF hS rfl (.tmp rfl .nil) rfl
  ·have hr := cond_t hc3 hr
   refine q_cond_t hF rfl hc3 (q_seq (q_region (q_x (v := (.bool false)) hF hS (ex_assign rfl) rfl rfl fun a hF => q_end (n_sq (q_ret (r_sq ?_))))))
   obtain rfl := someI hr
   exact ret_of hF hS rfl (.tmp rfl .nil) rfl

theorem c_impl_areValues (p_s : List impl_Variable) (p_values : List Int) (r : Bool) (hr : impl_areValues p_s p_values = some r) (w0 : World) (m : Mem) (hv : Vis m w0) (s1 : Sl) (h1 : Rd m s1 p_s) (s2 : Sl) (h2 : Rd m s2 p_values) :
  Ret Tryz.prog 56 [s1.v, s2.v] w0 (fun v _ => v = (.bool r)) := by
 unfold impl_areValues at hr
 refine ret_start Tryz.func56 rfl 31 rfl rfl m hv fun a hF hS => q_seq (q_region (q_x (v := (.bool false)) hF hS (ex_assign rfl) rfl rfl fun a hF => q_end (n_sq (q_seq (q_seq (q_region (q_x (v := s2.v) hF hS (ex_move rfl) rfl rfl fun a hF => q_x (v := (.int .i64 (goLen p_values))) hF hS (ex_len Tryz.underlying40 rfl h2.len) rfl rfl fun a hF => q_x (v := s1.v) hF hS (ex_move rfl) rfl rfl fun a hF => q_x (v := (.int .i64 (goLen p_s))) hF hS (ex_len Tryz.underlying23 rfl h1.len) rfl rfl fun a hF => q_x (v := (.bool ((goLen p_values) != (goLen p_s)))) hF hS (ex_ibin rfl rfl rfl) rfl rfl fun a hF => q_end (n_sq ?_))))))))
 rcases bcase ((goLen p_values) != (goLen p_s)) with hc1 | hc1
 ·have hr := cond_f hc1 hr
  refine q_cond_f hF rfl hc1 (q_skipc (n_sq (q_seq (q_seq (q_region (q_x (v := s2.v) hF hS (ex_move rfl) rfl rfl fun a hF => q_x (v := (.int .i64 (goLen p_values))) hF hS (ex_len Tryz.underlying40 rfl h2.len) rfl rfl fun a hF => q_x (v := (.int .i64 0)) hF hS (ex_move rfl) rfl rfl fun a hF => q_end (n_sq (q_block ?_))))))))
  obtain ⟨o2, hl2, hr⟩ := bindS hr
  refine q_loop (fun (t_3 : Int) a w => Fr a 31 [(0, s1.v), (12, s2.v), (13, (.int .i64 (goLen p_values))), (14, (.int .i64 t_3))] ∧ St [] w0 w m []) (fun (o : (Unit) ⊕ (Bool)) e a w => o = .inl () ∧ e = .exit 0 ∧ Fr a 31 [] ∧ St [] w0 w m []) hl2 ⟨hF.sub ⟨rfl, rfl, rfl, rfl, trivial⟩, hS⟩ ?_ ?_
  ·clear hF hS
   rintro t_3 a w st ⟨hF, hS⟩ hb2
   unfold impl_areValues_l1 at hb2
   refine q_seq (q_region (q_x (v := (.bool (decide (t_3 < (goLen p_values))))) hF hS (ex_ibin rfl rfl rfl) rfl rfl fun a hF => q_end (n_sq (q_seq ?_))))
   rcases bcase (decide (t_3 < (goLen p_values))) with hc3 | hc3
   ·have hb2 := cond_f hc3 hb2
    refine q_cond_f hF rfl hc3 (q_exit (x_sq ?_))
    obtain rfl := someI hb2
    exact ⟨nofun, .inl ⟨rfl, rfl, hF.sub trivial, hS⟩⟩
   ·have hb2 := cond_t hc3 hb2
    refine q_cond_t hF rfl hc3 (q_skipc (n_sq (q_seq (q_block (q_seq (q_region (q_x (v := (.int .i64 t_3)) hF hS (ex_move rfl) rfl rfl fun a hF => ?_)))))))
    obtain ⟨e_4, he_4, hb2⟩ := bindS hb2
    obtain ⟨vs5, at5, d5⟩ := h2.at he_4 1 rfl
    obtain rfl : vs5 = [(.int .i64 e_4)] := d5
    refine q_x (v := (elP s2 (t_3.toNat * 1))) hF hS (ex_indexAddr Tryz.underlying40 sz3 rfl rfl (h2.idx he_4)) rfl rfl fun a hF => q_x (v := (.int .i64 e_4)) hF hS (ex_loadE1 0 Tryz.underlying3 rfl rfl ((at5).at) rfl rfl) rfl rfl fun a hF => q_x (v := (.int .i64 t_3)) hF hS (ex_assign rfl) rfl rfl fun a hF => q_x (v := (.int .i64 e_4)) hF hS (ex_assign rfl) rfl rfl fun a hF => q_end (n_sq (q_seq ?_))
    obtain ⟨t_8, hj4, hb2⟩ := bindS hb2
    refine q_join (fun a w => Fr a 31 [(0, s1.v), (12, s2.v), (13, (.int .i64 (goLen p_values))), (14, (.int .i64 t_3)), (29, (.bool t_8))] ∧ St [] w0 w m []) ?_ ?_
    ·refine q_region (q_x (v := (.int .i64 e_4)) hF hS (ex_move rfl) rfl rfl fun a hF => q_x (v := (.bool (decide (e_4 < 0)))) hF hS (ex_ibin rfl rfl rfl) rfl rfl fun a hF => q_x (v := (.bool (decide (e_4 < 0)))) hF hS (ex_move rfl) rfl rfl fun a hF => ?_)
     rcases bcase (decide (e_4 < 0)) with hc5 | hc5
     ·have hj4 := cond_f hc5 hj4
      refine q_xg (v := (.int .i64 e_4)) hF hS (ex_move rfl) (wanted_t hF rfl rfl rfl hc5) rfl fun a hF => q_xg (v := s1.v) hF hS (ex_move rfl) (wanted_t hF rfl rfl rfl hc5) rfl fun a hF => q_xg (v := (.int .i64 t_3)) hF hS (ex_move rfl) (wanted_t hF rfl rfl rfl hc5) rfl fun a hF => ?_
      obtain ⟨e_6, he_6, hj4⟩ := bindS hj4
      obtain ⟨vs7, at7, d7⟩ := h1.at he_6 2 rfl
      obtain rfl : vs7 = [(strV e_6.Name), (.int .i64 e_6.Levels)] := d7
      refine q_xg (v := (elP s1 (t_3.toNat * 2))) hF hS (ex_indexAddr Tryz.underlying23 sz83 rfl rfl (h1.idx he_6)) (wanted_t hF rfl rfl rfl hc5) rfl fun a hF => q_xg (v := (elP s1 (t_3.toNat * 2 + 1))) hF hS (ex_fieldAddrE Tryz.underlying83 rfl sz3 rfl (h1.idx he_6) rfl) (wanted_t hF rfl rfl rfl hc5) rfl fun a hF => q_xg (v := (.int .i64 e_6.Levels)) hF hS (ex_loadE1 1 Tryz.underlying3 rfl rfl ((at7).at) rfl rfl) (wanted_t hF rfl rfl rfl hc5) rfl fun a hF => q_xg (v := (.bool (decide (e_6.Levels ≤ e_4)))) hF hS (ex_ibin rfl rfl rfl) (wanted_t hF rfl rfl rfl hc5) rfl fun a hF => q_x (v := (.bool (decide (e_6.Levels ≤ e_4)))) hF hS (ex_pick_f rfl rfl hc5) rfl rfl fun a hF => q_end (n_jn ?_)
      obtain rfl := someI hj4
      exact ⟨hF.sub ⟨rfl, rfl, rfl, rfl, rfl, trivial⟩, hS⟩
     ·have hj4 := cond_t hc5 hj4
      refine q_skip hF (wanted_f hF rfl rfl rfl hc5 rfl) rfl fun a hF => q_skip hF (wanted_f hF rfl rfl rfl hc5 rfl) rfl fun a hF => q_skip hF (wanted_f hF rfl rfl rfl hc5 rfl) rfl fun a hF => q_skip hF (wanted_f hF rfl rfl rfl hc5 rfl) rfl fun a hF => q_skip hF (wanted_f hF rfl rfl rfl hc5 rfl) rfl fun a hF => q_skip hF (wanted_f hF rfl rfl rfl hc5 rfl) rfl fun a hF => q_skip hF (wanted_f hF rfl rfl rfl hc5 rfl) rfl fun a hF => q_x (v := (.bool true)) hF hS (ex_pick_t rfl rfl hc5) rfl rfl fun a hF => q_end (n_jn ?_)
      obtain rfl := someI hj4
      exact ⟨hF.sub ⟨rfl, rfl, rfl, rfl, rfl, trivial⟩, hS⟩
    ·rintro a w ⟨hF, hS⟩
     refine n_sq ?_
     rcases bcase (t_8) with hc6 | hc6
     ·have hb2 := cond_f hc6 hb2
      refine q_cond_f hF rfl hc6 (q_skipc (n_ib (n_sq (q_region (q_x (v := (.int .i64 (w64 (t_3 + 1)))) hF hS (ex_ibin rfl rfl rfl) rfl rfl fun a hF => q_x (v := (.int .i64 (w64 (t_3 + 1)))) hF hS (ex_move rfl) rfl rfl fun a hF => q_end ?_)))))
      obtain rfl := someI hb2
      exact ⟨rfl, hF.sub ⟨rfl, rfl, rfl, rfl, trivial⟩, hS⟩
     ·have hb2 := cond_t hc6 hb2
      refine q_cond_t hF rfl hc6 (q_seq (q_region (q_x (v := (.bool false)) hF hS (ex_assign rfl) rfl rfl fun a hF => q_end (n_sq (q_ret (r_ib (r_sq ?_)))))))
      obtain rfl := someI hb2
      refine ⟨nofun, .inr fun ho => ?_⟩
      subst ho
      refine r_ib (r_sq ?_)
      obtain rfl := someI hr
      exact ret_of hF hS rfl (.tmp rfl .nil) rfl
  ·rintro e a w ⟨rfl, rfl, hF, hS⟩
   refine x_ib (n_sq ?_)
   refine q_seq (q_region (q_x (v := (.bool true)) hF hS (ex_assign rfl) rfl rfl fun a hF => q_end (n_sq (q_ret ?_))))
   obtain rfl := someI hr
   exact ret_of hF hS rfl (.tmp rfl .nil) rfl
 ·have hr := cond_t hc1 hr
  refine q_cond_t hF rfl hc1 (q_seq (q_region (q_x (v := (.bool false)) hF hS (ex_assign rfl) rfl rfl fun a hF => q_end (n_sq (q_ret (r_sq ?_))))))
  obtain rfl := someI hr
  exact ret_of hF hS rfl (.tmp rfl .nil) rfl

theorem c_impl_isRecord (p_s : List impl_Variable) (p_r : impl_Record) (r : Bool) (hr : impl_isRecord p_s p_r = some r) (w0 : World) (m : Mem) (hv : Vis m w0) (s1 : Sl) (h1 : Rd m s1 p_s) (s2 : Sl) (h2 : Rd m s2 p_r.Values) :
  Ret Tryz.prog 45 [s1.v, (.agg #[(.int .i64 p_r.Area), (.int .i64 p_r.House), s2.v])] w0 (fun v _ => v = (.bool r)) := by
 unfold impl_isRecord at hr
 refine ret_start Tryz.func45 rfl 29 rfl rfl m hv fun a hF hS => q_seq (q_region (q_box (cs := [(.int .i64 p_r.Area), (.int .i64 p_r.House), s2.v]) hF hS rfl rfl rfl fun a w b3 hF hS => q_x (v := (.bool false)) hF hS (ex_assign rfl) rfl rfl fun a hF => q_end (n_sq (q_seq ?_))))
 obtain ⟨t_5, hj1, hr⟩ := bindS hr
 refine q_join (fun a w => Fr a 29 [(4, (.bool t_5))] ∧ St [] w0 w m []) ?_ ?_
 ·refine q_region (q_x (v := (.pointer (some ⟨b3, 0, none⟩))) hF hS (ex_fieldAddr Tryz.underlying44 rfl sz3 rfl rfl) rfl rfl fun a hF => q_x (v := (.int .i64 p_r.Area)) hF hS (ex_load1 0 0 Tryz.underlying3 rfl rfl rfl rfl) rfl rfl fun a hF => q_x (v := (.bool (decide (0 ≤ p_r.Area)))) hF hS (ex_ibin rfl rfl rfl) rfl rfl fun a hF => q_x (v := (.bool (decide (0 ≤ p_r.Area)))) hF hS (ex_move rfl) rfl rfl fun a hF => ?_)
  rcases bcase (decide (0 ≤ p_r.Area)) with hc2 | hc2
  ·have hj1 := cond_f hc2 hj1
   refine q_skip hF (wanted_f hF rfl rfl rfl hc2 rfl) rfl fun a hF => q_skip hF (wanted_f hF rfl rfl rfl hc2 rfl) rfl fun a hF => q_skip hF (wanted_f hF rfl rfl rfl hc2 rfl) rfl fun a hF => q_x (v := (.bool false)) hF hS (ex_pick_f rfl rfl hc2) rfl rfl fun a hF => q_x (v := (.bool false)) hF hS (ex_move rfl) rfl rfl fun a hF => q_skip hF (wanted_f hF rfl rfl rfl rfl rfl) rfl fun a hF => q_skip hF (wanted_f hF rfl rfl rfl rfl rfl) rfl fun a hF => q_skip hF (wanted_f hF rfl rfl rfl rfl rfl) rfl fun a hF => q_x (v := (.bool false)) hF hS (ex_pick_f rfl rfl rfl) rfl rfl fun a hF => q_x (v := (.bool false)) hF hS (ex_move rfl) rfl rfl fun a hF => q_skip hF (wanted_f hF rfl rfl rfl rfl rfl) rfl fun a hF => q_skip hF (wanted_f hF rfl rfl rfl rfl rfl) rfl fun a hF => q_skip hF (wanted_f hF rfl rfl rfl rfl rfl) rfl fun a hF => q_x (v := (.bool false)) hF hS (ex_pick_f rfl rfl rfl) rfl rfl fun a hF => q_x (v := (.bool false)) hF hS (ex_move rfl) rfl rfl fun a hF => q_skip hF (wanted_f hF rfl rfl rfl rfl rfl) rfl fun a hF => q_skip hF (wanted_f hF rfl rfl rfl rfl rfl) rfl fun a hF => q_skip hF (wanted_f hF rfl rfl rfl rfl rfl) rfl fun a hF => q_skip hF (wanted_f hF rfl rfl rfl rfl rfl) rfl fun a hF => q_x (v := (.bool false)) hF hS (ex_pick_f rfl rfl rfl) rfl rfl fun a hF => q_x (v := (.bool false)) hF hS (ex_assign rfl) rfl rfl fun a hF => q_end (n_jn ?_)
   obtain rfl := someI hj1
   exact ⟨hF.sub ⟨rfl, trivial⟩, hS.mask [false]⟩
  ·have hj1 := cond_t hc2 hj1
   refine q_xg (v := (.pointer (some ⟨b3, 0, none⟩))) hF hS (ex_fieldAddr Tryz.underlying44 rfl sz3 rfl rfl) (wanted_t hF rfl rfl rfl hc2) rfl fun a hF => q_xg (v := (.int .i64 p_r.Area)) hF hS (ex_load1 0 0 Tryz.underlying3 rfl rfl rfl rfl) (wanted_t hF rfl rfl rfl hc2) rfl fun a hF => q_xg (v := (.bool (decide (p_r.Area ≤ 29)))) hF hS (ex_ibin rfl rfl rfl) (wanted_t hF rfl rfl rfl hc2) rfl fun a hF => q_x (v := (.bool (decide (p_r.Area ≤ 29)))) hF hS (ex_pick_t rfl rfl hc2) rfl rfl fun a hF => q_x (v := (.bool (decide (p_r.Area ≤ 29)))) hF hS (ex_move rfl) rfl rfl fun a hF => ?_
   rcases bcase (decide (p_r.Area ≤ 29)) with hc3 | hc3
   ·have hj1 := cond_f hc3 hj1
    refine q_skip hF (wanted_f hF rfl rfl rfl hc3 rfl) rfl fun a hF => q_skip hF (wanted_f hF rfl rfl rfl hc3 rfl) rfl fun a hF => q_skip hF (wanted_f hF rfl rfl rfl hc3 rfl) rfl fun a hF => q_x (v := (.bool false)) hF hS (ex_pick_f rfl rfl hc3) rfl rfl fun a hF => q_x (v := (.bool false)) hF hS (ex_move rfl) rfl rfl fun a hF => q_skip hF (wanted_f hF rfl rfl rfl rfl rfl) rfl fun a hF => q_skip hF (wanted_f hF rfl rfl rfl rfl rfl) rfl fun a hF => q_skip hF (wanted_f hF rfl rfl rfl rfl rfl) rfl fun a hF => q_x (v := (.bool false)) hF hS (ex_pick_f rfl rfl rfl) rfl rfl fun a hF => q_x (v := (.bool false)) hF hS (ex_move rfl) rfl rfl fun a hF => q_skip hF (wanted_f hF rfl rfl rfl rfl rfl) rfl fun a hF => q_skip hF (wanted_f hF rfl rfl rfl rfl rfl) rfl fun a hF => q_skip hF (wanted_f hF rfl rfl rfl rfl rfl) rfl fun a hF => q_skip hF (wanted_f hF rfl rfl rfl rfl rfl) rfl fun a hF => q_x (v := (.bool false)) hF hS (ex_pick_f rfl rfl rfl) rfl rfl fun a hF => q_x (v := (.bool false)) hF hS (ex_assign rfl) rfl rfl fun a hF => q_end (n_jn ?_)
    obtain rfl := someI hj1
    exact ⟨hF.sub ⟨rfl, trivial⟩, hS.mask [false]⟩
   ·have hj1 := cond_t hc3 hj1
    refine q_xg (v := (.pointer (some ⟨b3, 1, none⟩))) hF hS (ex_fieldAddr Tryz.underlying44 rfl sz3 rfl rfl) (wanted_t hF rfl rfl rfl hc3) rfl fun a hF => q_xg (v := (.int .i64 p_r.House)) hF hS (ex_load1 0 0 Tryz.underlying3 rfl rfl rfl rfl) (wanted_t hF rfl rfl rfl hc3) rfl fun a hF => q_xg (v := (.bool (decide (0 ≤ p_r.House)))) hF hS (ex_ibin rfl rfl rfl) (wanted_t hF rfl rfl rfl hc3) rfl fun a hF => q_x (v := (.bool (decide (0 ≤ p_r.House)))) hF hS (ex_pick_t rfl rfl hc3) rfl rfl fun a hF => q_x (v := (.bool (decide (0 ≤ p_r.House)))) hF hS (ex_move rfl) rfl rfl fun a hF => ?_
    rcases bcase (decide (0 ≤ p_r.House)) with hc4 | hc4
    ·have hj1 := cond_f hc4 hj1
     refine q_skip hF (wanted_f hF rfl rfl rfl hc4 rfl) rfl fun a hF => q_skip hF (wanted_f hF rfl rfl rfl hc4 rfl) rfl fun a hF => q_skip hF (wanted_f hF rfl rfl rfl hc4 rfl) rfl fun a hF => q_x (v := (.bool false)) hF hS (ex_pick_f rfl rfl hc4) rfl rfl fun a hF => q_x (v := (.bool false)) hF hS (ex_move rfl) rfl rfl fun a hF => q_skip hF (wanted_f hF rfl rfl rfl rfl rfl) rfl fun a hF => q_skip hF (wanted_f hF rfl rfl rfl rfl rfl) rfl fun a hF => q_skip hF (wanted_f hF rfl rfl rfl rfl rfl) rfl fun a hF => q_skip hF (wanted_f hF rfl rfl rfl rfl rfl) rfl fun a hF => q_x (v := (.bool false)) hF hS (ex_pick_f rfl rfl rfl) rfl rfl fun a hF => q_x (v := (.bool false)) hF hS (ex_assign rfl) rfl rfl fun a hF => q_end (n_jn ?_)
     obtain rfl := someI hj1
     exact ⟨hF.sub ⟨rfl, trivial⟩, hS.mask [false]⟩
    ·have hj1 := cond_t hc4 hj1
     refine q_xg (v := (.pointer (some ⟨b3, 1, none⟩))) hF hS (ex_fieldAddr Tryz.underlying44 rfl sz3 rfl rfl) (wanted_t hF rfl rfl rfl hc4) rfl fun a hF => q_xg (v := (.int .i64 p_r.House)) hF hS (ex_load1 0 0 Tryz.underlying3 rfl rfl rfl rfl) (wanted_t hF rfl rfl rfl hc4) rfl fun a hF => q_xg (v := (.bool (decide (p_r.House ≤ 999)))) hF hS (ex_ibin rfl rfl rfl) (wanted_t hF rfl rfl rfl hc4) rfl fun a hF => q_x (v := (.bool (decide (p_r.House ≤ 999)))) hF hS (ex_pick_t rfl rfl hc4) rfl rfl fun a hF => q_x (v := (.bool (decide (p_r.House ≤ 999)))) hF hS (ex_move rfl) rfl rfl fun a hF => ?_
     rcases bcase (decide (p_r.House ≤ 999)) with hc5 | hc5
     ·have hj1 := cond_f hc5 hj1
      refine q_skip hF (wanted_f hF rfl rfl rfl hc5 rfl) rfl fun a hF => q_skip hF (wanted_f hF rfl rfl rfl hc5 rfl) rfl fun a hF => q_skip hF (wanted_f hF rfl rfl rfl hc5 rfl) rfl fun a hF => q_skip hF (wanted_f hF rfl rfl rfl hc5 rfl) rfl fun a hF => q_x (v := (.bool false)) hF hS (ex_pick_f rfl rfl hc5) rfl rfl fun a hF => q_x (v := (.bool false)) hF hS (ex_assign rfl) rfl rfl fun a hF => q_end (n_jn ?_)
      obtain rfl := someI hj1
      exact ⟨hF.sub ⟨rfl, trivial⟩, hS.mask [false]⟩
     ·have hj1 := cond_t hc5 hj1
      refine q_xg (v := s1.v) hF hS (ex_move rfl) (wanted_t hF rfl rfl rfl hc5) rfl fun a hF => q_xg (v := (.pointer (some ⟨b3, 2, none⟩))) hF hS (ex_fieldAddr Tryz.underlying44 rfl sz40 rfl rfl) (wanted_t hF rfl rfl rfl hc5) rfl fun a hF => q_xg (v := s2.v) hF hS (ex_load1 0 0 Tryz.underlying40 rfl rfl rfl rfl) (wanted_t hF rfl rfl rfl hc5) rfl fun a hF => ?_
      obtain ⟨t_4, ht_4, hj1⟩ := bindS hj1
      refine q_callg (vs := [s1.v, s2.v]) hF hS (wanted_t hF rfl rfl rfl hc5) Tryz.func56 (by kernel_rfl) rfl rfl rfl (c_impl_areValues p_s p_r.Values t_4 ht_4 _ m hS.vis s1 h1 s2 h2) ?_
      rintro a w _ rfl hF hS
      refine q_x (v := (.bool t_4)) hF hS (ex_pick_t rfl rfl hc5) rfl rfl fun a hF => q_x (v := (.bool t_4)) hF hS (ex_assign rfl) rfl rfl fun a hF => q_end (n_jn ?_)
      obtain rfl := someI hj1
      exact ⟨hF.sub ⟨rfl, trivial⟩, hS.mask [false]⟩
 ·rintro a w ⟨hF, hS⟩
  refine n_sq (q_ret ?_)
  obtain rfl := someI hr
  exact ret_of hF hS rfl (.tmp rfl .nil) rfl

theorem c_impl_isData (p_s : List impl_Variable) (p_l : List impl_Record) (r : Bool) (hr : impl_isData p_s p_l = some r) (w0 : World) (m : Mem) (hv : Vis m w0) (s1 : Sl) (h1 : Rd m s1 p_s) (s2 : Sl) (h2 : Rd m s2 p_l) :
  Ret Tryz.prog 17 [s1.v, s2.v] w0 (fun v _ => v = (.bool r)) := by
 unfold impl_isData at hr
 refine ret_start Tryz.func17 rfl 21 rfl rfl m hv fun a hF hS => q_seq (q_region (q_x (v := (.bool false)) hF hS (ex_assign rfl) rfl rfl fun a hF => q_end (n_sq (q_seq (q_seq (q_region (q_x (v := s2.v) hF hS (ex_move rfl) rfl rfl fun a hF => q_x (v := (.int .i64 (goLen p_l))) hF hS (ex_len Tryz.underlying24 rfl h2.len) rfl rfl fun a hF => q_x (v := (.bool (decide (40 < (goLen p_l))))) hF hS (ex_ibin rfl rfl rfl) rfl rfl fun a hF => q_end (n_sq ?_))))))))
 rcases bcase (decide (40 < (goLen p_l))) with hc1 | hc1
 ·have hr := cond_f hc1 hr
  refine q_cond_f hF rfl hc1 (q_skipc (n_sq (q_seq (q_seq (q_region (q_x (v := s2.v) hF hS (ex_move rfl) rfl rfl fun a hF => q_x (v := (.int .i64 (goLen p_l))) hF hS (ex_len Tryz.underlying24 rfl h2.len) rfl rfl fun a hF => q_x (v := (.int .i64 0)) hF hS (ex_move rfl) rfl rfl fun a hF => q_end (n_sq (q_block ?_))))))))
  obtain ⟨o2, hl2, hr⟩ := bindS hr
  refine q_loop (fun (t_3 : Int) a w => Fr a 21 [(0, s1.v), (10, s2.v), (11, (.int .i64 (goLen p_l))), (12, (.int .i64 t_3))] ∧ St [] w0 w m []) (fun (o : (Unit) ⊕ (Bool)) e a w => o = .inl () ∧ e = .exit 0 ∧ Fr a 21 [] ∧ St [] w0 w m []) hl2 ⟨hF.sub ⟨rfl, rfl, rfl, rfl, trivial⟩, hS⟩ ?_ ?_
  ·clear hF hS
   rintro t_3 a w st ⟨hF, hS⟩ hb2
   unfold impl_isData_l1 at hb2
   refine q_seq (q_region (q_x (v := (.bool (decide (t_3 < (goLen p_l))))) hF hS (ex_ibin rfl rfl rfl) rfl rfl fun a hF => q_end (n_sq (q_seq ?_))))
   rcases bcase (decide (t_3 < (goLen p_l))) with hc3 | hc3
   ·have hb2 := cond_f hc3 hb2
    refine q_cond_f hF rfl hc3 (q_exit (x_sq ?_))
    obtain rfl := someI hb2
    exact ⟨nofun, .inl ⟨rfl, rfl, hF.sub trivial, hS⟩⟩
   ·have hb2 := cond_t hc3 hb2
    refine q_cond_t hF rfl hc3 (q_skipc (n_sq (q_seq (q_block (q_seq (q_region ?_))))))
    obtain ⟨e_4, he_4, hb2⟩ := bindS hb2
    obtain ⟨vs5, at5, d5⟩ := h2.at he_4 3 rfl
    obtain ⟨s6, rfl, h6⟩ : ∃ s6 : Sl, vs5 = [(.int .i64 e_4.Area), (.int .i64 e_4.House), s6.v] ∧ Rd m s6 e_4.Values := d5
    refine q_x (v := (elP s2 (t_3.toNat * 3))) hF hS (ex_indexAddr Tryz.underlying24 sz44 rfl rfl (h2.idx he_4)) rfl rfl fun a hF => q_x (v := (.agg #[(.int .i64 e_4.Area), (.int .i64 e_4.House), s6.v])) hF hS (ex_loadEA (us := [(.int .i64 e_4.Area), (.int .i64 e_4.House), s6.v]) 0 Tryz.underlying44 rfl sz44 rfl ((at5).at) rfl rfl rfl) rfl rfl fun a hF => q_alloc (cs := [(.int .i64 0), (.int .i64 0), nilS.v]) hF hS rfl rfl rfl fun a w b7 hF hS => q_store (vs := [(.int .i64 e_4.Area), (.int .i64 e_4.House), s6.v]) (cs' := [(.int .i64 e_4.Area), (.int .i64 e_4.House), s6.v]) 0 0 hF hS sz44 rfl rfl rfl rfl rfl rfl rfl rfl fun a w hF hS => q_end (n_sq (q_seq (q_region (q_x (v := s1.v) hF hS (ex_move rfl) rfl rfl fun a hF => q_x (v := (.agg #[(.int .i64 e_4.Area), (.int .i64 e_4.House), s6.v])) hF hS (ex_loadA (vs := [(.int .i64 e_4.Area), (.int .i64 e_4.House), s6.v]) 0 0 Tryz.underlying44 rfl sz44 rfl rfl rfl rfl) rfl rfl fun a hF => ?_))))
    obtain ⟨t_8, ht_8, hb2⟩ := bindS hb2
    refine q_call (vs := [s1.v, (.agg #[(.int .i64 e_4.Area), (.int .i64 e_4.House), s6.v])]) hF hS Tryz.func45 (by kernel_rfl) rfl rfl rfl (c_impl_isRecord p_s e_4 t_8 ht_8 _ m hS.vis s1 h1 s6 h6) ?_
    rintro a w _ rfl hF hS
    refine q_x (v := (.bool (!t_8))) hF hS (ex_not rfl) rfl rfl fun a hF => q_end (n_sq ?_)
    rcases bcase (!t_8) with hc4 | hc4
    ·have hb2 := cond_f hc4 hb2
     refine q_cond_f hF rfl hc4 (q_skipc (n_ib (n_sq (q_region (q_x (v := (.int .i64 (w64 (t_3 + 1)))) hF hS (ex_ibin rfl rfl rfl) rfl rfl fun a hF => q_x (v := (.int .i64 (w64 (t_3 + 1)))) hF hS (ex_move rfl) rfl rfl fun a hF => q_end ?_)))))
     obtain rfl := someI hb2
     exact ⟨rfl, hF.sub ⟨rfl, rfl, rfl, rfl, trivial⟩, hS.mask [false]⟩
    ·have hb2 := cond_t hc4 hb2
     refine q_cond_t hF rfl hc4 (q_seq (q_region (q_x (v := (.bool false)) hF hS (ex_assign rfl) rfl rfl fun a hF => q_end (n_sq (q_ret (r_ib (r_sq ?_)))))))
     obtain rfl := someI hb2
     refine ⟨nofun, .inr fun ho => ?_⟩
     subst ho
     refine r_ib (r_sq ?_)
     obtain rfl := someI hr
     exact ret_of hF hS rfl (.tmp rfl .nil) rfl
  ·rintro e a w ⟨rfl, rfl, hF, hS⟩
   refine x_ib (n_sq ?_)
   refine q_seq (q_region (q_x (v := (.bool true)) hF hS (ex_assign rfl) rfl rfl fun a hF => q_end (n_sq (q_ret ?_))))
   obtain rfl := someI hr
   exact ret_of hF hS rfl (.tmp rfl .nil) rfl
 ·have hr := cond_t hc1 hr
  refine q_cond_t hF rfl hc1 (q_seq (q_region (q_x (v := (.bool false)) hF hS (ex_assign rfl) rfl rfl fun a hF => q_end (n_sq (q_ret (r_sq ?_))))))
  obtain rfl := someI hr
  exact ret_of hF hS rfl (.tmp rfl .nil) rfl

theorem c_slices_Clone_int_int (p_s : List Int) (r : (List Int)) (hr : slices_Clone_int_int p_s = some r) (w0 : World) (m : Mem) (hv : Vis m w0) (s1 : Sl) (h1 : Rd m s1 p_s) :
  Ret Tryz.prog 86 [s1.v] w0 (fun v w => ∃ (q0' : Piece) (s0' : Sl), v = s0'.v ∧ St [] w0 w m [q0'] ∧ OwnL m 3 q0' s0' r) := by
 unfold slices_Clone_int_int at hr
 refine ret_start Tryz.func86 rfl 8 rfl rfl m hv fun a hF hS => q_seq (q_region (q_x (v := nilS.v) hF hS (ex_assign rfl) rfl rfl fun a hF => q_end (n_sq (q_seq (q_seq (q_region (q_x (v := s1.v) hF hS (ex_move rfl) rfl rfl fun a hF => q_x (v := (.bool s1.p.isNone)) hF hS (ex_eqNil Tryz.underlying40 rfl rfl) rfl rfl fun a hF => q_end (n_sq ?_))))))))
 rcases bcase (s1.p.isNone) with hc1 | hc1
 ·refine q_cond_f hF rfl hc1 (q_skipc (n_sq (q_seq (q_region (q_do rfl fun _ hK => wp_build0 (α := Int) hF hS Tryz.underlying40 inf3 rfl fun a w q2 s2 hF hS h2 _ => hK _ _ (q_x (v := s1.v) hF hS (ex_move rfl) rfl rfl fun a hF => ?_))))))
  obtain ⟨l_3, hl_3, hr⟩ := bindS hr
  refine q_do rfl fun _ hK => wp_append hF hS h2 Tryz.underlying40 inf3 rfl rfl rfl rfl (h1.vw hS.vis) rfl (by decide) hl_3 rfl fun a w q4 s4 hF hS h4 => hK _ _ (q_x (v := s4.v) hF hS (ex_assign rfl) rfl rfl fun a hF => q_end (n_sq (q_ret ?_)))
  obtain rfl := someI hr
  exact ret_of hF hS rfl (.tmp rfl .nil) ⟨q4, s4, rfl, hS.sel [0] (by decide), h4⟩
 ·have hnhc1 := h1.nilE hc1
  have hr : (some ([] : List Int)) = some r := by rw [hnhc1] at hr; exact hr
  refine q_cond_t hF rfl hc1 (q_seq (q_region (q_x (v := nilS.v) hF hS (ex_assign rfl) rfl rfl fun a hF => q_end (n_sq (q_ret (r_sq ?_))))))
  obtain rfl := someI hr
  exact ret_of hF hS rfl (.tmp rfl .nil) ⟨[], nilS, rfl, hS.sel [0] (by decide), (OwnL.nil (α := Int) m 3)⟩

theorem c_impl_copyRecord (p_r : impl_Record) (r : impl_Record) (hr : impl_copyRecord p_r = some r) (w0 : World) (m : Mem) (hv : Vis m w0) (s1 : Sl) (h1 : Rd m s1 p_r.Values) :
  Ret Tryz.prog 72 [(.agg #[(.int .i64 p_r.Area), (.int .i64 p_r.House), s1.v])] w0 (fun v w => ∃ (q0' : Piece) (s0' : Sl), v = (.agg #[(.int .i64 r.Area), (.int .i64 r.House), s0'.v]) ∧ St [] w0 w m [q0'] ∧ OwnL m 3 q0' s0' r.Values) := by
 unfold impl_copyRecord at hr
 refine ret_start Tryz.func72 rfl 8 rfl rfl m hv fun a hF hS => q_seq (q_region (q_box (cs := [(.int .i64 p_r.Area), (.int .i64 p_r.House), s1.v]) hF hS rfl rfl rfl fun a w b2 hF hS => q_alloc (cs := [(.int .i64 0), (.int .i64 0), nilS.v]) hF hS rfl rfl rfl fun a w b3 hF hS => q_end (n_sq (q_seq (q_region (q_x (v := (.pointer (some ⟨b2, 2, none⟩))) hF hS (ex_fieldAddr Tryz.underlying44 rfl sz40 rfl rfl) rfl rfl fun a hF => q_x (v := s1.v) hF hS (ex_load1 1 0 Tryz.underlying40 rfl rfl rfl rfl) rfl rfl fun a hF => ?_))))))
 obtain ⟨t_4, ht_4, hr⟩ := bindS hr
 refine q_call (vs := [s1.v]) hF hS Tryz.func86 (by kernel_rfl) rfl rfl rfl (c_slices_Clone_int_int p_r.Values t_4 ht_4 _ m hS.vis s1 h1) ?_
 rintro a w _ ⟨q6, s6, rfl, hR5, h6⟩ hF hS2
 have hS : St _ _ _ _ [q6, [⟨b3, [(.int .i64 0), (.int .i64 0), nilS.v], 44⟩], [⟨b2, [(.int .i64 p_r.Area), (.int .i64 p_r.House), s1.v], 44⟩]] := hS.joinF hR5
 refine q_x (v := (.pointer (some ⟨b2, 2, none⟩))) hF hS (ex_fieldAddr Tryz.underlying44 rfl sz40 rfl rfl) rfl rfl fun a hF => q_store (vs := [s6.v]) (cs' := [(.int .i64 p_r.Area), (.int .i64 p_r.House), s6.v]) 2 0 hF hS sz40 rfl rfl rfl rfl rfl rfl rfl rfl fun a w hF hS => q_end (n_sq (q_seq (q_region (q_x (v := (.agg #[(.int .i64 p_r.Area), (.int .i64 p_r.House), s6.v])) hF hS (ex_loadA (vs := [(.int .i64 p_r.Area), (.int .i64 p_r.House), s6.v]) 2 0 Tryz.underlying44 rfl sz44 rfl rfl rfl rfl) rfl rfl fun a hF => q_store (vs := [(.int .i64 p_r.Area), (.int .i64 p_r.House), s6.v]) (cs' := [(.int .i64 p_r.Area), (.int .i64 p_r.House), s6.v]) 1 0 hF hS sz44 rfl rfl rfl rfl rfl rfl rfl rfl fun a w hF hS => q_end (n_sq (q_ret ?_))))))
 obtain rfl := someI hr
 exact ret_of hF hS rfl (.cellA (us := [(.int .i64 p_r.Area), (.int .i64 p_r.House), s6.v]) 1 0 Tryz.underlying44 rfl sz44 rfl rfl rfl rfl .nil) ⟨q6, s6, rfl, hS.sel [0] (by decide), h6⟩

theorem c_impl_copyRecords (p_l : List impl_Record) (r : (List impl_Record)) (hr : impl_copyRecords p_l = some r) (w0 : World) (m : Mem) (hv : Vis m w0) (s1 : Sl) (h1 : Rd m s1 p_l) :
  Ret Tryz.prog 46 [s1.v] w0 (fun v w => ∃ (m' : Mem) (q0' : Piece) (s0' : Sl), v = s0'.v ∧ MLe [] w0.heap.size m m' ∧ St [] w0 w m' [q0'] ∧ OwnL m' 44 q0' s0' r) := by
 unfold impl_copyRecords at hr
 refine ret_start Tryz.func46 rfl 23 rfl rfl m hv fun a hF hS => q_seq (q_region (q_x (v := nilS.v) hF hS (ex_assign rfl) rfl rfl fun a hF => q_end (n_sq (q_seq (q_region (q_x (v := s1.v) hF hS (ex_move rfl) rfl rfl fun a hF => q_x (v := (.int .i64 (goLen p_l))) hF hS (ex_len Tryz.underlying24 rfl h1.len) rfl rfl fun a hF => ?_))))))
 obtain ⟨l_2, hl_2, hr⟩ := bindS hr
 refine q_do rfl fun _ hK => wp_make (z := ((impl_Record.mk 0 0 ([] : List Int)) : impl_Record)) hF hS Tryz.underlying24 inf44 rfl rfl rfl rfl ⟨nilS, rfl, (Rd.nil0 (α := Int) m)⟩ (by decide) hl_2 rfl fun a w q3 s3 hF hS h3 _ => hK _ _ (q_x (v := s3.v) hF hS (ex_assign rfl) rfl rfl fun a hF => q_end (n_sq (q_seq (q_seq (q_region (q_x (v := s1.v) hF hS (ex_move rfl) rfl rfl fun a hF => q_x (v := (.int .i64 (goLen p_l))) hF hS (ex_len Tryz.underlying24 rfl h1.len) rfl rfl fun a hF => q_x (v := (.int .i64 0)) hF hS (ex_move rfl) rfl rfl fun a hF => q_end (n_sq (q_block ?_))))))))
 obtain ⟨c_20, hl1, hr⟩ := bindS hr
 refine q_loop (fun (s : (List impl_Record) × Int) a w => ∃ (m7 : Mem), ∃ (q5 : Piece), ∃ c_4, ∃ t_6, s = (c_4, t_6) ∧ Fr a 23 [(3, s3.v), (9, s1.v), (10, (.int .i64 (goLen p_l))), (11, (.int .i64 t_6))] ∧ St [] w0 w m7 [q5] ∧ MLe [] w0.heap.size m m7 ∧ OwnL m7 44 q5 s3 c_4) (fun (c_20 : (List impl_Record)) e a w => ∃ (m22 : Mem), ∃ (q21 : Piece), e = .exit 0 ∧ Fr a 23 [(3, s3.v)] ∧ St [] w0 w m22 [q21] ∧ MLe [] w0.heap.size m m22 ∧ OwnL m22 44 q21 s3 c_20) hl1 ⟨m, q3, _, _, rfl, hF.sub ⟨rfl, rfl, rfl, rfl, trivial⟩, hS, (MLe.refl _ _), h3⟩ ?_ ?_
 ·clear hF hS
  rintro s a w st ⟨m7, q5, c_4, t_6, rfl, hF, hS, hm7, h5⟩ hb1
  unfold impl_copyRecords_l1 at hb1
  refine q_seq (q_region (q_x (v := (.bool (decide (t_6 < (goLen p_l))))) hF hS (ex_ibin rfl rfl rfl) rfl rfl fun a hF => q_end (n_sq (q_seq ?_))))
  rcases bcase (decide (t_6 < (goLen p_l))) with hc2 | hc2
  ·have hb1 := cond_f hc2 hb1
   refine q_cond_f hF rfl hc2 (q_exit (x_sq ?_))
   obtain rfl := someI hb1
   exact ⟨nofun, .inl ⟨m7, q5, rfl, hF.sub ⟨rfl, trivial⟩, hS, hm7, h5⟩⟩
  ·have hb1 := cond_t hc2 hb1
   refine q_cond_t hF rfl hc2 (q_skipc (n_sq (q_seq (q_block (q_seq (q_region (q_x (v := (.int .i64 t_6)) hF hS (ex_move rfl) rfl rfl fun a hF => ?_)))))))
   obtain ⟨e_8, he_8, hb1⟩ := bindS hb1
   obtain ⟨vs9, at9, d9⟩ := (h1.mono hm7.le).at he_8 3 rfl
   obtain ⟨s10, rfl, h10⟩ : ∃ s10 : Sl, vs9 = [(.int .i64 e_8.Area), (.int .i64 e_8.House), s10.v] ∧ Rd m7 s10 e_8.Values := d9
   refine q_x (v := (elP s1 (t_6.toNat * 3))) hF hS (ex_indexAddr Tryz.underlying24 sz44 rfl rfl ((h1.mono hm7.le).idx he_8)) rfl rfl fun a hF => q_x (v := (.agg #[(.int .i64 e_8.Area), (.int .i64 e_8.House), s10.v])) hF hS (ex_loadEA (us := [(.int .i64 e_8.Area), (.int .i64 e_8.House), s10.v]) 0 Tryz.underlying44 rfl sz44 rfl ((at9).at) rfl rfl rfl) rfl rfl fun a hF => q_alloc (cs := [(.int .i64 0), (.int .i64 0), nilS.v]) hF hS rfl rfl rfl fun a w b11 hF hS => q_x (v := (.int .i64 t_6)) hF hS (ex_assign rfl) rfl rfl fun a hF => q_store (vs := [(.int .i64 e_8.Area), (.int .i64 e_8.House), s10.v]) (cs' := [(.int .i64 e_8.Area), (.int .i64 e_8.House), s10.v]) 0 0 hF hS sz44 rfl rfl rfl rfl rfl rfl rfl rfl fun a w hF hS => q_end (n_sq (q_region (q_x (v := s3.v) hF hS (ex_move rfl) rfl rfl fun a hF => q_x (v := (.int .i64 t_6)) hF hS (ex_move rfl) rfl rfl fun a hF => q_x (v := (.agg #[(.int .i64 e_8.Area), (.int .i64 e_8.House), s10.v])) hF hS (ex_loadA (vs := [(.int .i64 e_8.Area), (.int .i64 e_8.House), s10.v]) 0 0 Tryz.underlying44 rfl sz44 rfl rfl rfl rfl) rfl rfl fun a hF => ?_)))
   obtain ⟨t_12, ht_12, hb1⟩ := bindS hb1
   refine q_call (vs := [(.agg #[(.int .i64 e_8.Area), (.int .i64 e_8.House), s10.v])]) hF hS Tryz.func72 (by kernel_rfl) rfl rfl rfl (c_impl_copyRecord e_8 t_12 ht_12 _ m7 hS.vis s10 h10) ?_
   rintro a w _ ⟨q14, s14, rfl, hR13, h14⟩ hF hS2
   have hS : St _ _ _ _ [q14, [⟨b11, [(.int .i64 e_8.Area), (.int .i64 e_8.House), s10.v], 44⟩], q5] := hS.joinF hR13
   obtain ⟨e_15, he_15, hb1⟩ := bindS hb1
   obtain ⟨vs16, at16, d16⟩ := h5.at he_15 3 rfl
   obtain ⟨s17, rfl, h17⟩ : ∃ s17 : Sl, vs16 = [(.int .i64 e_15.Area), (.int .i64 e_15.House), s17.v] ∧ Rd m7 s17 e_15.Values := d16
   refine q_x (v := (elP s3 (t_6.toNat * 3))) hF hS (ex_indexAddr Tryz.underlying24 sz44 rfl rfl (h5.idx he_15)) rfl rfl fun a hF => ?_
   obtain ⟨m18, hm18, hS, hz18⟩ := hS.freeze
   have h18 := h14.froz hm18.le hz18
   have hS : St _ _ _ _ [q5, [⟨b11, [(.int .i64 e_8.Area), (.int .i64 e_8.House), s10.v], 44⟩]] := hS.sel [1, 0] (by decide)
   refine q_do rfl fun _ hK => wp_storeE (e' := t_12) (us := [(.int .i64 t_12.Area), (.int .i64 t_12.House), s14.v]) (vs := [(.int .i64 e_15.Area), (.int .i64 e_15.House), s17.v]) 0 hF hS (h5.mono hm18.le) sz44 rfl rfl rfl rfl rfl rfl rfl he_15 at16 rfl rfl ⟨s14, rfl, h18⟩ fun w q19 hS h19 => hK _ _ (q_end (n_ib (n_sq (q_region (q_x (v := (.int .i64 (w64 (t_6 + 1)))) hF hS (ex_ibin rfl rfl rfl) rfl rfl fun a hF => q_x (v := (.int .i64 (w64 (t_6 + 1)))) hF hS (ex_move rfl) rfl rfl fun a hF => q_end ?_)))))
   obtain rfl := someI hb1
   exact ⟨rfl, m18, q19, _, _, rfl, hF.sub ⟨rfl, rfl, rfl, rfl, trivial⟩, hS.mask [true, false], (hm7.trans hm18), h19⟩
 ·rintro e a w ⟨m22, q21, rfl, hF, hS, hm22, h21⟩
  refine x_ib (n_sq ?_)
  refine q_seq (q_region (q_x (v := s3.v) hF hS (ex_move rfl) rfl rfl fun a hF => q_x (v := s3.v) hF hS (ex_assign rfl) rfl rfl fun a hF => q_end (n_sq (q_ret ?_))))
  obtain rfl := someI hr
  exact ret_of hF hS rfl (.tmp rfl .nil) ⟨m22, q21, s3, rfl, hm22, hS.sel [0] (by decide), h21⟩

theorem c_cmp_isNaN_int (p_x : Int) (r : Bool) (hr : cmp_isNaN_int p_x = some r) (w0 : World) (m : Mem) (hv : Vis m w0) :
  Ret Tryz.prog 67 [(.int .i64 p_x)] w0 (fun v _ => v = (.bool r)) := by
 unfold cmp_isNaN_int at hr
 refine ret_start Tryz.func67 rfl 6 rfl rfl m hv fun a hF hS => q_seq (q_region (q_x (v := (.bool false)) hF hS (ex_assign rfl) rfl rfl fun a hF => q_end (n_sq (q_seq (q_region (q_x (v := (.int .i64 p_x)) hF hS (ex_move rfl) rfl rfl fun a hF => q_x (v := (.int .i64 p_x)) hF hS (ex_move rfl) rfl rfl fun a hF => q_x (v := (.bool (p_x != p_x))) hF hS (ex_ibin rfl rfl rfl) rfl rfl fun a hF => q_x (v := (.bool (p_x != p_x))) hF hS (ex_assign rfl) rfl rfl fun a hF => q_end (n_sq (q_ret ?_))))))))
 obtain rfl := someI hr
 exact ret_of hF hS rfl (.tmp rfl .nil) rfl

theorem c_cmp_Compare_int (p_x : Int) (p_y : Int) (r : Int) (hr : cmp_Compare_int p_x p_y = some r) (w0 : World) (m : Mem) (hv : Vis m w0) :
  Ret Tryz.prog 40 [(.int .i64 p_x), (.int .i64 p_y)] w0 (fun v _ => v = (.int .i64 r)) := by
 unfold cmp_Compare_int at hr
 refine ret_start Tryz.func40 rfl 20 rfl rfl m hv fun a hF hS => q_seq (q_region (q_x (v := (.int .i64 0)) hF hS (ex_assign rfl) rfl rfl fun a hF => q_end (n_sq (q_seq (q_region (q_x (v := (.int .i64 p_x)) hF hS (ex_move rfl) rfl rfl fun a hF => ?_))))))
 obtain ⟨t_1, ht_1, hr⟩ := bindS hr
 refine q_call (vs := [(.int .i64 p_x)]) hF hS Tryz.func67 (by kernel_rfl) rfl rfl rfl (c_cmp_isNaN_int p_x t_1 ht_1 _ m hS.vis) ?_
 rintro a w _ rfl hF hS
 refine q_x (v := (.bool t_1)) hF hS (ex_assign rfl) rfl rfl fun a hF => q_end (n_sq (q_seq (q_region (q_x (v := (.int .i64 p_y)) hF hS (ex_move rfl) rfl rfl fun a hF => ?_))))
 obtain ⟨t_2, ht_2, hr⟩ := bindS hr
 refine q_call (vs := [(.int .i64 p_y)]) hF hS Tryz.func67 (by kernel_rfl) rfl rfl rfl (c_cmp_isNaN_int p_y t_2 ht_2 _ m hS.vis) ?_
 rintro a w _ rfl hF hS
 refine q_x (v := (.bool t_2)) hF hS (ex_assign rfl) rfl rfl fun a hF => q_end (n_sq (q_seq (q_seq (q_region (q_x (v := (.bool t_1)) hF hS (ex_move rfl) rfl rfl fun a hF => q_end (n_sq ?_))))))
 rcases bcase (t_1) with hc1 | hc1
 ·have hr := cond_f hc1 hr
  refine q_cond_f hF rfl hc1 (q_skipc (n_sq (q_seq (q_seq (q_region (q_x (v := (.bool t_2)) hF hS (ex_move rfl) rfl rfl fun a hF => q_end (n_sq ?_)))))))
  rcases bcase (t_2) with hc2 | hc2
  ·have hr := cond_f hc2 hr
   refine q_cond_f hF rfl hc2 (q_skipc (n_sq (q_seq (q_seq (q_region (q_x (v := (.int .i64 p_x)) hF hS (ex_move rfl) rfl rfl fun a hF => q_x (v := (.int .i64 p_y)) hF hS (ex_move rfl) rfl rfl fun a hF => q_x (v := (.bool (decide (p_x < p_y)))) hF hS (ex_ibin rfl rfl rfl) rfl rfl fun a hF => q_end (n_sq ?_)))))))
   rcases bcase (decide (p_x < p_y)) with hc3 | hc3
   ·have hr := cond_f hc3 hr
    refine q_cond_f hF rfl hc3 (q_skipc (n_sq (q_seq (q_seq (q_region (q_x (v := (.int .i64 p_x)) hF hS (ex_move rfl) rfl rfl fun a hF => q_x (v := (.int .i64 p_y)) hF hS (ex_move rfl) rfl rfl fun a hF => q_x (v := (.bool (decide (p_y < p_x)))) hF hS (ex_ibin rfl rfl rfl) rfl rfl fun a hF => q_end (n_sq ?_)))))))
    rcases bcase (decide (p_y < p_x)) with hc4 | hc4
    ·have hr := cond_f hc4 hr
     refine q_cond_f hF rfl hc4 (q_skipc (n_sq (q_seq (q_region (q_x (v := (.int .i64 0)) hF hS (ex_assign rfl) rfl rfl fun a hF => q_end (n_sq (q_ret ?_)))))))
     obtain rfl := someI hr
     exact ret_of hF hS rfl (.tmp rfl .nil) rfl
    ·have hr := cond_t hc4 hr
     refine q_cond_t hF rfl hc4 (q_seq (q_region (q_x (v := (.int .i64 1)) hF hS (ex_assign rfl) rfl rfl fun a hF => q_end (n_sq (q_ret (r_sq ?_))))))
     obtain rfl := someI hr
     exact ret_of hF hS rfl (.tmp rfl .nil) rfl
   ·have hr := cond_t hc3 hr
    refine q_cond_t hF rfl hc3 (q_seq (q_region (q_x (v := (.int .i64 (-1))) hF hS (ex_assign rfl) rfl rfl fun a hF => q_end (n_sq (q_ret (r_sq ?_))))))
    obtain rfl := someI hr
    exact ret_of hF hS rfl (.tmp rfl .nil) rfl
  ·have hr := cond_t hc2 hr
   refine q_cond_t hF rfl hc2 (q_seq (q_region (q_x (v := (.int .i64 1)) hF hS (ex_assign rfl) rfl rfl fun a hF => q_end (n_sq (q_ret (r_sq ?_))))))
   obtain rfl := someI hr
   exact ret_of hF hS rfl (.tmp rfl .nil) rfl
 ·have hr := cond_t hc1 hr
  refine q_cond_t hF rfl hc1 (q_seq (q_seq (q_region (q_x (v := (.bool t_2)) hF hS (ex_move rfl) rfl rfl fun a hF => q_end (n_sq ?_)))))
  rcases bcase (t_2) with hc5 | hc5
  ·have hr := cond_f hc5 hr
   refine q_cond_f hF rfl hc5 (q_skipc (n_sq (q_seq (q_region (q_x (v := (.int .i64 (-1))) hF hS (ex_assign rfl) rfl rfl fun a hF => q_end (n_sq (q_ret (r_sq ?_))))))))
   obtain rfl := someI hr
   exact ret_of hF hS rfl (.tmp rfl .nil) rfl
  ·have hr := cond_t hc5 hr
   refine q_cond_t hF rfl hc5 (q_seq (q_region (q_x (v := (.int .i64 0)) hF hS (ex_assign rfl) rfl rfl fun a hF => q_end (n_sq (q_ret (r_sq (r_sq ?_)))))))
   obtain rfl := someI hr
   exact ret_of hF hS rfl (.tmp rfl .nil) rfl

theorem c_slices_Compare_int_int (p_s1 : List Int) (p_s2 : List Int) (r : Int) (hr : slices_Compare_int_int p_s1 p_s2 = some r) (w0 : World) (m : Mem) (hv : Vis m w0) (s1 : Sl) (h1 : Rd m s1 p_s1) (s2 : Sl) (h2 : Rd m s2 p_s2) :
  Ret Tryz.prog 41 [s1.v, s2.v] w0 (fun v _ => v = (.int .i64 r)) := by
 unfold slices_Compare_int_int at hr
 refine ret_start Tryz.func41 rfl 36 rfl rfl m hv fun a hF hS => q_seq (q_region (q_x (v := (.int .i64 0)) hF hS (ex_assign rfl) rfl rfl fun a hF => q_end (n_sq (q_seq (q_seq (q_region (q_x (v := s1.v) hF hS (ex_move rfl) rfl rfl fun a hF => q_x (v := (.int .i64 (goLen p_s1))) hF hS (ex_len Tryz.underlying40 rfl h1.len) rfl rfl fun a hF => q_x (v := (.int .i64 0)) hF hS (ex_move rfl) rfl rfl fun a hF => q_end (n_sq (q_block ?_)))))))))
 obtain ⟨o1, hl1, hr⟩ := bindS hr
 refine q_loop (fun (t_3 : Int) a w => Fr a 36 [(0, s1.v), (1, s2.v), (9, s1.v), (10, (.int .i64 (goLen p_s1))), (11, (.int .i64 t_3))] ∧ St [] w0 w m []) (fun (o : (Unit) ⊕ (Int)) e a w => o = .inl () ∧ e = .exit 0 ∧ Fr a 36 [(0, s1.v), (1, s2.v)] ∧ St [] w0 w m []) hl1 ⟨hF.sub ⟨rfl, rfl, rfl, rfl, rfl, trivial⟩, hS⟩ ?_ ?_
 ·clear hF hS
  rintro t_3 a w st ⟨hF, hS⟩ hb1
  unfold slices_Compare_int_int_l1 at hb1
  refine q_seq (q_region (q_x (v := (.bool (decide (t_3 < (goLen p_s1))))) hF hS (ex_ibin rfl rfl rfl) rfl rfl fun a hF => q_end (n_sq (q_seq ?_))))
  rcases bcase (decide (t_3 < (goLen p_s1))) with hc2 | hc2
  ·have hb1 := cond_f hc2 hb1
   refine q_cond_f hF rfl hc2 (q_exit (x_sq ?_))
   obtain rfl := someI hb1
   exact ⟨nofun, .inl ⟨rfl, rfl, hF.sub ⟨rfl, rfl, trivial⟩, hS⟩⟩
  ·have hb1 := cond_t hc2 hb1
   refine q_cond_t hF rfl hc2 (q_skipc (n_sq (q_seq (q_block (q_seq (q_region (q_x (v := (.int .i64 t_3)) hF hS (ex_move rfl) rfl rfl fun a hF => ?_)))))))
   obtain ⟨e_4, he_4, hb1⟩ := bindS hb1
   obtain ⟨vs5, at5, d5⟩ := h1.at he_4 1 rfl
   obtain rfl : vs5 = [(.int .i64 e_4)] := d5
   refine q_x (v := (elP s1 (t_3.toNat * 1))) hF hS (ex_indexAddr Tryz.underlying40 sz3 rfl rfl (h1.idx he_4)) rfl rfl fun a hF => q_x (v := (.int .i64 e_4)) hF hS (ex_loadE1 0 Tryz.underlying3 rfl rfl ((at5).at) rfl rfl) rfl rfl fun a hF => q_x (v := (.int .i64 t_3)) hF hS (ex_assign rfl) rfl rfl fun a hF => q_x (v := (.int .i64 e_4)) hF hS (ex_assign rfl) rfl rfl fun a hF => q_end (n_sq (q_seq (q_seq (q_region (q_x (v := (.int .i64 t_3)) hF hS (ex_move rfl) rfl rfl fun a hF => q_x (v := s2.v) hF hS (ex_move rfl) rfl rfl fun a hF => q_x (v := (.int .i64 (goLen p_s2))) hF hS (ex_len Tryz.underlying40 rfl h2.len) rfl rfl fun a hF => q_x (v := (.bool (decide ((goLen p_s2) ≤ t_3)))) hF hS (ex_ibin rfl rfl rfl) rfl rfl fun a hF => q_end (n_sq ?_))))))
   rcases bcase (decide ((goLen p_s2) ≤ t_3)) with hc3 | hc3
   ·have hb1 := cond_f hc3 hb1
    refine q_cond_f hF rfl hc3 (q_skipc (n_sq (q_seq (q_region (q_x (v := s2.v) hF hS (ex_move rfl) rfl rfl fun a hF => q_x (v := (.int .i64 t_3)) hF hS (ex_move rfl) rfl rfl fun a hF => ?_)))))
    obtain ⟨e_6, he_6, hb1⟩ := bindS hb1
    obtain ⟨vs7, at7, d7⟩ := h2.at he_6 1 rfl
    obtain rfl : vs7 = [(.int .i64 e_6)] := d7
    refine q_x (v := (elP s2 (t_3.toNat * 1))) hF hS (ex_indexAddr Tryz.underlying40 sz3 rfl rfl (h2.idx he_6)) rfl rfl fun a hF => q_x (v := (.int .i64 e_6)) hF hS (ex_loadE1 0 Tryz.underlying3 rfl rfl ((at7).at) rfl rfl) rfl rfl fun a hF => q_x (v := (.int .i64 e_6)) hF hS (ex_assign rfl) rfl rfl fun a hF => q_end (n_sq (q_seq (q_region (q_x (v := (.int .i64 e_4)) hF hS (ex_move rfl) rfl rfl fun a hF => q_x (v := (.int .i64 e_6)) hF hS (ex_move rfl) rfl rfl fun a hF => ?_))))
    obtain ⟨t_8, ht_8, hb1⟩ := bindS hb1
    refine q_call (vs := [(.int .i64 e_4), (.int .i64 e_6)]) hF hS Tryz.func40 (by kernel_rfl) rfl rfl rfl (c_cmp_Compare_int e_4 e_6 t_8 ht_8 _ m hS.vis) ?_
    rintro a w _ rfl hF hS
    refine q_x (v := (.int .i64 t_8)) hF hS (ex_assign rfl) rfl rfl fun a hF => q_end (n_sq (q_seq (q_region (q_x (v := (.int .i64 t_8)) hF hS (ex_move rfl) rfl rfl fun a hF => q_x (v := (.bool (t_8 != 0))) hF hS (ex_ibin rfl rfl rfl) rfl rfl fun a hF => q_end (n_sq ?_)))))
    rcases bcase (t_8 != 0) with hc4 | hc4
    ·have hb1 := cond_f hc4 hb1
     refine q_cond_f hF rfl hc4 (q_skipc (n_ib (n_sq (q_region (q_x (v := (.int .i64 (w64 (t_3 + 1)))) hF hS (ex_ibin rfl rfl rfl) rfl rfl fun a hF => q_x (v := (.int .i64 (w64 (t_3 + 1)))) hF hS (ex_move rfl) rfl rfl fun a hF => q_end ?_)))))
     obtain rfl := someI hb1
     exact ⟨rfl, hF.sub ⟨rfl, rfl, rfl, rfl, rfl, trivial⟩, hS⟩
    ·have hb1 := cond_t hc4 hb1
     refine q_cond_t hF rfl hc4 (q_seq (q_region (q_x (v := (.int .i64 t_8)) hF hS (ex_move rfl) rfl rfl fun a hF => q_x (v := (.int .i64 t_8)) hF hS (ex_assign rfl) rfl rfl fun a hF => q_end (n_sq (q_ret (r_ib (r_sq ?_)))))))
     obtain rfl := someI hb1
     refine ⟨nofun, .inr fun ho => ?_⟩
     subst ho
     refine r_ib (r_sq ?_)
     obtain rfl := someI hr
     exact ret_of hF hS rfl (.tmp rfl .nil) rfl
   ·have hb1 := cond_t hc3 hb1
    refine q_cond_t hF rfl hc3 (q_seq (q_region (q_x (v := (.int .i64 1)) hF hS (ex_assign rfl) rfl rfl fun a hF => q_end (n_sq (q_ret (r_sq (r_ib (r_sq ?_))))))))
    obtain rfl := someI hb1
    refine ⟨nofun, .inr fun ho => ?_⟩
    subst ho
    refine r_ib (r_sq ?_)
    obtain rfl := someI hr
    exact ret_of hF hS rfl (.tmp rfl .nil) rfl
 ·rintro e a w ⟨rfl, rfl, hF, hS⟩
  refine x_ib (n_sq ?_)
  refine q_seq (q_seq (q_region (q_x (v := s1.v) hF hS (ex_move rfl) rfl rfl fun a hF => q_x (v := (.int .i64 (goLen p_s1))) hF hS (ex_len Tryz.underlying40 rfl h1.len) rfl rfl fun a hF => q_x (v := s2.v) hF hS (ex_move rfl) rfl rfl fun a hF => q_x (v := (.int .i64 (goLen p_s2))) hF hS (ex_len Tryz.underlying40 rfl h2.len) rfl rfl fun a hF => q_x (v := (.bool (decide ((goLen p_s1) < (goLen p_s2))))) hF hS (ex_ibin rfl rfl rfl) rfl rfl fun a hF => q_end (n_sq ?_))))
  rcases bcase (decide ((goLen p_s1) < (goLen p_s2))) with hc5 | hc5
  ·have hr := cond_f hc5 hr
   refine q_cond_f hF rfl hc5 (q_skipc (n_sq (q_seq (q_region (q_x (v := (.int .i64 0)) hF hS (ex_assign rfl) rfl rfl fun a hF => q_end (n_sq (q_ret ?_)))))))
   obtain rfl := someI hr
   exact ret_of hF hS rfl (.tmp rfl .nil) rfl
  ·have hr := cond_t hc5 hr
   refine q_cond_t hF rfl hc5 (q_seq (q_region (q_x (v := (.int .i64 (-1))) hF hS (ex_assign rfl) rfl rfl fun a hF => q_end (n_sq (q_ret (r_sq ?_))))))
   obtain rfl := someI hr
   exact ret_of hF hS rfl (.tmp rfl .nil) rfl

theorem c_impl_CompareRecords (p_a : impl_Record) (p_b : impl_Record) (r : Int) (hr : impl_CompareRecords p_a p_b = some r) (w0 : World) (m : Mem) (hv : Vis m w0) (s1 : Sl) (h1 : Rd m s1 p_a.Values) (s2 : Sl) (h2 : Rd m s2 p_b.Values) :
  Ret Tryz.prog 14 [(.agg #[(.int .i64 p_a.Area), (.int .i64 p_a.House), s1.v]), (.agg #[(.int .i64 p_b.Area), (.int .i64 p_b.House), s2.v])] w0 (fun v _ => v = (.int .i64 r)) := by
 unfold impl_CompareRecords at hr
 refine ret_start Tryz.func14 rfl 28 rfl rfl m hv fun a hF hS => q_seq (q_region (q_box (cs := [(.int .i64 p_a.Area), (.int .i64 p_a.House), s1.v]) hF hS rfl rfl rfl fun a w b3 hF hS => q_box (cs := [(.int .i64 p_b.Area), (.int .i64 p_b.House), s2.v]) hF hS rfl rfl rfl fun a w b4 hF hS => q_x (v := (.int .i64 0)) hF hS (ex_assign rfl) rfl rfl fun a hF => q_end (n_sq (q_seq (q_seq (q_region (q_x (v := (.pointer (some ⟨b3, 0, none⟩))) hF hS (ex_fieldAddr Tryz.underlying44 rfl sz3 rfl rfl) rfl rfl fun a hF => q_x (v := (.int .i64 p_a.Area)) hF hS (ex_load1 1 0 Tryz.underlying3 rfl rfl rfl rfl) rfl rfl fun a hF => q_x (v := (.pointer (some ⟨b4, 0, none⟩))) hF hS (ex_fieldAddr Tryz.underlying44 rfl sz3 rfl rfl) rfl rfl fun a hF => q_x (v := (.int .i64 p_b.Area)) hF hS (ex_load1 0 0 Tryz.underlying3 rfl rfl rfl rfl) rfl rfl fun a hF => ?_)))))))
 obtain ⟨t_5, ht_5, hr⟩ := bindS hr
 refine q_call (vs := [(.int .i64 p_a.Area), (.int .i64 p_b.Area)]) hF hS Tryz.func40 (by kernel_rfl) rfl rfl rfl (c_cmp_Compare_int p_a.Area p_b.Area t_5 ht_5 _ m hS.vis) ?_
 rintro a w _ rfl hF hS
 refine q_x (v := (.int .i64 t_5)) hF hS (ex_assign rfl) rfl rfl fun a hF => q_end (n_sq (q_seq (q_region (q_x (v := (.int .i64 t_5)) hF hS (ex_move rfl) rfl rfl fun a hF => q_x (v := (.bool (t_5 != 0))) hF hS (ex_ibin rfl rfl rfl) rfl rfl fun a hF => q_end (n_sq ?_)))))
 rcases bcase (t_5 != 0) with hc1 | hc1
 ·have hr := cond_f hc1 hr
  refine q_cond_f hF rfl hc1 (q_skipc (n_sq (q_seq (q_seq (q_region (q_x (v := (.pointer (some ⟨b3, 1, none⟩))) hF hS (ex_fieldAddr Tryz.underlying44 rfl sz3 rfl rfl) rfl rfl fun a hF => q_x (v := (.int .i64 p_a.House)) hF hS (ex_load1 1 0 Tryz.underlying3 rfl rfl rfl rfl) rfl rfl fun a hF => q_x (v := (.pointer (some ⟨b4, 1, none⟩))) hF hS (ex_fieldAddr Tryz.underlying44 rfl sz3 rfl rfl) rfl rfl fun a hF => q_x (v := (.int .i64 p_b.House)) hF hS (ex_load1 0 0 Tryz.underlying3 rfl rfl rfl rfl) rfl rfl fun a hF => ?_))))))
  obtain ⟨t_6, ht_6, hr⟩ := bindS hr
  refine q_call (vs := [(.int .i64 p_a.House), (.int .i64 p_b.House)]) hF hS Tryz.func40 (by kernel_rfl) rfl rfl rfl (c_cmp_Compare_int p_a.House p_b.House t_6 ht_6 _ m hS.vis) ?_
  rintro a w _ rfl hF hS
  refine q_x (v := (.int .i64 t_6)) hF hS (ex_assign rfl) rfl rfl fun a hF => q_end (n_sq (q_seq (q_region (q_x (v := (.int .i64 t_6)) hF hS (ex_move rfl) rfl rfl fun a hF => q_x (v := (.bool (t_6 != 0))) hF hS (ex_ibin rfl rfl rfl) rfl rfl fun a hF => q_end (n_sq ?_)))))
  rcases bcase (t_6 != 0) with hc2 | hc2
  ·have hr := cond_f hc2 hr
   refine q_cond_f hF rfl hc2 (q_skipc (n_sq (q_seq (q_region (q_x (v := (.pointer (some ⟨b3, 2, none⟩))) hF hS (ex_fieldAddr Tryz.underlying44 rfl sz40 rfl rfl) rfl rfl fun a hF => q_x (v := s1.v) hF hS (ex_load1 1 0 Tryz.underlying40 rfl rfl rfl rfl) rfl rfl fun a hF => q_x (v := (.pointer (some ⟨b4, 2, none⟩))) hF hS (ex_fieldAddr Tryz.underlying44 rfl sz40 rfl rfl) rfl rfl fun a hF => q_x (v := s2.v) hF hS (ex_load1 0 0 Tryz.underlying40 rfl rfl rfl rfl) rfl rfl fun a hF => ?_)))))
   obtain ⟨t_7, ht_7, hr⟩ := bindS hr
   refine q_call (vs := [s1.v, s2.v]) hF hS Tryz.func41 (by kernel_rfl) rfl rfl rfl (c_slices_Compare_int_int p_a.Values p_b.Values t_7 ht_7 _ m hS.vis s1 h1 s2 h2) ?_
   rintro a w _ rfl hF hS
   refine q_x (v := (.int .i64 t_7)) hF hS (ex_assign rfl) rfl rfl fun a hF => q_end (n_sq (q_ret ?_))
   obtain rfl := someI hr
   exact ret_of hF hS rfl (.tmp rfl .nil) rfl
  ·have hr := cond_t hc2 hr
   refine q_cond_t hF rfl hc2 (q_seq (q_region (q_x (v := (.int .i64 t_6)) hF hS (ex_move rfl) rfl rfl fun a hF => q_x (v := (.int .i64 t_6)) hF hS (ex_assign rfl) rfl rfl fun a hF => q_end (n_sq (q_ret (r_sq ?_))))))
   obtain rfl := someI hr
   exact ret_of hF hS rfl (.tmp rfl .nil) rfl
 ·have hr := cond_t hc1 hr
  refine q_cond_t hF rfl hc1 (q_seq (q_region (q_x (v := (.int .i64 t_5)) hF hS (ex_move rfl) rfl rfl fun a hF => q_x (v := (.int .i64 t_5)) hF hS (ex_assign rfl) rfl rfl fun a hF => q_end (n_sq (q_ret (r_sq ?_))))))
  obtain rfl := someI hr
  exact ret_of hF hS rfl (.tmp rfl .nil) rfl

/-raw-/
theorem q_boxD {DS : List Deferred} {P : Program} {L : List (Nat × Value)} {m : Mem} {O : List Piece} {a : Act} {n : Nat} {X : List Nat} {w0 w : World} {Q : Exit → Act → World → Prop} {ops : Array Oper} {rest : List Oper} {d : Option Tmp} {ty : TypeId} {p : String} {af : Array Edge} {x : Operand} {T : TypeId} {v : Value} {cs : List Value}
    (hF : FrD DS a n L) (hS : St X w0 w m O) (hx : evo L x = some v) (hv : v.cells = cs.toArray) (hd : dok d n = true)
    (k : ∀ a' w' b, FrD DS a' n (putL d (.pointer (some ⟨b, 0, none⟩)) L) → St X w0 w' m ([⟨b, cs, T⟩] :: O) → w'.drawn = w.drawn → wpList P ops Q rest a' w') : wpList P ops Q (⟨d, .box T x, ty, p, af, none⟩ :: rest) a w := by
  refine wpList_plain rfl fun _ hK => wp_of_run (v := .pointer (some ⟨w.heap.size, 0, none⟩)) (w' := w.alloc (.cells cs.toArray T)) ?_ (hK _ _ (k _ _ _ (hF.put _ hd) (hS.alloc cs T) rfl))
  simp [execOp, hF.eval hx, Instr.box, newVar, newRow, newObj, hv, Sem.run]

theorem e_cmp (x y t : Int) (ht : cmp_Compare_int x y = some t) (w : World) : RetX Tryz.prog 40 [(.int .i64 x), (.int .i64 y)] w (fun v w' => v = (.int .i64 t) ∧ w' = w) := by
  rw [cmp_some] at ht
  obtain rfl := Option.some.inj ht
  refine Calls.mono (Tryz.cmp_Compare_int x y w) ?_
  rintro e w' ⟨rfl, rfl⟩
  refine ⟨_, rfl, ?_, rfl⟩
  unfold Go.Lib.compareInt
  by_cases h1 : x < y
  · simp [h1]
  · by_cases h2 : y < x <;> simp [h1, h2]

theorem e_slices_Compare (p_s1 : List Int) (p_s2 : List Int) (r : Int) (hr : slices_Compare_int_int p_s1 p_s2 = some r) (w0 : World) (m : Mem) (hv : Vis m w0) (s1 : Sl) (h1 : Rd m s1 p_s1) (s2 : Sl) (h2 : Rd m s2 p_s2) :
  RetX Tryz.prog 41 [s1.v, s2.v] w0 (fun v w => v = (.int .i64 r) ∧ w = w0) := by
 unfold slices_Compare_int_int at hr
 have hS : St [] w0 w0 m [] := St.start w0 m hv
 refine ret_startX Tryz.func41 rfl 36 rfl rfl fun a hF => q_seq (q_region (q_x (v := (.int .i64 0)) hF hS (ex_assign rfl) rfl rfl fun a hF => q_end (n_sq (q_seq (q_seq (q_region (q_x (v := s1.v) hF hS (ex_move rfl) rfl rfl fun a hF => q_x (v := (.int .i64 (goLen p_s1))) hF hS (ex_len Tryz.underlying40 rfl h1.len) rfl rfl fun a hF => q_x (v := (.int .i64 0)) hF hS (ex_move rfl) rfl rfl fun a hF => q_end (n_sq (q_block ?_)))))))))
 obtain ⟨o1, hl1, hr⟩ := bindS hr
 refine q_loop (fun (t_3 : Int) a w => Fr a 36 [(0, s1.v), (1, s2.v), (9, s1.v), (10, (.int .i64 (goLen p_s1))), (11, (.int .i64 t_3))] ∧ St [] w0 w m [] ∧ w = w0) (fun (o : (Unit) ⊕ (Int)) e a w => o = .inl () ∧ e = .exit 0 ∧ Fr a 36 [(0, s1.v), (1, s2.v)] ∧ St [] w0 w m [] ∧ w = w0) hl1 ⟨hF.sub ⟨rfl, rfl, rfl, rfl, rfl, trivial⟩, hS, rfl⟩ ?_ ?_
 ·clear hF hS
  rintro t_3 a w st ⟨hF, hS, hw⟩ hb1
  unfold slices_Compare_int_int_l1 at hb1
  refine q_seq (q_region (q_x (v := (.bool (decide (t_3 < (goLen p_s1))))) hF hS (ex_ibin rfl rfl rfl) rfl rfl fun a hF => q_end (n_sq (q_seq ?_))))
  rcases bcase (decide (t_3 < (goLen p_s1))) with hc2 | hc2
  ·have hb1 := cond_f hc2 hb1
   refine q_cond_f hF rfl hc2 (q_exit (x_sq ?_))
   obtain rfl := someI hb1
   exact ⟨nofun, .inl ⟨rfl, rfl, hF.sub ⟨rfl, rfl, trivial⟩, hS, hw⟩⟩
  ·have hb1 := cond_t hc2 hb1
   refine q_cond_t hF rfl hc2 (q_skipc (n_sq (q_seq (q_block (q_seq (q_region (q_x (v := (.int .i64 t_3)) hF hS (ex_move rfl) rfl rfl fun a hF => ?_)))))))
   obtain ⟨e_4, he_4, hb1⟩ := bindS hb1
   obtain ⟨vs5, at5, d5⟩ := h1.at he_4 1 rfl
   obtain rfl : vs5 = [(.int .i64 e_4)] := d5
   refine q_x (v := (elP s1 (t_3.toNat * 1))) hF hS (ex_indexAddr Tryz.underlying40 sz3 rfl rfl (h1.idx he_4)) rfl rfl fun a hF => q_x (v := (.int .i64 e_4)) hF hS (ex_loadE1 0 Tryz.underlying3 rfl rfl ((at5).at) rfl rfl) rfl rfl fun a hF => q_x (v := (.int .i64 t_3)) hF hS (ex_assign rfl) rfl rfl fun a hF => q_x (v := (.int .i64 e_4)) hF hS (ex_assign rfl) rfl rfl fun a hF => q_end (n_sq (q_seq (q_seq (q_region (q_x (v := (.int .i64 t_3)) hF hS (ex_move rfl) rfl rfl fun a hF => q_x (v := s2.v) hF hS (ex_move rfl) rfl rfl fun a hF => q_x (v := (.int .i64 (goLen p_s2))) hF hS (ex_len Tryz.underlying40 rfl h2.len) rfl rfl fun a hF => q_x (v := (.bool (decide ((goLen p_s2) ≤ t_3)))) hF hS (ex_ibin rfl rfl rfl) rfl rfl fun a hF => q_end (n_sq ?_))))))
   rcases bcase (decide ((goLen p_s2) ≤ t_3)) with hc3 | hc3
   ·have hb1 := cond_f hc3 hb1
    refine q_cond_f hF rfl hc3 (q_skipc (n_sq (q_seq (q_region (q_x (v := s2.v) hF hS (ex_move rfl) rfl rfl fun a hF => q_x (v := (.int .i64 t_3)) hF hS (ex_move rfl) rfl rfl fun a hF => ?_)))))
    obtain ⟨e_6, he_6, hb1⟩ := bindS hb1
    obtain ⟨vs7, at7, d7⟩ := h2.at he_6 1 rfl
    obtain rfl : vs7 = [(.int .i64 e_6)] := d7
    refine q_x (v := (elP s2 (t_3.toNat * 1))) hF hS (ex_indexAddr Tryz.underlying40 sz3 rfl rfl (h2.idx he_6)) rfl rfl fun a hF => q_x (v := (.int .i64 e_6)) hF hS (ex_loadE1 0 Tryz.underlying3 rfl rfl ((at7).at) rfl rfl) rfl rfl fun a hF => q_x (v := (.int .i64 e_6)) hF hS (ex_assign rfl) rfl rfl fun a hF => q_end (n_sq (q_seq (q_region (q_x (v := (.int .i64 e_4)) hF hS (ex_move rfl) rfl rfl fun a hF => q_x (v := (.int .i64 e_6)) hF hS (ex_move rfl) rfl rfl fun a hF => ?_))))
    obtain ⟨t_8, ht_8, hb1⟩ := bindS hb1
    refine q_do rfl fun _ hK => wp_callX (vs := [(.int .i64 e_4), (.int .i64 e_6)]) hF Tryz.func40 (by kernel_rfl) rfl rfl rfl (e_cmp e_4 e_6 t_8 ht_8 _) fun a w2 _ hR hF => hK _ _ ?_
    obtain ⟨rfl, rfl⟩ := hR
    refine q_x (v := (.int .i64 t_8)) hF hS (ex_assign rfl) rfl rfl fun a hF => q_end (n_sq (q_seq (q_region (q_x (v := (.int .i64 t_8)) hF hS (ex_move rfl) rfl rfl fun a hF => q_x (v := (.bool (t_8 != 0))) hF hS (ex_ibin rfl rfl rfl) rfl rfl fun a hF => q_end (n_sq ?_)))))
    rcases bcase (t_8 != 0) with hc4 | hc4
    ·have hb1 := cond_f hc4 hb1
     refine q_cond_f hF rfl hc4 (q_skipc (n_ib (n_sq (q_region (q_x (v := (.int .i64 (w64 (t_3 + 1)))) hF hS (ex_ibin rfl rfl rfl) rfl rfl fun a hF => q_x (v := (.int .i64 (w64 (t_3 + 1)))) hF hS (ex_move rfl) rfl rfl fun a hF => q_end ?_)))))
     obtain rfl := someI hb1
     exact ⟨rfl, hF.sub ⟨rfl, rfl, rfl, rfl, rfl, trivial⟩, hS, hw⟩
    ·have hb1 := cond_t hc4 hb1
     refine q_cond_t hF rfl hc4 (q_seq (q_region (q_x (v := (.int .i64 t_8)) hF hS (ex_move rfl) rfl rfl fun a hF => q_x (v := (.int .i64 t_8)) hF hS (ex_assign rfl) rfl rfl fun a hF => q_end (n_sq (q_ret (r_ib (r_sq ?_)))))))
     obtain rfl := someI hb1
     refine ⟨nofun, .inr fun ho => ?_⟩
     subst ho
     refine r_ib (r_sq ?_)
     obtain rfl := someI hr
     exact ret_ofX hF hS rfl (.tmp rfl .nil) ⟨rfl, hw⟩
   ·have hb1 := cond_t hc3 hb1
    refine q_cond_t hF rfl hc3 (q_seq (q_region (q_x (v := (.int .i64 1)) hF hS (ex_assign rfl) rfl rfl fun a hF => q_end (n_sq (q_ret (r_sq (r_ib (r_sq ?_))))))))
    obtain rfl := someI hb1
    refine ⟨nofun, .inr fun ho => ?_⟩
    subst ho
    refine r_ib (r_sq ?_)
    obtain rfl := someI hr
    exact ret_ofX hF hS rfl (.tmp rfl .nil) ⟨rfl, hw⟩
 ·rintro e a w ⟨rfl, rfl, hF, hS, hw⟩
  refine x_ib (n_sq ?_)
  refine q_seq (q_seq (q_region (q_x (v := s1.v) hF hS (ex_move rfl) rfl rfl fun a hF => q_x (v := (.int .i64 (goLen p_s1))) hF hS (ex_len Tryz.underlying40 rfl h1.len) rfl rfl fun a hF => q_x (v := s2.v) hF hS (ex_move rfl) rfl rfl fun a hF => q_x (v := (.int .i64 (goLen p_s2))) hF hS (ex_len Tryz.underlying40 rfl h2.len) rfl rfl fun a hF => q_x (v := (.bool (decide ((goLen p_s1) < (goLen p_s2))))) hF hS (ex_ibin rfl rfl rfl) rfl rfl fun a hF => q_end (n_sq ?_))))
  rcases bcase (decide ((goLen p_s1) < (goLen p_s2))) with hc5 | hc5
  ·have hr := cond_f hc5 hr
   refine q_cond_f hF rfl hc5 (q_skipc (n_sq (q_seq (q_region (q_x (v := (.int .i64 0)) hF hS (ex_assign rfl) rfl rfl fun a hF => q_end (n_sq (q_ret ?_)))))))
   obtain rfl := someI hr
   exact ret_ofX hF hS rfl (.tmp rfl .nil) ⟨rfl, hw⟩
  ·have hr := cond_t hc5 hr
   refine q_cond_t hF rfl hc5 (q_seq (q_region (q_x (v := (.int .i64 (-1))) hF hS (ex_assign rfl) rfl rfl fun a hF => q_end (n_sq (q_ret (r_sq ?_))))))
   obtain rfl := someI hr
   exact ret_ofX hF hS rfl (.tmp rfl .nil) ⟨rfl, hw⟩

theorem e_CompareRecords (p_a : impl_Record) (p_b : impl_Record) (r : Int) (hr : impl_CompareRecords p_a p_b = some r) (w0 : World) (m : Mem) (hv : Vis m w0) (s1 : Sl) (h1 : Rd m s1 p_a.Values) (s2 : Sl) (h2 : Rd m s2 p_b.Values) :
  RetX Tryz.prog 14 [(.agg #[(.int .i64 p_a.Area), (.int .i64 p_a.House), s1.v]), (.agg #[(.int .i64 p_b.Area), (.int .i64 p_b.House), s2.v])] w0 (fun v w => v = (.int .i64 r) ∧ Below w0.heap.size w0 w ∧ w.drawn = w0.drawn) := by
 unfold impl_CompareRecords at hr
 have hS : St [] w0 w0 m [] := St.start w0 m hv
 refine ret_startX Tryz.func14 rfl 28 rfl rfl fun a hF => q_seq (q_region (q_boxD (cs := [(.int .i64 p_a.Area), (.int .i64 p_a.House), s1.v]) hF hS rfl rfl rfl fun a w b3 hF hS hd3 => q_boxD (cs := [(.int .i64 p_b.Area), (.int .i64 p_b.House), s2.v]) hF hS rfl rfl rfl fun a w b4 hF hS hd4 => q_x (v := (.int .i64 0)) hF hS (ex_assign rfl) rfl rfl fun a hF => q_end (n_sq (q_seq (q_seq (q_region (q_x (v := (.pointer (some ⟨b3, 0, none⟩))) hF hS (ex_fieldAddr Tryz.underlying44 rfl sz3 rfl rfl) rfl rfl fun a hF => q_x (v := (.int .i64 p_a.Area)) hF hS (ex_load1 1 0 Tryz.underlying3 rfl rfl rfl rfl) rfl rfl fun a hF => q_x (v := (.pointer (some ⟨b4, 0, none⟩))) hF hS (ex_fieldAddr Tryz.underlying44 rfl sz3 rfl rfl) rfl rfl fun a hF => q_x (v := (.int .i64 p_b.Area)) hF hS (ex_load1 0 0 Tryz.underlying3 rfl rfl rfl rfl) rfl rfl fun a hF => ?_)))))))
 obtain ⟨t_5, ht_5, hr⟩ := bindS hr
 refine q_do rfl fun _ hK => wp_callX (vs := [(.int .i64 p_a.Area), (.int .i64 p_b.Area)]) hF Tryz.func40 (by kernel_rfl) rfl rfl rfl (e_cmp p_a.Area p_b.Area t_5 ht_5 _) fun a w2 _ hR hF => hK _ _ ?_
 obtain ⟨rfl, rfl⟩ := hR
 refine q_x (v := (.int .i64 t_5)) hF hS (ex_assign rfl) rfl rfl fun a hF => q_end (n_sq (q_seq (q_region (q_x (v := (.int .i64 t_5)) hF hS (ex_move rfl) rfl rfl fun a hF => q_x (v := (.bool (t_5 != 0))) hF hS (ex_ibin rfl rfl rfl) rfl rfl fun a hF => q_end (n_sq ?_)))))
 rcases bcase (t_5 != 0) with hc1 | hc1
 ·have hr := cond_f hc1 hr
  refine q_cond_f hF rfl hc1 (q_skipc (n_sq (q_seq (q_seq (q_region (q_x (v := (.pointer (some ⟨b3, 1, none⟩))) hF hS (ex_fieldAddr Tryz.underlying44 rfl sz3 rfl rfl) rfl rfl fun a hF => q_x (v := (.int .i64 p_a.House)) hF hS (ex_load1 1 0 Tryz.underlying3 rfl rfl rfl rfl) rfl rfl fun a hF => q_x (v := (.pointer (some ⟨b4, 1, none⟩))) hF hS (ex_fieldAddr Tryz.underlying44 rfl sz3 rfl rfl) rfl rfl fun a hF => q_x (v := (.int .i64 p_b.House)) hF hS (ex_load1 0 0 Tryz.underlying3 rfl rfl rfl rfl) rfl rfl fun a hF => ?_))))))
  obtain ⟨t_6, ht_6, hr⟩ := bindS hr
  refine q_do rfl fun _ hK => wp_callX (vs := [(.int .i64 p_a.House), (.int .i64 p_b.House)]) hF Tryz.func40 (by kernel_rfl) rfl rfl rfl (e_cmp p_a.House p_b.House t_6 ht_6 _) fun a w2 _ hR hF => hK _ _ ?_
  obtain ⟨rfl, rfl⟩ := hR
  refine q_x (v := (.int .i64 t_6)) hF hS (ex_assign rfl) rfl rfl fun a hF => q_end (n_sq (q_seq (q_region (q_x (v := (.int .i64 t_6)) hF hS (ex_move rfl) rfl rfl fun a hF => q_x (v := (.bool (t_6 != 0))) hF hS (ex_ibin rfl rfl rfl) rfl rfl fun a hF => q_end (n_sq ?_)))))
  rcases bcase (t_6 != 0) with hc2 | hc2
  ·have hr := cond_f hc2 hr
   refine q_cond_f hF rfl hc2 (q_skipc (n_sq (q_seq (q_region (q_x (v := (.pointer (some ⟨b3, 2, none⟩))) hF hS (ex_fieldAddr Tryz.underlying44 rfl sz40 rfl rfl) rfl rfl fun a hF => q_x (v := s1.v) hF hS (ex_load1 1 0 Tryz.underlying40 rfl rfl rfl rfl) rfl rfl fun a hF => q_x (v := (.pointer (some ⟨b4, 2, none⟩))) hF hS (ex_fieldAddr Tryz.underlying44 rfl sz40 rfl rfl) rfl rfl fun a hF => q_x (v := s2.v) hF hS (ex_load1 0 0 Tryz.underlying40 rfl rfl rfl rfl) rfl rfl fun a hF => ?_)))))
   obtain ⟨t_7, ht_7, hr⟩ := bindS hr
   refine q_do rfl fun _ hK => wp_callX (vs := [s1.v, s2.v]) hF Tryz.func41 (by kernel_rfl) rfl rfl rfl (e_slices_Compare p_a.Values p_b.Values t_7 ht_7 _ m hS.vis s1 h1 s2 h2) fun a w2 _ hR hF => hK _ _ ?_
   obtain ⟨rfl, rfl⟩ := hR
   refine q_x (v := (.int .i64 t_7)) hF hS (ex_assign rfl) rfl rfl fun a hF => q_end (n_sq (q_ret ?_))
   obtain rfl := someI hr
   exact ret_ofX hF hS rfl (.tmp rfl .nil) ⟨rfl, hS.kept.toBelow, hd4.trans hd3⟩
  ·have hr := cond_t hc2 hr
   refine q_cond_t hF rfl hc2 (q_seq (q_region (q_x (v := (.int .i64 t_6)) hF hS (ex_move rfl) rfl rfl fun a hF => q_x (v := (.int .i64 t_6)) hF hS (ex_assign rfl) rfl rfl fun a hF => q_end (n_sq (q_ret (r_sq ?_))))))
   obtain rfl := someI hr
   exact ret_ofX hF hS rfl (.tmp rfl .nil) ⟨rfl, hS.kept.toBelow, hd4.trans hd3⟩
 ·have hr := cond_t hc1 hr
  refine q_cond_t hF rfl hc1 (q_seq (q_region (q_x (v := (.int .i64 t_5)) hF hS (ex_move rfl) rfl rfl fun a hF => q_x (v := (.int .i64 t_5)) hF hS (ex_assign rfl) rfl rfl fun a hF => q_end (n_sq (q_ret (r_sq ?_))))))
  obtain rfl := someI hr
  exact ret_ofX hF hS rfl (.tmp rfl .nil) ⟨rfl, hS.kept.toBelow, hd4.trans hd3⟩


theorem grow_of {w w' : World} (h : Below w.heap.size w w') (hd : w'.drawn = w.drawn) : ∃ q os', w' = Go.Sort.grow (w.drewN q) os' := by
  refine ⟨0, w'.heap.extract w.heap.size w'.heap.size, ?_⟩
  have e : w'.heap = w.heap ++ w'.heap.extract w.heap.size w'.heap.size := by
    apply Array.ext_getElem?
    intro k
    by_cases hk : k < w.heap.size
    · rw [Array.getElem?_append_left hk, h.block k hk]
    · rw [Array.getElem?_append_right (by omega), Array.getElem?_extract]
      split
      · congr 1
        omega
      · rw [Array.getElem?_eq_none (by omega)]
  unfold Go.Sort.grow World.drewN
  obtain ⟨h1, h2, h3, _, _⟩ := h
  cases w
  cases w'
  simp only at *
  subst h1 h2 h3 hd
  rw [← e]
  rfl

/-- records with where their values stand -/
abbrev RH (m : Mem) : Type := { p : Sl × impl_Record // Rd m p.1 p.2.Values }
instance (m : Mem) : Inhabited (RH m) := ⟨⟨(nilS, ⟨0, 0, []⟩), Rd.nil0 (α := Int) m⟩⟩
def RH.e {m : Mem} (x : RH m) : List Value := [(.int .i64 x.1.2.Area), (.int .i64 x.1.2.House), x.1.1.v]
def rcmp {m : Mem} (x y : RH m) : Int := cmpRecords x.1.2 y.1.2

theorem lt_iff {m : Mem} (x y : RH m) : Go.Proofs.ltOf rcmp x y = decide (cmpRecords x.1.2 y.1.2 < 0) := rfl

theorem cmpR_neg (x y : impl_Record) : cmpRecords y x = -cmpRecords x y := cmpL_neg _ _
theorem cmpR_trans {x y z : impl_Record} (h1 : cmpRecords x y ≤ 0) (h2 : cmpRecords y z ≤ 0) : cmpRecords x z ≤ 0 := cmpL_trans h1 h2

theorem rswo (m : Mem) : Go.Sort.SWO (Go.Proofs.ltOf (rcmp (m := m))) where
  irrefl x := by rw [lt_iff]; simp [cmpRecords, cmpL_self]
  trans x y z h1 h2 := by
    rw [lt_iff, decide_eq_true_eq] at *
    have h3 := cmpR_trans (Int.le_of_lt h1) (Int.le_of_lt h2)
    rcases Int.lt_or_eq_of_le h3 with h | h
    · exact h
    · have e : keyR x.1.2 = keyR z.1.2 := cmpL_eq h
      have e2 : x.1.2 = z.1.2 := keyR_inj e
      rw [e2, cmpR_neg] at h1
      omega
  ntrans x y z h1 h2 := by
    rw [lt_iff, decide_eq_false_iff_not] at *
    have h3 := cmpR_trans (x := z.1.2) (y := y.1.2) (z := x.1.2) (by rw [cmpR_neg]; omega) (by rw [cmpR_neg]; omega)
    rw [cmpR_neg] at h3
    omega

theorem rh_list {m : Mem} : ∀ (l : List impl_Record) (cs : List Value), (∀ i (h : i < l.length), ∃ V : Sl, slab cs (i * 3) 3 = [(.int .i64 l[i].Area), (.int .i64 l[i].House), V.v] ∧ Rd m V l[i].Values) →
    ∃ zs : List (RH m), zs.map (fun p => p.1.2) = l ∧ ∀ i (h : i < zs.length), slab cs (i * 3) 3 = zs[i].e
  | [], cs, _ => ⟨[], rfl, fun i h => by simp at h⟩
  | x :: l, cs, h => by
    obtain ⟨V, h1, h2⟩ := h 0 (Nat.succ_pos _)
    obtain ⟨zs, h3, h4⟩ := rh_list l (cs.drop 3) fun i hi => by
      obtain ⟨V, h5, h6⟩ := h (i + 1) (by simpa using hi)
      refine ⟨V, ?_, h6⟩
      rw [← List.getElem_cons_succ x l i (by simpa using hi), ← h5]
      unfold slab
      rw [List.drop_drop, show 3 + i * 3 = (i + 1) * 3 by omega]
    refine ⟨⟨(V, x), h2⟩ :: zs, by simp [h3], fun i hi => ?_⟩
    cases i with
    | zero => exact h1
    | succ i =>
      have := h4 i (by simpa using hi)
      unfold slab at this ⊢
      rw [List.drop_drop, show 3 + i * 3 = (i + 1) * 3 by omega] at this
      simpa using this

theorem hold_of {m : Mem} {w : World} {b : Nat} {cs : List Value} {T : TypeId} {zs : List (RH m)} (hh : w.heap[b]? = some (.cells cs.toArray T (0, 0))) (hc : ∀ i (h : i < zs.length), slab cs (i * 3) 3 = zs[i].e) : Go.Sort.HoldsK (RH.e (m := m)) 3 w b 0 zs.toArray := by
  intro j hj
  rw [Go.Sort.size_flatK] at hj
  have hj' : j < zs.length * 3 := by simpa using hj
  have hi : j / 3 < zs.length := (Nat.div_lt_iff_lt_mul (by decide)).2 hj'
  rw [Go.Sort.get_flatK _ _ _ _ (by simpa using hj'), getElem!_pos zs.toArray (j / 3) (by simpa using hi)]
  have h2 := hc (j / 3) hi
  have hm := Nat.mod_lt j (show 0 < 3 by decide)
  have hd := Nat.div_add_mod j 3
  rw [Nat.mul_comm] at hd
  have h3 : cs[j]? = (zs[j / 3].e)[j % 3]? := by
    rw [← h2]
    unfold slab
    rw [List.getElem?_take_of_lt hm, List.getElem?_drop, hd]
  have hl : j % 3 < (zs[j / 3].e).length := hm
  refine ⟨?_, ?_⟩
  · unfold World.cell?
    simp only [hh, Nat.zero_add]
    show cs.toArray[j]? = some ((zs[j / 3].e)[j % 3]!)
    rw [List.getElem?_toArray, h3, List.getElem?_eq_getElem hl, getElem!_pos (zs[j / 3].e) (j % 3) hl]
  · unfold World.frozen?
    simp [hh]

theorem put_heap {m : Mem} {w : World} {b n : Nat} {cs : List Value} {T : TypeId} {zs : List (RH m)} (hh : w.heap[b]? = some (.cells cs.toArray T (0, 0))) (hlen : zs.length * 3 ≤ cs.length) :
    (Go.Sort.putRowK (RH.e (m := m)) 3 (Go.Sort.ahead w n) b 0 zs.toArray).heap = (w.setRow b (zs.flatMap RH.e ++ cs.drop (zs.length * 3)).toArray).heap := by
  have hfl : ∀ (zs : List (RH m)), (zs.flatMap RH.e).length = zs.length * 3 := fun zs => by
    induction zs with
    | nil => rfl
    | cons x zs ih => rw [List.flatMap_cons, List.length_append, ih, List.length_cons]; show 3 + _ = _; omega
  have hfa : ∀ (zs : List (RH m)) (j : Nat) (h : j / 3 < zs.length), (zs.flatMap RH.e)[j]? = (zs[j / 3].e)[j % 3]? := fun zs => by
    induction zs with
    | nil => intro j h; simp at h
    | cons x zs ih =>
      intro j h
      rw [List.flatMap_cons]
      by_cases hj : j < 3
      · have e1 : j / 3 = 0 := by omega
        have e2 : j % 3 = j := by omega
        rw [List.getElem?_append_left (by show j < 3; exact hj), e2]
        simp [e1]
      · have e1 : j / 3 = (j - 3) / 3 + 1 := by omega
        have e2 : j % 3 = (j - 3) % 3 := by omega
        have e3 : (x.e).length = 3 := rfl
        rw [List.getElem?_append_right (by omega), e3, ih (j - 3) (by simp at h; omega), e2]
        simp [e1]
  unfold Go.Sort.putRowK Go.Sort.putRow Go.Sort.mapBlock World.setRow Go.Sort.ahead
  simp only
  apply Array.ext_getElem?
  intro k
  simp only [Array.getElem?_modify]
  by_cases hk : b = k
  · subst hk
    simp only [if_true, hh, Option.map_some, Go.Sort.onCells]
    congr 2
    apply Array.ext_getElem?
    intro j
    simp only [Go.Sort.putCells, Array.getElem?_mapIdx, List.getElem?_toArray, Nat.zero_le, true_and, Nat.zero_add, Go.Sort.size_flatK, List.size_toArray, Nat.sub_zero]
    by_cases hj : j < zs.length * 3
    · have hi : j / 3 < zs.length := (Nat.div_lt_iff_lt_mul (by decide)).2 hj
      have hl : j % 3 < (zs[j / 3].e).length := Nat.mod_lt j (show 0 < 3 by decide)
      rw [List.getElem?_append_left (by rw [hfl]; exact hj), hfa zs j hi, List.getElem?_eq_getElem hl, List.getElem?_eq_getElem (by omega)]
      simp only [Option.map_some, if_pos hj]
      rw [Go.Sort.get_flatK _ _ _ _ (by simpa using hj), getElem!_pos zs.toArray (j / 3) (by simpa using hi)]
      show some (id ((zs[j / 3].e)[j % 3]!)) = _
      rw [getElem!_pos (zs[j / 3].e) (j % 3) hl]
      rfl
    · rw [List.getElem?_append_right (by rw [hfl]; omega), hfl, List.getElem?_drop, show zs.length * 3 + (j - zs.length * 3) = j by omega]
      cases cs[j]? with
      | none => rfl
      | some z => simp [hj]
  · simp [hk]

theorem slab_flat {α : Type} (f : α → List Value) (hf : ∀ x, (f x).length = 3) : ∀ (l : List α) (r : List Value) (i : Nat) (h : i < l.length), slab (l.flatMap f ++ r) (i * 3) 3 = f l[i]
  | [], _, _, h => by simp at h
  | x :: l, r, 0, _ => by
    unfold slab
    rw [List.flatMap_cons, List.append_assoc, Nat.zero_mul, List.drop_zero, ← hf x, List.take_left]
    rfl
  | x :: l, r, i + 1, h => by
    have e : slab ((x :: l).flatMap f ++ r) ((i + 1) * 3) 3 = slab (l.flatMap f ++ r) (i * 3) 3 := by
      unfold slab
      rw [List.flatMap_cons, List.append_assoc, show (i + 1) * 3 = (f x).length + i * 3 by rw [hf]; omega, ← List.drop_drop, List.drop_left]
    rw [e, slab_flat f hf l r i (by simpa using h)]
    simp

theorem sort_own {m : Mem} {q : Piece} {s : Sl} {l : List impl_Record} {w0 : World} {X : List Nat} (hz : l.length < 4611686018427387904) (h1 : OwnL m 44 q s l) (hS : St X w0 w0 m [q]) :
    RetX Tryz.prog 47 [s.v, .func (.func 14) #[] #[]] w0 (fun v w => ∃ qp0 : Piece, v = (.tuple #[]) ∧ St X w0 w m [qp0] ∧ OwnL m 44 qp0 s (l.mergeSort fun x y => decide (cmpRecords x y ≤ 0))) := by
  have hlen := h1.len
  have hcap := h1.cap
  have hmax := h1.max
  rcases h1.blk with ⟨rfl, c2, c3⟩ | ⟨b, cs, rfl, c2, c3, c4⟩
  · have h0 : s.len = 0 := by omega
    have hl : l = [] := List.eq_nil_of_length_eq_zero (by omega)
    subst hl
    have hc := Go.Proofs.AnyF.slices_SortFunc_none Tryz.sortR s.p s.cap (.func (.func 14) #[] #[]) w0
    rw [← h0] at hc
    unfold RetX
    refine Calls.mono hc ?_
    rintro e w' ⟨rfl, rfl⟩
    exact ⟨_, rfl, [], rfl, hS, by simpa using h1⟩
  · have hh := hS.own ⟨b, cs, 44⟩ (by simp)
    simp only at hh
    have c3' : cs.length = s.cap * 3 := c3
    obtain ⟨zs, hzl, hzc⟩ := rh_list l cs c4
    have hzn : zs.length = l.length := by rw [← hzl, List.length_map]
    have hb : b < w0.heap.size := lt_of_heap hh
    have hbel : ∀ (dl : List (RH m)) (n : Nat) (os : Array Obj), dl.length = l.length → Below (w0.setRow b (dl.flatMap RH.e ++ cs.drop (dl.length * 3)).toArray).heap.size (w0.setRow b (dl.flatMap RH.e ++ cs.drop (dl.length * 3)).toArray) (Go.Proofs.sortWorldK (RH.e (m := m)) 3 w0 b 0 n dl.toArray os) := fun dl n os hdl => by
      have hp := put_heap (n := n) (zs := dl) hh (by omega)
      unfold Go.Proofs.sortWorldK
      refine ⟨rfl, rfl, rfl, ?_, fun k hk => ?_⟩
      · unfold Go.Sort.grow; simp only [Array.size_append, hp]; omega
      · unfold Go.Sort.grow; simp only [hp]; rw [Array.getElem?_append_left hk]
    have hst : ∀ (dl : List (RH m)) (n : Nat) (os : Array Obj), dl.length = l.length → St X w0 (Go.Proofs.sortWorldK (RH.e (m := m)) 3 w0 b 0 n dl.toArray os) m [[⟨b, dl.flatMap RH.e ++ cs.drop (dl.length * 3), 44⟩]] := fun dl n os hdl => by
      have hS' : St X w0 (w0.setRow b (dl.flatMap RH.e ++ cs.drop (dl.length * 3)).toArray) m [[⟨b, dl.flatMap RH.e ++ cs.drop (dl.length * 3), 44⟩]] := hS.setRow (j := 0) (k := 0) rfl _
      exact hS'.below (hbel dl n os hdl)
    have hcmp : Go.Proofs.CmpLays Tryz.prog 14 #[] (RH.e (m := m)) 3 rcmp b 0 zs.toArray.size w0 := fun n os dk hs x y => by
      have hdk : dk.toList.length = l.length := by simpa [hzn] using hs
      have hW := hst dk.toList n os hdk
      rw [Array.toArray_toList] at hW
      have hle : x.1.2.Values.length ≤ 9223372036854775807 := by
        have h1 := x.2.len
        have h2 := x.2.cap
        have h3 := x.2.max
        have : maxLen = 9223372036854775807 := by decide
        omega
      have h := e_CompareRecords x.1.2 y.1.2 _ (compareRecords_eq _ _ hle) _ m hW.vis x.1.1 x.2 y.1.1 y.2
      unfold RetX at h
      refine Calls.mono h ?_
      rintro e w' ⟨v, rfl, rfl, hb, hd⟩
      exact ⟨rfl, grow_of hb hd⟩
    have hc := Go.Proofs.AnyQ.slices_SortFunc Tryz.sortR 3 Tryz.isAgg44 Tryz.sizeOf44 (RH.e (m := m)) (fun _ => rfl) (fun x v hv => by simp [RH.e] at hv; rcases hv with rfl | rfl | rfl <;> rfl) rcmp (rswo m) 14 #[] b 0 s.cap zs.toArray w0
      (enters_of Tryz.func14 (by kernel_rfl) rfl) hcmp (hold_of hh hzc) hb (by simpa [hzn] using hz)
    unfold RetX
    have ea : [s.v, Value.func (.func 14) #[] #[]].toArray = #[.slice (some ⟨b, 0, none⟩) zs.toArray.size s.cap, .func (.func 14) #[] #[]] := by
      simp [Sl.v, c2, hzn, hlen]
    rw [ea]
    refine Calls.mono hc ?_
    rintro e w' ⟨rfl, d', n, os, hp, hs, rfl⟩
    obtain ⟨hsz, _, hperm⟩ := hp
    have e1 : d'.extract 0 zs.toArray.size = d' := by rw [← hsz]; exact Array.extract_size
    rw [e1, Array.extract_size] at hperm
    have hperm : d'.toList.Perm zs := by simpa using hperm
    have hdl : d'.toList.length = l.length := by rw [hperm.length_eq, hzn]
    have hW := hst d'.toList n os hdl
    rw [Array.toArray_toList] at hW
    have hrl : (d'.toList.map fun p => p.1.2) = l.mergeSort fun x y => decide (cmpRecords x y ≤ 0) := by
      refine List.Perm.eq_of_pairwise (le := fun x y => decide (cmpRecords x y ≤ 0) = true) ?_ ?_ ?_ (((hperm.map _).trans (by rw [hzl])).trans (List.mergeSort_perm _ _).symm)
      · intro a b _ _ h1 h2
        simp only [decide_eq_true_eq] at h1 h2
        have : cmpRecords a b = 0 := by rw [cmpR_neg] at h2; omega
        exact keyR_inj (cmpL_eq this)
      · rw [List.pairwise_iff_getElem]
        intro i j hi hj hij
        have hi' : i < d'.size := by simpa using hi
        have hj' : j < d'.size := by simpa using hj
        have := hs i j (Nat.zero_le _) hij (by rw [← hsz]; exact hj')
        rw [getElem!_pos d' j hj', getElem!_pos d' i hi', lt_iff, decide_eq_false_iff_not] at this
        simp only [List.getElem_map, Array.getElem_toList, decide_eq_true_eq]
        rw [cmpR_neg]
        omega
      · refine List.pairwise_mergeSort ?_ ?_ _
        · intro a b c h1 h2
          simp only [decide_eq_true_eq] at h1 h2 ⊢
          exact cmpR_trans h1 h2
        · intro a b
          simp only [Bool.or_eq_true, decide_eq_true_eq]
          rw [cmpR_neg a b]
          omega
    refine ⟨_, rfl, [⟨b, d'.toList.flatMap RH.e ++ cs.drop (d'.toList.length * 3), 44⟩], rfl, hW, by rw [List.length_mergeSort]; exact hlen, hcap, hmax, .inr ⟨b, _, rfl, c2, ?_, fun i hi => ?_⟩⟩
    · have hfl : ∀ (zs : List (RH m)), (zs.flatMap RH.e).length = zs.length * 3 := fun zs => by
        induction zs with
        | nil => rfl
        | cons x zs ih => rw [List.flatMap_cons, List.length_append, ih, List.length_cons]; show 3 + _ = _; omega
      show _ = s.cap * 3
      rw [List.length_append, hfl, List.length_drop, hdl, c3']
      omega
    · have hi' : i < d'.toList.length := by rw [hdl]; rw [List.length_mergeSort] at hi; exact hi
      have hsl := slab_flat (RH.e (m := m)) (fun _ => rfl) d'.toList (cs.drop (d'.toList.length * 3)) i hi'
      refine ⟨d'.toList[i].1.1, ?_, ?_⟩
      · show slab _ (i * 3) 3 = _
        rw [hsl]
        simp only [← hrl, List.getElem_map]
        rfl
      · simp only [← hrl, List.getElem_map]
        exact d'.toList[i].2

theorem c_impl_sortedRecords (p_l : List impl_Record) (r : (List impl_Record)) (hr : impl_sortedRecords p_l = some r) (w0 : World) (m : Mem) (hv : Vis m w0) (s1 : Sl) (h1 : Rd m s1 p_l) :
  Ret Tryz.prog 18 [s1.v] w0 (fun v w => ∃ (m' : Mem) (q0' : Piece) (s0' : Sl), v = s0'.v ∧ MLe [] w0.heap.size m m' ∧ St [] w0 w m' [q0'] ∧ OwnL m' 44 q0' s0' r) := by
  unfold impl_sortedRecords at hr
  refine ret_start Tryz.func18 rfl 9 rfl rfl m hv fun a hF hS => q_seq (q_region (q_x (v := nilS.v) hF hS (ex_assign rfl) rfl rfl fun a hF => q_end (n_sq (q_seq (q_region (q_x (v := s1.v) hF hS (ex_move rfl) rfl rfl fun a hF => ?_))))))
  obtain ⟨c, hc, hr⟩ := bindS hr
  refine q_call (vs := [s1.v]) hF hS Tryz.func46 (by kernel_rfl) rfl rfl rfl (c_impl_copyRecords p_l c hc _ m hS.vis s1 h1) ?_
  rintro a w _ ⟨m2, q2, s2, rfl, hm2, hR, h2⟩ hF hS2
  have hS : St [] w0 w m2 [q2] := hS.join hR hm2
  rcases bcase (decide (c.length < 4611686018427387904)) with hb | hb
  · rw [hb] at hr; cases hr
  rw [hb] at hr
  obtain rfl := someI hr
  refine q_x (v := s2.v) hF hS (ex_assign rfl) rfl rfl fun a hF => q_end (n_sq (q_seq (q_region (q_x (v := s2.v) hF hS (ex_move rfl) rfl rfl fun a hF => ?_))))
  have hS : St [] w0 w m2 ([q2] ++ []) := hS
  refine q_do rfl fun _ hK => wp_callX (vs := [s2.v, .func (.func 14) #[] #[]]) hF Tryz.func47 (by kernel_rfl) rfl rfl rfl (sort_own (of_decide_eq_true hb) h2 hS.enter) fun a w2 v hR hF => hK _ _ (q_end (n_sq (q_seq (q_region ?_))))
  obtain ⟨q3, rfl, hS3, h3⟩ := hR
  have hS := hS.leaveF hS3
  refine q_x (v := s2.v) hF hS (ex_move rfl) rfl rfl fun a hF => q_x (v := s2.v) hF hS (ex_assign rfl) rfl rfl fun a hF => q_end (n_sq (q_ret ?_))
  exact ret_of hF hS rfl (.tmp rfl .nil) ⟨m2, q3, s2, rfl, hm2, hS.sel [0] (by decide), h3⟩


theorem c_impl_SortData (p_s : List impl_Variable) (p_l : List impl_Record) (r : (List impl_Record) × Bool) (hr : impl_SortData p_s p_l = some r) (w0 : World) (m : Mem) (hv : Vis m w0) (s1 : Sl) (h1 : Rd m s1 p_s) (s2 : Sl) (h2 : Rd m s2 p_l) :
  Ret Tryz.prog 5 [s1.v, s2.v] w0 (fun v w => ∃ (m' : Mem) (q0' : Piece) (s0' : Sl), v = (.tuple #[s0'.v, (.bool r.2)]) ∧ MLe [] w0.heap.size m m' ∧ St [] w0 w m' [q0'] ∧ OwnL m' 44 q0' s0' r.1) := by
 unfold impl_SortData at hr
 refine ret_start Tryz.func5 rfl 17 rfl rfl m hv fun a hF hS => q_seq (q_region (q_x (v := nilS.v) hF hS (ex_assign rfl) rfl rfl fun a hF => q_x (v := (.bool false)) hF hS (ex_assign rfl) rfl rfl fun a hF => q_end (n_sq (q_seq (q_seq ?_)))))
 obtain ⟨t_5, hj1, hr⟩ := bindS hr
 refine q_join (fun a w => Fr a 17 [(1, s2.v), (14, (.bool t_5))] ∧ St [] w0 w m []) ?_ ?_
 ·refine q_region (q_x (v := s1.v) hF hS (ex_move rfl) rfl rfl fun a hF => ?_)
  obtain ⟨t_3, ht_3, hj1⟩ := bindS hj1
  refine q_call (vs := [s1.v]) hF hS Tryz.func16 (by kernel_rfl) rfl rfl rfl (c_impl_IsSchema p_s t_3 ht_3 _ m hS.vis s1 h1) ?_
  rintro a w _ rfl hF hS
  refine q_x (v := (.bool (!t_3))) hF hS (ex_not rfl) rfl rfl fun a hF => q_x (v := (.bool (!t_3))) hF hS (ex_move rfl) rfl rfl fun a hF => ?_
  rcases bcase (!t_3) with hc2 | hc2
  ·have hj1 := cond_f hc2 hj1
   refine q_xg (v := s1.v) hF hS (ex_move rfl) (wanted_t hF rfl rfl rfl hc2) rfl fun a hF => q_xg (v := s2.v) hF hS (ex_move rfl) (wanted_t hF rfl rfl rfl hc2) rfl fun a hF => ?_
   obtain ⟨t_4, ht_4, hj1⟩ := bindS hj1
   refine q_callg (vs := [s1.v, s2.v]) hF hS (wanted_t hF rfl rfl rfl hc2) Tryz.func17 (by kernel_rfl) rfl rfl rfl (c_impl_isData p_s p_l t_4 ht_4 _ m hS.vis s1 h1 s2 h2) ?_
   rintro a w _ rfl hF hS
   refine q_xg (v := (.bool (!t_4))) hF hS (ex_not rfl) (wanted_t hF rfl rfl rfl hc2) rfl fun a hF => q_x (v := (.bool (!t_4))) hF hS (ex_pick_f rfl rfl hc2) rfl rfl fun a hF => q_end (n_jn ?_)
   obtain rfl := someI hj1
   exact ⟨hF.sub ⟨rfl, rfl, trivial⟩, hS⟩
  ·have hj1 := cond_t hc2 hj1
   refine q_skip hF (wanted_f hF rfl rfl rfl hc2 rfl) rfl fun a hF => q_skip hF (wanted_f hF rfl rfl rfl hc2 rfl) rfl fun a hF => q_skip hF (wanted_f hF rfl rfl rfl hc2 rfl) rfl fun a hF => q_skip hF (wanted_f hF rfl rfl rfl hc2 rfl) rfl fun a hF => q_x (v := (.bool true)) hF hS (ex_pick_t rfl rfl hc2) rfl rfl fun a hF => q_end (n_jn ?_)
   obtain rfl := someI hj1
   exact ⟨hF.sub ⟨rfl, rfl, trivial⟩, hS⟩
 ·rintro a w ⟨hF, hS⟩
  refine n_sq ?_
  rcases bcase (t_5) with hc3 | hc3
  ·have hr := cond_f hc3 hr
   refine q_cond_f hF rfl hc3 (q_skipc (n_sq (q_seq (q_region (q_x (v := s2.v) hF hS (ex_move rfl) rfl rfl fun a hF => ?_)))))
   obtain ⟨t_6, ht_6, hr⟩ := bindS hr
   refine q_call (vs := [s2.v]) hF hS Tryz.func18 (by kernel_rfl) rfl rfl rfl (c_impl_sortedRecords p_l t_6 ht_6 _ m hS.vis s2 h2) ?_
   have hT := hS
   rintro a w _ ⟨m7, q8, s8, rfl, hm7, hR7, h8⟩ hF hS2
   have hS : St _ _ _ _ [q8] := hS.join hR7 hm7
   have hm7 := MLe.weakX (O0 := []) hT hm7
   refine q_x (v := s8.v) hF hS (ex_assign rfl) rfl rfl fun a hF => q_x (v := (.bool true)) hF hS (ex_assign rfl) rfl rfl fun a hF => q_end (n_sq (q_ret ?_))
   obtain rfl := someI hr
   exact ret_of hF hS rfl (.tmp rfl (.tmp rfl .nil)) ⟨m7, q8, s8, rfl, hm7, hS.sel [0] (by decide), h8⟩
  ·have hr := cond_t hc3 hr
   refine q_cond_t hF rfl hc3 (q_seq (q_region (q_x (v := nilS.v) hF hS (ex_assign rfl) rfl rfl fun a hF => q_x (v := (.bool false)) hF hS (ex_assign rfl) rfl rfl fun a hF => q_end (n_sq (q_ret (r_sq ?_))))))
   obtain rfl := someI hr
   exact ret_of hF hS rfl (.tmp rfl (.tmp rfl .nil)) ⟨m, [], nilS, rfl, (MLe.refl _ _), hS.sel [0] (by decide), (OwnL.nil (α := impl_Record) m 44)⟩

theorem c_spec_l1In (p_n : Int) (p_lo : Int) (p_hi : Int) (r : Bool) (hr : spec_l1In p_n p_lo p_hi = some r) (w0 : World) (m : Mem) (hv : Vis m w0) :
  Ret Tryz.prog 57 [(.int .i64 p_n), (.int .i64 p_lo), (.int .i64 p_hi)] w0 (fun v _ => v = (.bool r)) := by
 unfold spec_l1In at hr
 refine ret_start Tryz.func57 rfl 15 rfl rfl m hv fun a hF hS => q_seq (q_region (q_x (v := (.bool false)) hF hS (ex_assign rfl) rfl rfl fun a hF => q_end (n_sq (q_seq ?_))))
 obtain ⟨t_1, hj1, hr⟩ := bindS hr
 refine q_join (fun a w => Fr a 15 [(6, (.bool t_1))] ∧ St [] w0 w m []) ?_ ?_
 ·refine q_region (q_x (v := (.int .i64 p_n)) hF hS (ex_move rfl) rfl rfl fun a hF => q_x (v := (.int .i64 p_lo)) hF hS (ex_move rfl) rfl rfl fun a hF => q_x (v := (.bool (decide (p_lo ≤ p_n)))) hF hS (ex_ibin rfl rfl rfl) rfl rfl fun a hF => q_x (v := (.bool (decide (p_lo ≤ p_n)))) hF hS (ex_move rfl) rfl rfl fun a hF => ?_)
  rcases bcase (decide (p_lo ≤ p_n)) with hc2 | hc2
  ·have hj1 := cond_f hc2 hj1
   refine q_skip hF (wanted_f hF rfl rfl rfl hc2 rfl) rfl fun a hF => q_skip hF (wanted_f hF rfl rfl rfl hc2 rfl) rfl fun a hF => q_skip hF (wanted_f hF rfl rfl rfl hc2 rfl) rfl fun a hF => q_x (v := (.bool false)) hF hS (ex_pick_f rfl rfl hc2) rfl rfl fun a hF => q_x (v := (.bool false)) hF hS (ex_assign rfl) rfl rfl fun a hF => q_end (n_jn ?_)
   obtain rfl := someI hj1
   exact ⟨hF.sub ⟨rfl, trivial⟩, hS⟩
  ·have hj1 := cond_t hc2 hj1
   refine q_xg (v := (.int .i64 p_n)) hF hS (ex_move rfl) (wanted_t hF rfl rfl rfl hc2) rfl fun a hF => q_xg (v := (.int .i64 p_hi)) hF hS (ex_move rfl) (wanted_t hF rfl rfl rfl hc2) rfl fun a hF => q_xg (v := (.bool (decide (p_n ≤ p_hi)))) hF hS (ex_ibin rfl rfl rfl) (wanted_t hF rfl rfl rfl hc2) rfl fun a hF => q_x (v := (.bool (decide (p_n ≤ p_hi)))) hF hS (ex_pick_t rfl rfl hc2) rfl rfl fun a hF => q_x (v := (.bool (decide (p_n ≤ p_hi)))) hF hS (ex_assign rfl) rfl rfl fun a hF => q_end (n_jn ?_)
   obtain rfl := someI hj1
   exact ⟨hF.sub ⟨rfl, trivial⟩, hS⟩
 ·rintro a w ⟨hF, hS⟩
  refine n_sq (q_ret ?_)
  obtain rfl := someI hr
  exact ret_of hF hS rfl (.tmp rfl .nil) rfl

theorem c_spec_sName (p_s : List UInt8) (r : Bool) (hr : spec_sName p_s = some r) (w0 : World) (m : Mem) (hv : Vis m w0) :
  Ret Tryz.prog 58 [(strV p_s)] w0 (fun v _ => v = (.bool r)) := by
 unfold spec_sName at hr
 refine ret_start Tryz.func58 rfl 23 rfl rfl m hv fun a hF hS => q_seq (q_region (q_x (v := (.bool false)) hF hS (ex_assign rfl) rfl rfl fun a hF => q_end (n_sq (q_seq (q_seq (q_region (q_x (v := (.int .i64 0)) hF hS (ex_assign rfl) rfl rfl fun a hF => q_end (n_sq (q_block ?_)))))))))
 obtain ⟨o1, hl1, hr⟩ := bindS hr
 refine q_loop (fun (i_1 : Int) a w => Fr a 23 [(0, (strV p_s)), (3, (.int .i64 i_1))] ∧ St [] w0 w m []) (fun (o : (Unit) ⊕ (Bool)) e a w => o = .inl () ∧ e = .exit 0 ∧ Fr a 23 [(0, (strV p_s))] ∧ St [] w0 w m []) hl1 ⟨hF.sub ⟨rfl, rfl, trivial⟩, hS⟩ ?_ ?_
 ·clear hF hS
  rintro i_1 a w st ⟨hF, hS⟩ hb1
  unfold spec_sName_l1 at hb1
  refine q_seq (q_seq (q_region (q_x (v := (.int .i64 i_1)) hF hS (ex_move rfl) rfl rfl fun a hF => q_x (v := (strV p_s)) hF hS (ex_move rfl) rfl rfl fun a hF => q_x (v := (.int .i64 (goLen p_s))) hF hS (ex_strLen Tryz.underlying9 rfl) rfl rfl fun a hF => q_x (v := (.bool (decide (i_1 < (goLen p_s))))) hF hS (ex_ibin rfl rfl rfl) rfl rfl fun a hF => q_end (n_sq ?_))))
  rcases bcase (decide (i_1 < (goLen p_s))) with hc2 | hc2
  ·have hb1 := cond_f hc2 hb1
   refine q_cond_f hF rfl hc2 (q_exit (x_sq ?_))
   obtain rfl := someI hb1
   exact ⟨nofun, .inl ⟨rfl, rfl, hF.sub ⟨rfl, trivial⟩, hS⟩⟩
  ·have hb1 := cond_t hc2 hb1
   refine q_cond_t hF rfl hc2 (q_skipc (n_sq (q_seq (q_block (q_seq ?_)))))
   obtain ⟨t_4, hj3, hb1⟩ := bindS hb1
   refine q_join (fun a w => Fr a 23 [(0, (strV p_s)), (3, (.int .i64 i_1)), (19, (.bool t_4))] ∧ St [] w0 w m []) ?_ ?_
   ·refine q_region (q_x (v := (strV p_s)) hF hS (ex_move rfl) rfl rfl fun a hF => q_x (v := (.int .i64 i_1)) hF hS (ex_move rfl) rfl rfl fun a hF => ?_)
    obtain ⟨t_2, ht_2, hj3⟩ := bindS hj3
    refine q_x (v := (.int .u8 t_2)) hF hS (ex_strIdx Tryz.underlying9 rfl rfl ht_2) rfl rfl fun a hF => q_x (v := (.bool (decide (t_2 < 97)))) hF hS (ex_ibin rfl rfl rfl) rfl rfl fun a hF => q_x (v := (.bool (decide (t_2 < 97)))) hF hS (ex_move rfl) rfl rfl fun a hF => ?_
    rcases bcase (decide (t_2 < 97)) with hc4 | hc4
    ·have hj3 := cond_f hc4 hj3
     refine q_xg (v := (strV p_s)) hF hS (ex_move rfl) (wanted_t hF rfl rfl rfl hc4) rfl fun a hF => q_xg (v := (.int .i64 i_1)) hF hS (ex_move rfl) (wanted_t hF rfl rfl rfl hc4) rfl fun a hF => ?_
     obtain ⟨t_3, ht_3, hj3⟩ := bindS hj3
     refine q_xg (v := (.int .u8 t_3)) hF hS (ex_strIdx Tryz.underlying9 rfl rfl ht_3) (wanted_t hF rfl rfl rfl hc4) rfl fun a hF => q_xg (v := (.bool (decide (122 < t_3)))) hF hS (ex_ibin rfl rfl rfl) (wanted_t hF rfl rfl rfl hc4) rfl fun a hF => q_x (v := (.bool (decide (122 < t_3)))) hF hS (ex_pick_f rfl rfl hc4) rfl rfl fun a hF => q_end (n_jn ?_)
     obtain rfl := someI hj3
     exact ⟨hF.sub ⟨rfl, rfl, rfl, trivial⟩, hS⟩
    ·have hj3 := cond_t hc4 hj3
     refine q_skip hF (wanted_f hF rfl rfl rfl hc4 rfl) rfl fun a hF => q_skip hF (wanted_f hF rfl rfl rfl hc4 rfl) rfl fun a hF => q_skip hF (wanted_f hF rfl rfl rfl hc4 rfl) rfl fun a hF => q_skip hF (wanted_f hF rfl rfl rfl hc4 rfl) rfl fun a hF => q_x (v := (.bool true)) hF hS (ex_pick_t rfl rfl hc4) rfl rfl fun a hF => q_end (n_jn ?_)
     obtain rfl := someI hj3
     exact ⟨hF.sub ⟨rfl, rfl, rfl, trivial⟩, hS⟩
   ·rintro a w ⟨hF, hS⟩
    refine n_sq ?_
    rcases bcase (t_4) with hc5 | hc5
    ·have hb1 := cond_f hc5 hb1
     refine q_cond_f hF rfl hc5 (q_skipc (n_ib (n_sq (q_region (q_x (v := (.int .i64 i_1)) hF hS (ex_move rfl) rfl rfl fun a hF => q_x (v := (.int .i64 (w64 (i_1 + 1)))) hF hS (ex_ibin rfl rfl rfl) rfl rfl fun a hF => q_x (v := (.int .i64 (w64 (i_1 + 1)))) hF hS (ex_assign rfl) rfl rfl fun a hF => q_end ?_)))))
     obtain rfl := someI hb1
     exact ⟨rfl, hF.sub ⟨rfl, rfl, trivial⟩, hS⟩
    ·have hb1 := cond_t hc5 hb1
     refine q_cond_t hF rfl hc5 (q_seq (q_region (q_x (v := (.bool false)) hF hS (ex_assign rfl) rfl rfl fun a hF => q_end (n_sq (q_ret (r_ib (r_sq ?_)))))))
     obtain rfl := someI hb1
     refine ⟨nofun, .inr fun ho => ?_⟩
     subst ho
     refine r_ib (r_sq ?_)
     obtain rfl := someI hr
     exact ret_of hF hS rfl (.tmp rfl .nil) rfl
 ·rintro e a w ⟨rfl, rfl, hF, hS⟩
  refine x_ib (n_sq ?_)
  refine q_seq (q_region (q_x (v := (strV p_s)) hF hS (ex_move rfl) rfl rfl fun a hF => q_x (v := (.int .i64 (goLen p_s))) hF hS (ex_strLen Tryz.underlying9 rfl) rfl rfl fun a hF => ?_))
  obtain ⟨t_5, ht_5, hr⟩ := bindS hr
  refine q_call (vs := [(.int .i64 (goLen p_s)), (.int .i64 1), (.int .i64 8)]) hF hS Tryz.func57 (by kernel_rfl) rfl rfl rfl (c_spec_l1In (goLen p_s) 1 8 t_5 ht_5 _ m hS.vis) ?_
  rintro a w _ rfl hF hS
  refine q_x (v := (.bool t_5)) hF hS (ex_assign rfl) rfl rfl fun a hF => q_end (n_sq (q_ret ?_))
  obtain rfl := someI hr
  exact ret_of hF hS rfl (.tmp rfl .nil) rfl

theorem c_spec_sFind (p_s : List impl_Variable) (p_name : List UInt8) (r : Int) (hr : spec_sFind p_s p_name = some r) (w0 : World) (m : Mem) (hv : Vis m w0) (s1 : Sl) (h1 : Rd m s1 p_s) :
  Ret Tryz.prog 59 [s1.v, (strV p_name)] w0 (fun v _ => v = (.int .i64 r)) := by
 unfold spec_sFind at hr
 refine ret_start Tryz.func59 rfl 20 rfl rfl m hv fun a hF hS => q_seq (q_region (q_x (v := (.int .i64 0)) hF hS (ex_assign rfl) rfl rfl fun a hF => q_end (n_sq (q_seq (q_seq (q_region (q_x (v := s1.v) hF hS (ex_move rfl) rfl rfl fun a hF => q_x (v := (.int .i64 (goLen p_s))) hF hS (ex_len Tryz.underlying23 rfl h1.len) rfl rfl fun a hF => q_x (v := (.int .i64 0)) hF hS (ex_move rfl) rfl rfl fun a hF => q_end (n_sq (q_block ?_)))))))))
 obtain ⟨o1, hl1, hr⟩ := bindS hr
 refine q_loop (fun (t_2 : Int) a w => Fr a 20 [(1, (strV p_name)), (7, s1.v), (8, (.int .i64 (goLen p_s))), (9, (.int .i64 t_2))] ∧ St [] w0 w m []) (fun (o : (Unit) ⊕ (Int)) e a w => o = .inl () ∧ e = .exit 0 ∧ Fr a 20 [] ∧ St [] w0 w m []) hl1 ⟨hF.sub ⟨rfl, rfl, rfl, rfl, trivial⟩, hS⟩ ?_ ?_
 ·clear hF hS
  rintro t_2 a w st ⟨hF, hS⟩ hb1
  unfold spec_sFind_l1 at hb1
  refine q_seq (q_region (q_x (v := (.bool (decide (t_2 < (goLen p_s))))) hF hS (ex_ibin rfl rfl rfl) rfl rfl fun a hF => q_end (n_sq (q_seq ?_))))
  rcases bcase (decide (t_2 < (goLen p_s))) with hc2 | hc2
  ·have hb1 := cond_f hc2 hb1
   refine q_cond_f hF rfl hc2 (q_exit (x_sq ?_))
   obtain rfl := someI hb1
   exact ⟨nofun, .inl ⟨rfl, rfl, hF.sub trivial, hS⟩⟩
  ·have hb1 := cond_t hc2 hb1
   refine q_cond_t hF rfl hc2 (q_skipc (n_sq (q_seq (q_block (q_seq (q_region (q_x (v := (.int .i64 t_2)) hF hS (ex_move rfl) rfl rfl fun a hF => ?_)))))))
   obtain ⟨e_3, he_3, hb1⟩ := bindS hb1
   obtain ⟨vs4, at4, d4⟩ := h1.at he_3 2 rfl
   obtain rfl : vs4 = [(strV e_3.Name), (.int .i64 e_3.Levels)] := d4
   refine q_x (v := (elP s1 (t_2.toNat * 2))) hF hS (ex_indexAddr Tryz.underlying23 sz83 rfl rfl (h1.idx he_3)) rfl rfl fun a hF => q_x (v := (.agg #[(strV e_3.Name), (.int .i64 e_3.Levels)])) hF hS (ex_loadEA (us := [(strV e_3.Name), (.int .i64 e_3.Levels)]) 0 Tryz.underlying83 rfl sz83 rfl ((at4).at) rfl rfl rfl) rfl rfl fun a hF => q_alloc (cs := [(strV ([] : List UInt8)), (.int .i64 0)]) hF hS rfl rfl rfl fun a w b5 hF hS => q_x (v := (.int .i64 t_2)) hF hS (ex_assign rfl) rfl rfl fun a hF => q_store (vs := [(strV e_3.Name), (.int .i64 e_3.Levels)]) (cs' := [(strV e_3.Name), (.int .i64 e_3.Levels)]) 0 0 hF hS sz83 rfl rfl rfl rfl rfl rfl rfl rfl fun a w hF hS => q_end (n_sq (q_seq (q_region (q_x (v := (.pointer (some ⟨b5, 0, none⟩))) hF hS (ex_fieldAddr Tryz.underlying83 rfl sz9 rfl rfl) rfl rfl fun a hF => q_x (v := (strV e_3.Name)) hF hS (ex_load1 0 0 Tryz.underlying9 rfl rfl rfl rfl) rfl rfl fun a hF => q_x (v := (strV p_name)) hF hS (ex_move rfl) rfl rfl fun a hF => q_x (v := (.bool (e_3.Name == p_name))) hF hS (ex_strEq rfl rfl) rfl rfl fun a hF => q_end (n_sq ?_)))))
   rcases bcase (e_3.Name == p_name) with hc3 | hc3
   ·have hb1 := cond_f hc3 hb1
    refine q_cond_f hF rfl hc3 (q_skipc (n_ib (n_sq (q_region (q_x (v := (.int .i64 (w64 (t_2 + 1)))) hF hS (ex_ibin rfl rfl rfl) rfl rfl fun a hF => q_x (v := (.int .i64 (w64 (t_2 + 1)))) hF hS (ex_move rfl) rfl rfl fun a hF => q_end ?_)))))
    obtain rfl := someI hb1
    exact ⟨rfl, hF.sub ⟨rfl, rfl, rfl, rfl, trivial⟩, hS.mask [false]⟩
   ·have hb1 := cond_t hc3 hb1
    refine q_cond_t hF rfl hc3 (q_seq (q_region (q_x (v := (.int .i64 t_2)) hF hS (ex_move rfl) rfl rfl fun a hF => q_x (v := (.int .i64 t_2)) hF hS (ex_assign rfl) rfl rfl fun a hF => q_end (n_sq (q_ret (r_ib (r_sq ?_)))))))
    obtain rfl := someI hb1
    refine ⟨nofun, .inr fun ho => ?_⟩
    subst ho
    refine r_ib (r_sq ?_)
    obtain rfl := someI hr
    exact ret_of hF hS rfl (.tmp rfl .nil) rfl
 ·rintro e a w ⟨rfl, rfl, hF, hS⟩
  refine x_ib (n_sq ?_)
  refine q_seq (q_region (q_x (v := (.int .i64 (-1))) hF hS (ex_assign rfl) rfl rfl fun a hF => q_end (n_sq (q_ret ?_))))
  obtain rfl := someI hr
  exact ret_of hF hS rfl (.tmp rfl .nil) rfl

end Go.Proofs.YtebjhiflnemkhaaGreatDoor
