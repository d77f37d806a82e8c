/- The walks of the functions: each returns what its plain function says. -/
import Derived.Test.YtebjhiflnemkhaaGDefs
import Derived.Test.YtebjhiflnemkhaaRows
namespace Go.Proofs.Ytebjhiflnemkhaa
open Go.Gx Go.Gx.F Go.RowKit
set_option linter.all false
set_option maxRecDepth 10000

theorem mixed : Try.prog.follows .mixedOrders = true := by kernel_rfl
theorem inf3 : inf Try.prog 3 = some (1, 8, [(.int .i64 0)]) := by kernel_rfl
theorem inf5 : inf Try.prog 5 = some (1, 1, [(.int .u8 0)]) := by kernel_rfl
theorem inf9 : inf Try.prog 9 = some (1, 16, [(strV ([] : List UInt8))]) := by kernel_rfl
theorem inf36 : inf Try.prog 36 = some (3, 40, [(.int .i64 0), (.int .i64 0), nilS.v]) := by kernel_rfl
theorem inf85 : inf Try.prog 85 = some (2, 24, [(strV ([] : List UInt8)), (.int .i64 0)]) := by kernel_rfl
theorem sz3 : szOf Try.prog 3 = some 1 := by kernel_rfl
theorem sz4 : szOf Try.prog 4 = some 1 := by kernel_rfl
theorem sz5 : szOf Try.prog 5 = some 1 := by kernel_rfl
theorem sz9 : szOf Try.prog 9 = some 1 := by kernel_rfl
theorem sz22 : szOf Try.prog 22 = some 1 := by kernel_rfl
theorem sz24 : szOf Try.prog 24 = some 1 := by kernel_rfl
theorem sz26 : szOf Try.prog 26 = some 2 := by kernel_rfl
theorem sz36 : szOf Try.prog 36 = some 3 := by kernel_rfl
theorem sz62 : szOf Try.prog 62 = some 1 := by kernel_rfl
theorem sz85 : szOf Try.prog 85 = some 2 := by kernel_rfl

theorem c_spec_l1Cur_next (p_c : spec_l1Cur) (r : Int × spec_l1Cur) (hr : spec_l1Cur_next p_c = some r) (w0 : World) (m : Mem) (b_p_c : Nat) (s1 : Sl) (h1 : Rd m s1 p_c.code) (X : List Nat) (hS : St X w0 w0 m [[⟨b_p_c,[s1.v,(iV p_c.at_),(.int .u64 p_c.seed.v)],64⟩]]) :
  RetX Try.prog 78 [(.pointer (some ⟨b_p_c,0,none⟩))] w0 (fun v w=>v = (iV r.1)∧St X w0 w m [[⟨b_p_c,[s1.v,(iV r.2.at_),(.int .u64 r.2.seed.v)],64⟩]]∧r.2.code = p_c.code):=by
 unfold spec_l1Cur_next at hr
 refine ret_startX Try.func78 rfl 62 rfl rfl fun a hF=>q_seq (q_region (q_x (v:=(iV 0)) hF hS (ex_assign rfl) rfl rfl fun a hF=>q_end (n_sq (q_seq (q_region (q_x (v:=(iV 0)) hF hS (ex_assign rfl) rfl rfl fun a hF=>q_end (n_sq (q_seq (q_seq (e_region ⟨[],[]⟩ mixed fun w' hw'=>?_))))))))))
 have hS:=hS.below hw'
 refine e_p (v:=(.pointer (some ⟨b_p_c,0,none⟩))) 0 hF rfl (ex_move rfl) rfl rfl (by kernel_rfl) (by kernel_rfl) (by kernel_rfl) fun a hF=>e_p (v:=(.pointer (some ⟨b_p_c,0,none⟩))) 1 hF rfl (ex_nilCheck rfl) rfl rfl (by kernel_rfl) (by kernel_rfl) (by kernel_rfl) fun a hF=>e_p (v:=(.pointer (some ⟨b_p_c,1,none⟩))) 2 hF rfl (ex_fieldAddr Try.underlying64 rfl sz3 rfl rfl) rfl rfl (by kernel_rfl) (by kernel_rfl) (by kernel_rfl) fun a hF=>e_x (v:=(iV p_c.at_)) 3 hF hS rfl (ex_load1 0 0 Try.underlying3 rfl rfl rfl rfl) rfl rfl (by kernel_rfl) (by kernel_rfl) (by kernel_rfl) (by kernel_rfl) fun a hF=>e_p (v:=(.pointer (some ⟨b_p_c,0,none⟩))) 4 hF rfl (ex_move rfl) rfl rfl (by kernel_rfl) (by kernel_rfl) (by kernel_rfl) fun a hF=>e_p (v:=(.pointer (some ⟨b_p_c,0,none⟩))) 5 hF rfl (ex_nilCheck rfl) rfl rfl (by kernel_rfl) (by kernel_rfl) (by kernel_rfl) fun a hF=>e_p (v:=(.pointer (some ⟨b_p_c,0,none⟩))) 6 hF rfl (ex_fieldAddr Try.underlying64 rfl sz22 rfl rfl) rfl rfl (by kernel_rfl) (by kernel_rfl) (by kernel_rfl) fun a hF=>e_x (v:=s1.v) 7 hF hS rfl (ex_load1 0 0 Try.underlying22 rfl rfl rfl rfl) rfl rfl (by kernel_rfl) (by kernel_rfl) (by kernel_rfl) (by kernel_rfl) fun a hF=>e_p (v:=(iV (goLen p_c.code))) 8 hF rfl (ex_len Try.underlying22 rfl h1.len) rfl rfl (by kernel_rfl) (by kernel_rfl) (by kernel_rfl) fun a hF=>e_p (v:=(.bool (decide (p_c.at_ < (goLen p_c.code))))) 9 hF rfl (ex_ibin rfl rfl rfl) rfl rfl (by kernel_rfl) (by kernel_rfl) (by kernel_rfl) fun a hF=>e_end (by kernel_rfl) (n_sq ?_) _
 obtain ⟨b_4,hj1,hr⟩:=bindS hr
 refine q_join (fun a w=>Fr a 62 [(0,(.pointer (some ⟨b_p_c,0,none⟩))),(3,(iV b_4))]∧St X w0 w m [[⟨b_p_c,[s1.v,(iV p_c.at_),(.int .u64 p_c.seed.v)],64⟩]]) ?_ ?_
 ·rcases bcase (decide (p_c.at_ < (goLen p_c.code))) with hc2 | hc2
  ·have hj1:=cond_f hc2 hj1
   refine q_cond_f hF rfl hc2 (q_skipc (n_jn ?_))
   obtain rfl:=someI hj1
   exact ⟨hF.sub ⟨rfl,rfl,trivial⟩,hS⟩
  ·have hj1:=cond_t hc2 hj1
   refine q_cond_t hF rfl hc2 (e_region ⟨[],[]⟩ mixed fun w' hw'=>?_)
   have hS:=hS.below hw'
   refine e_p (v:=(.pointer (some ⟨b_p_c,0,none⟩))) 0 hF rfl (ex_move rfl) rfl rfl (by kernel_rfl) (by kernel_rfl) (by kernel_rfl) fun a hF=>e_p (v:=(.pointer (some ⟨b_p_c,0,none⟩))) 1 hF rfl (ex_nilCheck rfl) rfl rfl (by kernel_rfl) (by kernel_rfl) (by kernel_rfl) fun a hF=>e_p (v:=(.pointer (some ⟨b_p_c,0,none⟩))) 2 hF rfl (ex_fieldAddr Try.underlying64 rfl sz22 rfl rfl) rfl rfl (by kernel_rfl) (by kernel_rfl) (by kernel_rfl) fun a hF=>e_x (v:=s1.v) 3 hF hS rfl (ex_load1 0 0 Try.underlying22 rfl rfl rfl rfl) rfl rfl (by kernel_rfl) (by kernel_rfl) (by kernel_rfl) (by kernel_rfl) fun a hF=>e_p (v:=(.pointer (some ⟨b_p_c,0,none⟩))) 4 hF rfl (ex_move rfl) rfl rfl (by kernel_rfl) (by kernel_rfl) (by kernel_rfl) fun a hF=>e_p (v:=(.pointer (some ⟨b_p_c,0,none⟩))) 5 hF rfl (ex_nilCheck rfl) rfl rfl (by kernel_rfl) (by kernel_rfl) (by kernel_rfl) fun a hF=>e_p (v:=(.pointer (some ⟨b_p_c,1,none⟩))) 6 hF rfl (ex_fieldAddr Try.underlying64 rfl sz3 rfl rfl) rfl rfl (by kernel_rfl) (by kernel_rfl) (by kernel_rfl) fun a hF=>e_x (v:=(iV p_c.at_)) 7 hF hS rfl (ex_load1 0 0 Try.underlying3 rfl rfl rfl rfl) rfl rfl (by kernel_rfl) (by kernel_rfl) (by kernel_rfl) (by kernel_rfl) fun a hF=>?_
   obtain ⟨e_2,he_2,hj1⟩:=bindS hj1
   obtain ⟨vs3,at3,d3⟩:=h1.at he_2 1 rfl
   obtain rfl : vs3 = [(.int .u8 e_2.v)]:=d3
   refine e_p (v:=(elP s1 (p_c.at_.toNat * 1))) 8 hF rfl (ex_indexAddr Try.underlying22 sz5 rfl rfl (h1.idx he_2)) rfl rfl (by kernel_rfl) (by kernel_rfl) (by kernel_rfl) fun a hF=>e_x (v:=(.int .u8 e_2.v)) 9 hF hS rfl (ex_loadE1 0 Try.underlying5 rfl rfl ((at3).at) rfl rfl) rfl rfl (by kernel_rfl) (by kernel_rfl) (by kernel_rfl) (by kernel_rfl) fun a hF=>e_p (v:=(iV (w64 e_2.v))) 10 hF rfl (ex_conv Try.underlying5 Try.underlying3 rfl) rfl rfl (by kernel_rfl) (by kernel_rfl) (by kernel_rfl) fun a hF=>e_p (v:=(iV (w64 e_2.v))) 11 hF rfl (ex_assign rfl) rfl rfl (by kernel_rfl) (by kernel_rfl) (by kernel_rfl) fun a hF=>e_end (by kernel_rfl) (n_jn ?_) _
   obtain rfl:=someI hj1
   exact ⟨hF.sub ⟨rfl,rfl,trivial⟩,hS⟩
 ·rintro a w ⟨hF,hS⟩
  refine n_sq ?_
  refine q_seq (q_region (q_x (v:=(.pointer (some ⟨b_p_c,0,none⟩))) hF hS (ex_move rfl) rfl rfl fun a hF=>q_x (v:=(.pointer (some ⟨b_p_c,0,none⟩))) hF hS (ex_nilCheck rfl) rfl rfl fun a hF=>q_x (v:=(.pointer (some ⟨b_p_c,1,none⟩))) hF hS (ex_fieldAddr Try.underlying64 rfl sz3 rfl rfl) rfl rfl fun a hF=>q_x (v:=(iV p_c.at_)) hF hS (ex_load1 0 0 Try.underlying3 rfl rfl rfl rfl) rfl rfl fun a hF=>q_x (v:=(iV (w64 (p_c.at_ + 1)))) hF hS (ex_ibin rfl rfl rfl) rfl rfl fun a hF=>q_x (v:=(.pointer (some ⟨b_p_c,0,none⟩))) hF hS (ex_nilCheck rfl) rfl rfl fun a hF=>q_x (v:=(.pointer (some ⟨b_p_c,1,none⟩))) hF hS (ex_fieldAddr Try.underlying64 rfl sz3 rfl rfl) rfl rfl fun a hF=>q_store (vs:=[(iV (w64 (p_c.at_ + 1)))]) (cs':=[s1.v,(iV (w64 (p_c.at_ + 1))),(.int .u64 p_c.seed.v)]) 0 0 hF hS sz3 rfl rfl rfl rfl rfl rfl rfl rfl fun a w hF hS=>q_end (n_sq (q_seq (q_region (q_x (v:=(.pointer (some ⟨b_p_c,0,none⟩))) hF hS (ex_move rfl) rfl rfl fun a hF=>q_x (v:=(.pointer (some ⟨b_p_c,0,none⟩))) hF hS (ex_move rfl) rfl rfl fun a hF=>q_x (v:=(.pointer (some ⟨b_p_c,0,none⟩))) hF hS (ex_nilCheck rfl) rfl rfl fun a hF=>q_x (v:=(.pointer (some ⟨b_p_c,2,none⟩))) hF hS (ex_fieldAddr Try.underlying64 rfl sz62 rfl rfl) rfl rfl fun a hF=>q_x (v:=(.int .u64 p_c.seed.v)) hF hS (ex_load1 0 0 Try.underlying62 rfl rfl rfl rfl) rfl rfl fun a hF=>q_x (v:=(.int .u64 (IntKind.wrap .u64 (p_c.seed.v * 6364136223846793005)))) hF hS (ex_ibin rfl rfl rfl) rfl rfl fun a hF=>q_x (v:=(iV b_4)) hF hS (ex_move rfl) rfl rfl fun a hF=>q_x (v:=(.int .u64 (IntKind.wrap .u64 b_4))) hF hS (ex_conv Try.underlying3 Try.underlying62 rfl) rfl rfl fun a hF=>q_x (v:=(.int .u64 (IntKind.wrap .u64 ((IntKind.wrap .u64 (p_c.seed.v * 6364136223846793005)) + (IntKind.wrap .u64 b_4))))) hF hS (ex_ibin rfl rfl rfl) rfl rfl fun a hF=>q_x (v:=(.int .u64 (IntKind.wrap .u64 ((IntKind.wrap .u64 ((IntKind.wrap .u64 (p_c.seed.v * 6364136223846793005)) + (IntKind.wrap .u64 b_4))) + 1442695040888963407)))) hF hS (ex_ibin rfl rfl rfl) rfl rfl fun a hF=>q_x (v:=(.pointer (some ⟨b_p_c,0,none⟩))) hF hS (ex_nilCheck rfl) rfl rfl fun a hF=>q_x (v:=(.pointer (some ⟨b_p_c,2,none⟩))) hF hS (ex_fieldAddr Try.underlying64 rfl sz62 rfl rfl) rfl rfl fun a hF=>?_))))))
  refine q_store (vs:=[(.int .u64 (IntKind.wrap .u64 ((IntKind.wrap .u64 ((IntKind.wrap .u64 (p_c.seed.v * 6364136223846793005)) + (IntKind.wrap .u64 b_4))) + 1442695040888963407)))]) (cs':=[s1.v,(iV (w64 (p_c.at_ + 1))),(.int .u64 (IntKind.wrap .u64 ((IntKind.wrap .u64 ((IntKind.wrap .u64 (p_c.seed.v * 6364136223846793005)) + (IntKind.wrap .u64 b_4))) + 1442695040888963407)))]) 0 0 hF hS sz62 rfl rfl rfl rfl rfl rfl rfl rfl fun a w hF hS=>q_end (n_sq (q_seq (q_seq (e_region ⟨[],[]⟩ mixed fun w' hw'=>?_))))
  have hS:=hS.below hw'
  refine e_p (v:=(.pointer (some ⟨b_p_c,0,none⟩))) 0 hF rfl (ex_move rfl) rfl rfl (by kernel_rfl) (by kernel_rfl) (by kernel_rfl) fun a hF=>e_p (v:=(.pointer (some ⟨b_p_c,0,none⟩))) 1 hF rfl (ex_nilCheck rfl) rfl rfl (by kernel_rfl) (by kernel_rfl) (by kernel_rfl) fun a hF=>e_p (v:=(.pointer (some ⟨b_p_c,1,none⟩))) 2 hF rfl (ex_fieldAddr Try.underlying64 rfl sz3 rfl rfl) rfl rfl (by kernel_rfl) (by kernel_rfl) (by kernel_rfl) fun a hF=>e_x (v:=(iV (w64 (p_c.at_ + 1)))) 3 hF hS rfl (ex_load1 0 0 Try.underlying3 rfl rfl rfl rfl) rfl rfl (by kernel_rfl) (by kernel_rfl) (by kernel_rfl) (by kernel_rfl) fun a hF=>e_p (v:=(.pointer (some ⟨b_p_c,0,none⟩))) 4 hF rfl (ex_move rfl) rfl rfl (by kernel_rfl) (by kernel_rfl) (by kernel_rfl) fun a hF=>e_p (v:=(.pointer (some ⟨b_p_c,0,none⟩))) 5 hF rfl (ex_nilCheck rfl) rfl rfl (by kernel_rfl) (by kernel_rfl) (by kernel_rfl) fun a hF=>e_p (v:=(.pointer (some ⟨b_p_c,0,none⟩))) 6 hF rfl (ex_fieldAddr Try.underlying64 rfl sz22 rfl rfl) rfl rfl (by kernel_rfl) (by kernel_rfl) (by kernel_rfl) fun a hF=>e_x (v:=s1.v) 7 hF hS rfl (ex_load1 0 0 Try.underlying22 rfl rfl rfl rfl) rfl rfl (by kernel_rfl) (by kernel_rfl) (by kernel_rfl) (by kernel_rfl) fun a hF=>e_p (v:=(iV (goLen p_c.code))) 8 hF rfl (ex_len Try.underlying22 rfl h1.len) rfl rfl (by kernel_rfl) (by kernel_rfl) (by kernel_rfl) fun a hF=>e_p (v:=(.bool (decide ((w64 (p_c.at_ + 1)) ≤ (goLen p_c.code))))) 9 hF rfl (ex_ibin rfl rfl rfl) rfl rfl (by kernel_rfl) (by kernel_rfl) (by kernel_rfl) fun a hF=>e_end (by kernel_rfl) (n_sq ?_) _
  rcases bcase (decide ((w64 (p_c.at_ + 1)) ≤ (goLen p_c.code))) with hc3 | hc3
  ·have hr:=cond_f hc3 hr
   refine q_cond_f hF rfl hc3 (q_skipc (n_sq (q_seq (q_region (q_x (v:=(.pointer (some ⟨b_p_c,0,none⟩))) hF hS (ex_move rfl) rfl rfl fun a hF=>q_x (v:=(.pointer (some ⟨b_p_c,0,none⟩))) hF hS (ex_nilCheck rfl) rfl rfl fun a hF=>q_x (v:=(.pointer (some ⟨b_p_c,2,none⟩))) hF hS (ex_fieldAddr Try.underlying64 rfl sz62 rfl rfl) rfl rfl fun a hF=>q_x (v:=(.int .u64 (IntKind.wrap .u64 ((IntKind.wrap .u64 ((IntKind.wrap .u64 (p_c.seed.v * 6364136223846793005)) + (IntKind.wrap .u64 b_4))) + 1442695040888963407)))) hF hS (ex_load1 0 0 Try.underlying62 rfl rfl rfl rfl) rfl rfl fun a hF=>?_)))))
   obtain ⟨t_5,ht_5,hr⟩:=bindS hr
   refine q_x (v:=(.int .u64 t_5)) hF hS (ex_shr rfl rfl ht_5) rfl rfl fun a hF=>q_x (v:=(.int .u64 (goBits .and .u64 t_5 255))) hF hS (ex_bits rfl rfl rfl) rfl rfl fun a hF=>q_x (v:=(iV (w64 (goBits .and .u64 t_5 255)))) hF hS (ex_conv Try.underlying62 Try.underlying3 rfl) rfl rfl fun a hF=>q_x (v:=(iV (w64 (goBits .and .u64 t_5 255)))) hF hS (ex_assign rfl) rfl rfl fun a hF=>q_end (n_sq (q_ret ?_))
   obtain rfl:=someI hr
   exact ret_ofX hF hS rfl (.tmp rfl .nil) ⟨rfl,hS.sel [0] (by decide),rfl⟩
  ·have hr:=cond_t hc3 hr
   refine q_cond_t hF rfl hc3 (q_seq (q_region (q_x (v:=(iV b_4)) hF hS (ex_move rfl) rfl rfl fun a hF=>q_x (v:=(iV b_4)) hF hS (ex_assign rfl) rfl rfl fun a hF=>q_end (n_sq (q_ret (r_sq ?_))))))
   obtain rfl:=someI hr
   exact ret_ofX hF hS rfl (.tmp rfl .nil) ⟨rfl,hS.sel [0] (by decide),rfl⟩

theorem c_spec_l1Cur_pick (p_c : spec_l1Cur) (p_n : Int) (r : Int × spec_l1Cur) (hr : spec_l1Cur_pick p_c p_n = some r) (w0 : World) (m : Mem) (b_p_c : Nat) (s1 : Sl) (h1 : Rd m s1 p_c.code) (X : List Nat) (hS : St X w0 w0 m [[⟨b_p_c,[s1.v,(iV p_c.at_),(.int .u64 p_c.seed.v)],64⟩]]) :
  RetX Try.prog 40 [(.pointer (some ⟨b_p_c,0,none⟩)),(iV p_n)] w0 (fun v w=>v = (iV r.1)∧St X w0 w m [[⟨b_p_c,[s1.v,(iV r.2.at_),(.int .u64 r.2.seed.v)],64⟩]]∧r.2.code = p_c.code):=by
 unfold spec_l1Cur_pick at hr
 refine ret_startX Try.func40 rfl 20 rfl rfl fun a hF=>q_seq (q_region (q_x (v:=(iV 0)) hF hS (ex_assign rfl) rfl rfl fun a hF=>q_end (n_sq (q_seq (q_seq (q_region (q_x (v:=(iV p_n)) hF hS (ex_move rfl) rfl rfl fun a hF=>q_x (v:=(.bool (decide (p_n ≤ 1)))) hF hS (ex_ibin rfl rfl rfl) rfl rfl fun a hF=>q_end (n_sq ?_))))))))
 rcases bcase (decide (p_n ≤ 1)) with hc1 | hc1
 ·have hr:=cond_f hc1 hr
  refine q_cond_f hF rfl hc1 (q_skipc (n_sq (q_seq (q_region (q_x (v:=(.pointer (some ⟨b_p_c,0,none⟩))) hF hS (ex_move rfl) rfl rfl fun a hF=>?_)))))
  have hS2 : St _ _ _ _ ([[⟨b_p_c,[s1.v,(iV p_c.at_),(.int .u64 p_c.seed.v)],64⟩]]++[]):=hS
  have hE2:=hS2.enter
  obtain ⟨t_3,ht_3,hr⟩:=bindS hr
  refine q_do rfl fun _ hK=>wp_callX (vs:=[(.pointer (some ⟨b_p_c,0,none⟩))]) hF Try.func78 (by kernel_rfl) rfl rfl rfl (c_spec_l1Cur_next p_c t_3 ht_3 _ m b_p_c s1 h1 _ hE2) fun a w _ hR hF=>hK _ _ ?_
  obtain ⟨rfl,hR2,hk4⟩:=hR
  have hS : St _ _ _ _ [[⟨b_p_c,[s1.v,(iV t_3.2.at_),(.int .u64 t_3.2.seed.v)],64⟩]]:=hS2.leaveF hR2
  have h4 : Rd m s1 t_3.2.code:=by rw [hk4]; exact h1
  refine q_x (v:=(iV t_3.1)) hF hS (ex_assign rfl) rfl rfl fun a hF=>q_end (n_sq (q_seq (q_seq (q_region (q_x (v:=(iV p_n)) hF hS (ex_move rfl) rfl rfl fun a hF=>q_x (v:=(.bool (decide (200 < p_n)))) hF hS (ex_ibin rfl rfl rfl) rfl rfl fun a hF=>q_end (n_sq ?_))))))
  obtain ⟨j2,hj2,hr⟩:=bindS hr
  refine q_join (fun a w=>∃ x_8,∃ p_c_9,j2 = (x_8,p_c_9)∧Fr a 20 [(1,(iV p_n)),(5,(iV x_8))]∧St X w0 w m [[⟨b_p_c,[s1.v,(iV p_c_9.at_),(.int .u64 p_c_9.seed.v)],64⟩]]∧Rd m s1 p_c_9.code∧p_c_9.code = p_c.code) ?_ ?_
  ·rcases bcase (decide (200 < p_n)) with hc3 | hc3
   ·have hj2:=cond_f hc3 hj2
    refine q_cond_f hF rfl hc3 (q_skipc (n_jn ?_))
    obtain rfl:=someI hj2
    exact ⟨_,_,rfl,hF.sub ⟨rfl,rfl,trivial⟩,hS,h4,hk4⟩
   ·have hj2:=cond_t hc3 hj2
    refine q_cond_t hF rfl hc3 (q_region (q_x (v:=(iV t_3.1)) hF hS (ex_move rfl) rfl rfl fun a hF=>q_x (v:=(iV (w64 (t_3.1 * 256)))) hF hS (ex_ibin rfl rfl rfl) rfl rfl fun a hF=>q_x (v:=(.pointer (some ⟨b_p_c,0,none⟩))) hF hS (ex_move rfl) rfl rfl fun a hF=>?_))
    have hS5 : St _ _ _ _ ([[⟨b_p_c,[s1.v,(iV t_3.2.at_),(.int .u64 t_3.2.seed.v)],64⟩]]++[]):=hS
    have hE5:=hS5.enter
    obtain ⟨t_6,ht_6,hj2⟩:=bindS hj2
    refine q_do rfl fun _ hK=>wp_callX (vs:=[(.pointer (some ⟨b_p_c,0,none⟩))]) hF Try.func78 (by kernel_rfl) rfl rfl rfl (c_spec_l1Cur_next t_3.2 t_6 ht_6 _ m b_p_c s1 h4 _ hE5) fun a w _ hR hF=>hK _ _ ?_
    obtain ⟨rfl,hR5,hk7⟩:=hR
    have hS : St _ _ _ _ [[⟨b_p_c,[s1.v,(iV t_6.2.at_),(.int .u64 t_6.2.seed.v)],64⟩]]:=hS5.leaveF hR5
    have h7 : Rd m s1 t_6.2.code:=by rw [hk7]; exact h4
    refine q_x (v:=(iV (w64 ((w64 (t_3.1 * 256)) + t_6.1)))) hF hS (ex_ibin rfl rfl rfl) rfl rfl fun a hF=>q_x (v:=(iV (w64 ((w64 (t_3.1 * 256)) + t_6.1)))) hF hS (ex_assign rfl) rfl rfl fun a hF=>q_end (n_jn ?_)
    obtain rfl:=someI hj2
    exact ⟨_,_,rfl,hF.sub ⟨rfl,rfl,trivial⟩,hS,h7,(hk7.trans hk4)⟩
  ·rintro a w ⟨x_8,p_c_9,rfl,hF,hS,h10,h10k⟩
   refine n_sq ?_
   refine q_seq (q_region (q_x (v:=(iV x_8)) hF hS (ex_move rfl) rfl rfl fun a hF=>q_x (v:=(iV p_n)) hF hS (ex_move rfl) rfl rfl fun a hF=>?_))
   obtain ⟨t_11,ht_11,hr⟩:=bindS hr
   refine q_x (v:=(iV t_11)) hF hS (ex_rem rfl rfl ht_11) rfl rfl fun a hF=>q_x (v:=(iV t_11)) hF hS (ex_assign rfl) rfl rfl fun a hF=>q_end (n_sq (q_ret ?_))
   obtain rfl:=someI hr
   exact ret_ofX hF hS rfl (.tmp rfl .nil) ⟨rfl,hS.sel [0] (by decide),h10k⟩
 ·have hr:=cond_t hc1 hr
  refine q_cond_t hF rfl hc1 (q_seq (q_region (q_x (v:=(iV 0)) hF hS (ex_assign rfl) rfl rfl fun a hF=>q_end (n_sq (q_ret (r_sq ?_))))))
  obtain rfl:=someI hr
  exact ret_ofX hF hS rfl (.tmp rfl .nil) ⟨rfl,hS.sel [0] (by decide),rfl⟩

theorem c_spec_l1Cur_schema (p_c : spec_l1Cur) (r : (List impl_Variable) × spec_l1Cur) (hr : spec_l1Cur_schema p_c = some r) (w0 : World) (m : Mem) (b_p_c : Nat) (s1 : Sl) (h1 : Rd m s1 p_c.code) (X : List Nat) (hS : St X w0 w0 m [[⟨b_p_c,[s1.v,(iV p_c.at_),(.int .u64 p_c.seed.v)],64⟩]]) :
  RetX Try.prog 68 [(.pointer (some ⟨b_p_c,0,none⟩))] w0 (fun v w=>∃ (q0' : Piece) (s0' : Sl),v = s0'.v∧St X w0 w m [[⟨b_p_c,[s1.v,(iV r.2.at_),(.int .u64 r.2.seed.v)],64⟩],q0']∧OwnL m 85 q0' s0' r.1∧r.2.code = p_c.code):=by
 unfold spec_l1Cur_schema at hr
 refine ret_startX Try.func68 rfl 26 rfl rfl fun a hF=>q_seq (q_region (q_x (v:=nilS.v) hF hS (ex_assign rfl) rfl rfl fun a hF=>q_end (n_sq (q_seq (q_region (q_do rfl fun _ hK=>wp_buildSlice' (l:=([([115,101,120] : List UInt8),([97,103,101] : List UInt8),([106,111,98] : List UInt8),([104,111,109,101] : List UInt8),([115,105,122,101] : List UInt8),([108,97,110,103] : List UInt8)] : List (List UInt8))) (cells:=[(strV ([115,101,120] : List UInt8)),(strV ([97,103,101] : List UInt8)),(strV ([106,111,98] : List UInt8)),(strV ([104,111,109,101] : List UInt8)),(strV ([115,105,122,101] : List UInt8)),(strV ([108,97,110,103] : List UInt8))]) hF hS Try.underlying98 inf9 rfl rfl (by kernel_rfl) rfl rfl rfl ⟨rfl,rfl,rfl,rfl,rfl,rfl,rfl⟩ rfl rfl fun a w q2 s2 hF hS h2 _=>hK _ _ (q_x (v:=s2.v) hF hS (ex_assign rfl) rfl rfl fun a hF=>q_end (n_sq (q_seq (q_region (q_x (v:=nilS.v) hF hS (ex_assign rfl) rfl rfl fun a hF=>q_end (n_sq (q_seq (q_seq (q_region (q_x (v:=(iV 0)) hF hS (ex_assign rfl) rfl rfl fun a hF=>q_end (n_sq (q_block ?_))))))))))))))))))
 obtain ⟨o1,hl1,hr⟩:=bindS hr
 refine q_loop (fun (s : (List impl_Variable) × Int × spec_l1Cur) a w=>∃ (q4 : Piece),∃ (s4 : Sl),∃ out_3,∃ k_5,∃ p_c_6,s = (out_3,k_5,p_c_6)∧Fr a 26 [(0,(.pointer (some ⟨b_p_c,0,none⟩))),(3,s2.v),(4,s4.v),(5,(iV k_5))]∧St X w0 w m [q4,q2,[⟨b_p_c,[s1.v,(iV p_c_6.at_),(.int .u64 p_c_6.seed.v)],64⟩]]∧OwnL m 85 q4 s4 out_3∧Rd m s1 p_c_6.code∧p_c_6.code = p_c.code) (fun (o : (List impl_Variable) × spec_l1Cur) e a w=>∃ (q27 : Piece),∃ (s27 : Sl),∃ out_26,∃ p_c_28,o = (out_26,p_c_28)∧e = .exit 0∧Fr a 26 [(4,s27.v)]∧St X w0 w m [q27,[⟨b_p_c,[s1.v,(iV p_c_28.at_),(.int .u64 p_c_28.seed.v)],64⟩]]∧OwnL m 85 q27 s27 out_26∧Rd m s1 p_c_28.code∧p_c_28.code = p_c.code) hl1 ⟨[],nilS,_,_,_,rfl,hF.sub ⟨rfl,rfl,rfl,rfl,trivial⟩,hS.sel [2,0,1] (by decide),(OwnL.nil (α:=impl_Variable) m 85),h1,rfl⟩ ?_ ?_
 ·clear hF hS
  rintro s a w st ⟨q4,s4,out_3,k_5,p_c_6,rfl,hF,hS,h4,h7,h7k⟩ hb1
  unfold spec_l1Cur_schema_l1 at hb1
  refine q_seq (q_seq (q_region (q_x (v:=(iV k_5)) hF hS (ex_move rfl) rfl rfl fun a hF=>q_x (v:=(.pointer (some ⟨b_p_c,0,none⟩))) hF hS (ex_move rfl) rfl rfl fun a hF=>?_)))
  have hS : St _ _ _ _ [[⟨b_p_c,[s1.v,(iV p_c_6.at_),(.int .u64 p_c_6.seed.v)],64⟩],q4,q2]:=hS.sel [2,0,1] (by decide)
  have hS8 : St _ _ _ _ ([[⟨b_p_c,[s1.v,(iV p_c_6.at_),(.int .u64 p_c_6.seed.v)],64⟩]]++[q4,q2]):=hS
  have hE8:=hS8.enter
  obtain ⟨t_9,ht_9,hb1⟩:=bindS hb1
  refine q_do rfl fun _ hK=>wp_callX (vs:=[(.pointer (some ⟨b_p_c,0,none⟩)),(iV 3)]) hF Try.func40 (by kernel_rfl) rfl rfl rfl (c_spec_l1Cur_pick p_c_6 3 t_9 ht_9 _ m b_p_c s1 h7 _ hE8) fun a w _ hR hF=>hK _ _ ?_
  obtain ⟨rfl,hR8,hk10⟩:=hR
  have hS : St _ _ _ _ [[⟨b_p_c,[s1.v,(iV t_9.2.at_),(.int .u64 t_9.2.seed.v)],64⟩],q4,q2]:=hS8.leaveF hR8
  have h10 : Rd m s1 t_9.2.code:=by rw [hk10]; exact h7
  refine q_x (v:=(iV (w64 (1 + t_9.1)))) hF hS (ex_ibin rfl rfl rfl) rfl rfl fun a hF=>q_x (v:=(.bool (decide (k_5 < (w64 (1 + t_9.1)))))) hF hS (ex_ibin rfl rfl rfl) rfl rfl fun a hF=>q_end (n_sq ?_)
  rcases bcase (decide (k_5 < (w64 (1 + t_9.1)))) with hc2 | hc2
  ·have hb1:=cond_f hc2 hb1
   refine q_cond_f hF rfl hc2 (q_exit (x_sq ?_))
   obtain rfl:=someI hb1
   exact ⟨nofun,.inl ⟨q4,s4,_,_,rfl,rfl,hF.sub ⟨rfl,trivial⟩,hS.sel [1,0] (by decide),h4,h10,(hk10.trans h7k)⟩⟩
  ·have hb1:=cond_t hc2 hb1
   refine q_cond_t hF rfl hc2 (q_skipc (n_sq (q_seq (q_block ?_))))
   obtain ⟨j3,hj3,hb1⟩:=bindS hb1
   refine q_join (fun a w=>∃ (q23 : Piece),∃ (s23 : Sl),∃ out_22,∃ p_c_24,j3 = (out_22,p_c_24)∧Fr a 26 [(0,(.pointer (some ⟨b_p_c,0,none⟩))),(3,s2.v),(4,s23.v),(5,(iV k_5))]∧St X w0 w m [q2,q23,[⟨b_p_c,[s1.v,(iV p_c_24.at_),(.int .u64 p_c_24.seed.v)],64⟩]]∧OwnL m 85 q23 s23 out_22∧Rd m s1 p_c_24.code∧p_c_24.code = p_c.code) ?_ ?_
   ·refine e_region ⟨[6,10],[]⟩ mixed fun w' hw'=>?_
    have hS:=hS.below hw'
    refine e_p (v:=s4.v) 0 hF rfl (ex_move rfl) rfl rfl (by kernel_rfl) (by kernel_rfl) (by kernel_rfl) fun a hF=>e_p (v:=s2.v) 1 hF rfl (ex_move rfl) rfl rfl (by kernel_rfl) (by kernel_rfl) (by kernel_rfl) fun a hF=>e_p (v:=(iV k_5)) 2 hF rfl (ex_move rfl) rfl rfl (by kernel_rfl) (by kernel_rfl) (by kernel_rfl) fun a hF=>?_
    obtain ⟨e_11,he_11,hj3⟩:=bindS hj3
    obtain ⟨vs12,at12,d12⟩:=h2.at he_11 1 rfl
    obtain rfl : vs12 = [(strV e_11)]:=d12
    refine e_p (v:=(elP s2 (k_5.toNat * 1))) 3 hF rfl (ex_indexAddr Try.underlying98 sz9 rfl rfl (h2.idx he_11)) rfl rfl (by kernel_rfl) (by kernel_rfl) (by kernel_rfl) fun a hF=>e_p (v:=(.pointer (some ⟨b_p_c,0,none⟩))) 5 hF rfl (ex_move rfl) rfl rfl (by kernel_rfl) (by kernel_rfl) (by kernel_rfl) fun a hF=>?_
    obtain ⟨t_17,ht_17,hj3⟩:=bindS hj3
    obtain ⟨l_20,hl_20,hj3⟩:=bindS hj3
    refine e_all [4,6] (by kernel_rfl) rfl ⟨?_,?_,trivial⟩
    ·refine e_lx (v:=(strV e_11)) hF hS rfl (ex_loadE1 0 Try.underlying9 rfl rfl (at12.at 2 rfl) rfl rfl) rfl rfl fun a hF=>e_one 6 (by kernel_rfl) ?_
     have hS16 : St _ _ _ _ ([[⟨b_p_c,[s1.v,(iV t_9.2.at_),(.int .u64 t_9.2.seed.v)],64⟩]]++[q4,q2]):=hS
     have hE16:=hS16.enter
     refine e_opl rfl rfl rfl fun _ hK=>wp_callX (vs:=[(.pointer (some ⟨b_p_c,0,none⟩)),(iV 3)]) hF Try.func40 (by kernel_rfl) rfl rfl rfl (c_spec_l1Cur_pick t_9.2 3 t_17 ht_17 _ m b_p_c s1 h10 _ hE16) fun a w _ hR hF=>hK _ _ ?_
     obtain ⟨rfl,hR16,hk18⟩:=hR
     have hS : St _ _ _ _ [[⟨b_p_c,[s1.v,(iV t_17.2.at_),(.int .u64 t_17.2.seed.v)],64⟩],q4,q2]:=hS16.leaveF hR16
     have h18 : Rd m s1 t_17.2.code:=by rw [hk18]; exact h10
     refine ⟨kpN,?_⟩
     refine e_p (v:=(iV (w64 (2 + t_17.1)))) 7 hF rfl (ex_ibin rfl rfl rfl) rfl rfl (by kernel_rfl) (by kernel_rfl) (by kernel_rfl) fun a hF=>e_p (v:=(.agg #[(strV e_11),(iV (w64 (2 + t_17.1)))])) 8 hF rfl (ex_build (cells:=[(strV e_11),(iV (w64 (2 + t_17.1)))]) rfl (by kernel_rfl)) rfl rfl (by kernel_rfl) (by kernel_rfl) (by kernel_rfl) fun a hF=>e_one 9 (by kernel_rfl) (e_op rfl rfl fun _ hK=>wp_buildSlice' (l:=([(impl_Variable.mk e_11 (w64 (2 + t_17.1)))] : List impl_Variable)) (cells:=[(strV e_11),(iV (w64 (2 + t_17.1)))]) hF hS Try.underlying23 inf85 rfl rfl (by kernel_rfl) rfl rfl rfl ⟨rfl,rfl⟩ rfl rfl fun a w q19 s19 hF hS h19 hb=>hK _ _ hb (e_one 10 (by kernel_rfl) ?_))
     have hS : St _ _ _ _ [q4,q19,[⟨b_p_c,[s1.v,(iV t_17.2.at_),(.int .u64 t_17.2.seed.v)],64⟩],q2]:=hS.sel [2,0,1,3] (by decide)
     refine e_opl rfl rfl rfl fun _ hK=>wp_append hF hS h4 Try.underlying23 inf85 rfl rfl rfl rfl (h19.vw hS (j:=1) rfl) rfl (by decide) hl_20 rfl fun a w q21 s21 hF hS h21=>hK _ _ (⟨kpN,?_⟩)
     refine e_p (v:=s21.v) 11 hF rfl (ex_assign rfl) rfl rfl (by kernel_rfl) (by kernel_rfl) (by kernel_rfl) fun a hF=>e_end (by kernel_rfl) (n_jn ?_) _
     obtain rfl:=someI hj3
     exact ⟨q21,s21,_,_,rfl,hF.sub ⟨rfl,rfl,rfl,rfl,trivial⟩,hS.sel [3,0,2] (by decide),h21,h18,(hk18.trans (hk10.trans h7k))⟩
    ·have hS16 : St _ _ _ _ ([[⟨b_p_c,[s1.v,(iV t_9.2.at_),(.int .u64 t_9.2.seed.v)],64⟩]]++[q4,q2]):=hS
     have hE16:=hS16.enter
     refine e_opl rfl rfl rfl fun _ hK=>wp_callX (vs:=[(.pointer (some ⟨b_p_c,0,none⟩)),(iV 3)]) hF Try.func40 (by kernel_rfl) rfl rfl rfl (c_spec_l1Cur_pick t_9.2 3 t_17 ht_17 _ m b_p_c s1 h10 _ hE16) fun a w _ hR hF=>hK _ _ ?_
     obtain ⟨rfl,hR16,hk18⟩:=hR
     have hS : St _ _ _ _ [[⟨b_p_c,[s1.v,(iV t_17.2.at_),(.int .u64 t_17.2.seed.v)],64⟩],q4,q2]:=hS16.leaveF hR16
     have h18 : Rd m s1 t_17.2.code:=by rw [hk18]; exact h10
     refine ⟨kpN,?_⟩
     refine e_p (v:=(iV (w64 (2 + t_17.1)))) 7 hF rfl (ex_ibin rfl rfl rfl) rfl rfl (by kernel_rfl) (by kernel_rfl) (by kernel_rfl) fun a hF=>e_one 4 (by kernel_rfl) (e_lx (v:=(strV e_11)) hF hS rfl (ex_loadE1 0 Try.underlying9 rfl rfl (at12.at 2 rfl) rfl rfl) rfl rfl fun a hF=>e_p (v:=(.agg #[(strV e_11),(iV (w64 (2 + t_17.1)))])) 8 hF rfl (ex_build (cells:=[(strV e_11),(iV (w64 (2 + t_17.1)))]) rfl (by kernel_rfl)) rfl rfl (by kernel_rfl) (by kernel_rfl) (by kernel_rfl) fun a hF=>e_one 9 (by kernel_rfl) (e_op rfl rfl fun _ hK=>wp_buildSlice' (l:=([(impl_Variable.mk e_11 (w64 (2 + t_17.1)))] : List impl_Variable)) (cells:=[(strV e_11),(iV (w64 (2 + t_17.1)))]) hF hS Try.underlying23 inf85 rfl rfl (by kernel_rfl) rfl rfl rfl ⟨rfl,rfl⟩ rfl rfl fun a w q19 s19 hF hS h19 hb=>hK _ _ hb (e_one 10 (by kernel_rfl) ?_)))
     have hS : St _ _ _ _ [q4,q19,[⟨b_p_c,[s1.v,(iV t_17.2.at_),(.int .u64 t_17.2.seed.v)],64⟩],q2]:=hS.sel [2,0,1,3] (by decide)
     refine e_opl rfl rfl rfl fun _ hK=>wp_append hF hS h4 Try.underlying23 inf85 rfl rfl rfl rfl (h19.vw hS (j:=1) rfl) rfl (by decide) hl_20 rfl fun a w q21 s21 hF hS h21=>hK _ _ (⟨kpN,?_⟩)
     refine e_p (v:=s21.v) 11 hF rfl (ex_assign rfl) rfl rfl (by kernel_rfl) (by kernel_rfl) (by kernel_rfl) fun a hF=>e_end (by kernel_rfl) (n_jn ?_) _
     obtain rfl:=someI hj3
     exact ⟨q21,s21,_,_,rfl,hF.sub ⟨rfl,rfl,rfl,rfl,trivial⟩,hS.sel [3,0,2] (by decide),h21,h18,(hk18.trans (hk10.trans h7k))⟩
   ·rintro a w ⟨q23,s23,out_22,p_c_24,rfl,hF,hS,h23,h25,h25k⟩
    refine n_ib (n_sq ?_)
    refine q_region (q_x (v:=(iV k_5)) hF hS (ex_move rfl) rfl rfl fun a hF=>q_x (v:=(iV (w64 (k_5 + 1)))) hF hS (ex_ibin rfl rfl rfl) rfl rfl fun a hF=>q_x (v:=(iV (w64 (k_5 + 1)))) hF hS (ex_assign rfl) rfl rfl fun a hF=>q_end ?_)
    obtain rfl:=someI hb1
    exact ⟨rfl,q23,s23,_,_,_,rfl,hF.sub ⟨rfl,rfl,rfl,rfl,trivial⟩,hS.sel [1,0,2] (by decide),h23,h25,h25k⟩
 ·rintro e a w ⟨q27,s27,out_26,p_c_28,rfl,rfl,hF,hS,h27,h29,h29k⟩
  refine x_ib (n_sq ?_)
  refine q_seq (q_region (q_x (v:=s27.v) hF hS (ex_move rfl) rfl rfl fun a hF=>q_x (v:=s27.v) hF hS (ex_assign rfl) rfl rfl fun a hF=>q_end (n_sq (q_ret ?_))))
  obtain rfl:=someI hr
  exact ret_ofX hF hS rfl (.tmp rfl .nil) ⟨q27,s27,rfl,hS.sel [1,0] (by decide),h27,h29k⟩

theorem c_spec_l1Cur_among (p_c : spec_l1Cur) (p_list : List Int) (r : Int × spec_l1Cur) (hr : spec_l1Cur_among p_c p_list = some r) (w0 : World) (m : Mem) (b_p_c : Nat) (s1 : Sl) (h1 : Rd m s1 p_c.code) (s2 : Sl) (h2 : Rd m s2 p_list) (X : List Nat) (hS : St X w0 w0 m [[⟨b_p_c,[s1.v,(iV p_c.at_),(.int .u64 p_c.seed.v)],64⟩]]) :
  RetX Try.prog 69 [(.pointer (some ⟨b_p_c,0,none⟩)),s2.v] w0 (fun v w=>v = (iV r.1)∧St X w0 w m [[⟨b_p_c,[s1.v,(iV r.2.at_),(.int .u64 r.2.seed.v)],64⟩]]∧r.2.code = p_c.code):=by
 unfold spec_l1Cur_among at hr
 refine ret_startX Try.func69 rfl 12 rfl rfl fun a hF=>q_seq (q_region (q_x (v:=(iV 0)) hF hS (ex_assign rfl) rfl rfl fun a hF=>q_end (n_sq (q_seq (q_region (q_x (v:=s2.v) hF hS (ex_move rfl) rfl rfl fun a hF=>q_x (v:=(.pointer (some ⟨b_p_c,0,none⟩))) hF hS (ex_move rfl) rfl rfl fun a hF=>q_x (v:=s2.v) hF hS (ex_move rfl) rfl rfl fun a hF=>q_x (v:=(iV (goLen p_list))) hF hS (ex_len Try.underlying24 rfl h2.len) rfl rfl fun a hF=>?_))))))
 have hS3 : St _ _ _ _ ([[⟨b_p_c,[s1.v,(iV p_c.at_),(.int .u64 p_c.seed.v)],64⟩]]++[]):=hS
 have hE3:=hS3.enter
 obtain ⟨t_4,ht_4,hr⟩:=bindS hr
 refine q_do rfl fun _ hK=>wp_callX (vs:=[(.pointer (some ⟨b_p_c,0,none⟩)),(iV (goLen p_list))]) hF Try.func40 (by kernel_rfl) rfl rfl rfl (c_spec_l1Cur_pick p_c (goLen p_list) t_4 ht_4 _ m b_p_c s1 h1 _ hE3) fun a w _ hR hF=>hK _ _ ?_
 obtain ⟨rfl,hR3,hk5⟩:=hR
 have hS : St _ _ _ _ [[⟨b_p_c,[s1.v,(iV t_4.2.at_),(.int .u64 t_4.2.seed.v)],64⟩]]:=hS3.leaveF hR3
 have h5 : Rd m s1 t_4.2.code:=by rw [hk5]; exact h1
 obtain ⟨e_6,he_6,hr⟩:=bindS hr
 obtain ⟨vs7,at7,d7⟩:=h2.at he_6 1 rfl
 obtain rfl : vs7 = [(iV e_6)]:=d7
 refine q_x (v:=(elP s2 (t_4.1.toNat * 1))) hF hS (ex_indexAddr Try.underlying24 sz3 rfl rfl (h2.idx he_6)) rfl rfl fun a hF=>q_x (v:=(iV e_6)) hF hS (ex_loadE1 0 Try.underlying3 rfl rfl ((at7).at) rfl rfl) rfl rfl fun a hF=>q_x (v:=(iV e_6)) hF hS (ex_assign rfl) rfl rfl fun a hF=>q_end (n_sq (q_ret ?_))
 obtain rfl:=someI hr
 exact ret_ofX hF hS rfl (.tmp rfl .nil) ⟨rfl,hS.sel [0] (by decide),hk5⟩

theorem c_spec_l1Cur_of (p_c : spec_l1Cur) (p_list : List (List UInt8)) (r : (List UInt8) × spec_l1Cur) (hr : spec_l1Cur_of p_c p_list = some r) (w0 : World) (m : Mem) (b_p_c : Nat) (s1 : Sl) (h1 : Rd m s1 p_c.code) (s2 : Sl) (h2 : Rd m s2 p_list) (X : List Nat) (hS : St X w0 w0 m [[⟨b_p_c,[s1.v,(iV p_c.at_),(.int .u64 p_c.seed.v)],64⟩]]) :
  RetX Try.prog 70 [(.pointer (some ⟨b_p_c,0,none⟩)),s2.v] w0 (fun v w=>v = (strV r.1)∧St X w0 w m [[⟨b_p_c,[s1.v,(iV r.2.at_),(.int .u64 r.2.seed.v)],64⟩]]∧r.2.code = p_c.code):=by
 unfold spec_l1Cur_of at hr
 refine ret_startX Try.func70 rfl 12 rfl rfl fun a hF=>q_seq (q_region (q_x (v:=(strV ([] : List UInt8))) hF hS (ex_assign rfl) rfl rfl fun a hF=>q_end (n_sq (q_seq (q_region (q_x (v:=s2.v) hF hS (ex_move rfl) rfl rfl fun a hF=>q_x (v:=(.pointer (some ⟨b_p_c,0,none⟩))) hF hS (ex_move rfl) rfl rfl fun a hF=>q_x (v:=s2.v) hF hS (ex_move rfl) rfl rfl fun a hF=>q_x (v:=(iV (goLen p_list))) hF hS (ex_len Try.underlying98 rfl h2.len) rfl rfl fun a hF=>?_))))))
 have hS3 : St _ _ _ _ ([[⟨b_p_c,[s1.v,(iV p_c.at_),(.int .u64 p_c.seed.v)],64⟩]]++[]):=hS
 have hE3:=hS3.enter
 obtain ⟨t_4,ht_4,hr⟩:=bindS hr
 refine q_do rfl fun _ hK=>wp_callX (vs:=[(.pointer (some ⟨b_p_c,0,none⟩)),(iV (goLen p_list))]) hF Try.func40 (by kernel_rfl) rfl rfl rfl (c_spec_l1Cur_pick p_c (goLen p_list) t_4 ht_4 _ m b_p_c s1 h1 _ hE3) fun a w _ hR hF=>hK _ _ ?_
 obtain ⟨rfl,hR3,hk5⟩:=hR
 have hS : St _ _ _ _ [[⟨b_p_c,[s1.v,(iV t_4.2.at_),(.int .u64 t_4.2.seed.v)],64⟩]]:=hS3.leaveF hR3
 have h5 : Rd m s1 t_4.2.code:=by rw [hk5]; exact h1
 obtain ⟨e_6,he_6,hr⟩:=bindS hr
 obtain ⟨vs7,at7,d7⟩:=h2.at he_6 1 rfl
 obtain rfl : vs7 = [(strV e_6)]:=d7
 refine q_x (v:=(elP s2 (t_4.1.toNat * 1))) hF hS (ex_indexAddr Try.underlying98 sz9 rfl rfl (h2.idx he_6)) rfl rfl fun a hF=>q_x (v:=(strV e_6)) hF hS (ex_loadE1 0 Try.underlying9 rfl rfl ((at7).at) rfl rfl) rfl rfl fun a hF=>q_x (v:=(strV e_6)) hF hS (ex_assign rfl) rfl rfl fun a hF=>q_end (n_sq (q_ret ?_))
 obtain rfl:=someI hr
 exact ret_ofX hF hS rfl (.tmp rfl .nil) ⟨rfl,hS.sel [0] (by decide),hk5⟩

theorem c_spec_l1Cur_anySchema (p_c : spec_l1Cur) (r : (List impl_Variable) × spec_l1Cur) (hr : spec_l1Cur_anySchema p_c = some r) (w0 : World) (m : Mem) (b_p_c : Nat) (s1 : Sl) (h1 : Rd m s1 p_c.code) (X : List Nat) (hS : St X w0 w0 m [[⟨b_p_c,[s1.v,(iV p_c.at_),(.int .u64 p_c.seed.v)],64⟩]]) :
  RetX Try.prog 30 [(.pointer (some ⟨b_p_c,0,none⟩))] w0 (fun v w=>∃ (q0' : Piece) (s0' : Sl),v = s0'.v∧St X w0 w m [[⟨b_p_c,[s1.v,(iV r.2.at_),(.int .u64 r.2.seed.v)],64⟩],q0']∧OwnL m 85 q0' s0' r.1∧r.2.code = p_c.code):=by
 unfold spec_l1Cur_anySchema at hr
 refine ret_startX Try.func30 rfl 46 rfl rfl fun a hF=>q_seq (q_region (q_x (v:=nilS.v) hF hS (ex_assign rfl) rfl rfl fun a hF=>q_end (n_sq (q_seq (q_region (q_x (v:=(.pointer (some ⟨b_p_c,0,none⟩))) hF hS (ex_move rfl) rfl rfl fun a hF=>?_))))))
 have hS2 : St _ _ _ _ ([[⟨b_p_c,[s1.v,(iV p_c.at_),(.int .u64 p_c.seed.v)],64⟩]]++[]):=hS
 have hE2:=hS2.enter
 obtain ⟨t_3,ht_3,hr⟩:=bindS hr
 refine q_do rfl fun _ hK=>wp_callX (vs:=[(.pointer (some ⟨b_p_c,0,none⟩))]) hF Try.func68 (by kernel_rfl) rfl rfl rfl (c_spec_l1Cur_schema p_c t_3 ht_3 _ m b_p_c s1 h1 _ hE2) fun a w _ hR hF=>hK _ _ ?_
 obtain ⟨q4,s4,rfl,hR2,h4,hk5⟩:=hR
 have hS : St _ _ _ _ [[⟨b_p_c,[s1.v,(iV t_3.2.at_),(.int .u64 t_3.2.seed.v)],64⟩],q4]:=hS2.leaveF hR2
 have h5 : Rd m s1 t_3.2.code:=by rw [hk5]; exact h1
 refine q_x (v:=s4.v) hF hS (ex_assign rfl) rfl rfl fun a hF=>q_end (n_sq (q_seq (q_seq (q_region (q_x (v:=(.pointer (some ⟨b_p_c,0,none⟩))) hF hS (ex_move rfl) rfl rfl fun a hF=>?_)))))
 have hS6 : St _ _ _ _ ([[⟨b_p_c,[s1.v,(iV t_3.2.at_),(.int .u64 t_3.2.seed.v)],64⟩]]++[q4]):=hS
 have hE6:=hS6.enter
 obtain ⟨t_7,ht_7,hr⟩:=bindS hr
 refine q_do rfl fun _ hK=>wp_callX (vs:=[(.pointer (some ⟨b_p_c,0,none⟩)),(iV 24)]) hF Try.func40 (by kernel_rfl) rfl rfl rfl (c_spec_l1Cur_pick t_3.2 24 t_7 ht_7 _ m b_p_c s1 h5 _ hE6) fun a w _ hR hF=>hK _ _ ?_
 obtain ⟨rfl,hR6,hk8⟩:=hR
 have hS : St _ _ _ _ [[⟨b_p_c,[s1.v,(iV t_7.2.at_),(.int .u64 t_7.2.seed.v)],64⟩],q4]:=hS6.leaveF hR6
 have h8 : Rd m s1 t_7.2.code:=by rw [hk8]; exact h5
 refine q_end (n_sq (q_block (q_seq (q_region (q_x (v:=(.bool (t_7.1 == 0))) hF hS (ex_ibin rfl rfl rfl) rfl rfl fun a hF=>q_x (v:=(.bool (t_7.1 == 0))) hF hS (ex_assign rfl) rfl rfl fun a hF=>q_end (n_sq ?_))))))
 obtain ⟨j1,hj1,hr⟩:=bindS hr
 refine q_join (fun a w=>∃ (q48 : Piece),∃ (s48 : Sl),∃ s_47,∃ p_c_49,j1 = .inl (s_47,p_c_49)∧Fr a 46 [(3,s48.v)]∧St X w0 w m [q48,[⟨b_p_c,[s1.v,(iV p_c_49.at_),(.int .u64 p_c_49.seed.v)],64⟩]]∧OwnL m 85 q48 s48 s_47∧Rd m s1 p_c_49.code∧p_c_49.code = p_c.code) ?_ ?_
 ·rcases bcase (t_7.1 == 0) with hc2 | hc2
  ·have hj1:=cond_f hc2 hj1
   refine q_cond_f hF rfl hc2 (q_seq (q_region (q_x (v:=(.bool (t_7.1 == 1))) hF hS (ex_ibin rfl rfl rfl) rfl rfl fun a hF=>q_x (v:=(.bool (t_7.1 == 1))) hF hS (ex_assign rfl) rfl rfl fun a hF=>q_end (n_sq ?_))))
   obtain ⟨j3,hj3,hj1⟩:=bindS hj1
   refine q_join (fun a w=>∃ (q37 : Piece),∃ (s37 : Sl),∃ s_36,∃ p_c_38,j3 = .inl (s_36,p_c_38)∧Fr a 46 [(3,s37.v)]∧St X w0 w m [q37,[⟨b_p_c,[s1.v,(iV p_c_38.at_),(.int .u64 p_c_38.seed.v)],64⟩]]∧OwnL m 85 q37 s37 s_36∧Rd m s1 p_c_38.code∧p_c_38.code = p_c.code) ?_ ?_
   ·rcases bcase (t_7.1 == 1) with hc4 | hc4
    ·have hj3:=cond_f hc4 hj3
     refine q_cond_f hF rfl hc4 (q_seq (q_region (q_x (v:=(.bool (t_7.1 == 2))) hF hS (ex_ibin rfl rfl rfl) rfl rfl fun a hF=>q_x (v:=(.bool (t_7.1 == 2))) hF hS (ex_assign rfl) rfl rfl fun a hF=>q_end (n_sq ?_))))
     rcases bcase (t_7.1 == 2) with hc5 | hc5
     ·have hj3:=cond_f hc5 hj3
      refine q_cond_f hF rfl hc5 (q_seq (q_region (q_x (v:=(.bool (t_7.1 == 3))) hF hS (ex_ibin rfl rfl rfl) rfl rfl fun a hF=>q_x (v:=(.bool (t_7.1 == 3))) hF hS (ex_assign rfl) rfl rfl fun a hF=>q_end (n_sq ?_))))
      obtain ⟨j6,hj6,hj3⟩:=bindS hj3
      refine q_join (fun a w=>∃ (q26 : Piece),∃ (s26 : Sl),∃ s_25,∃ p_c_27,j6 = (s_25,p_c_27)∧Fr a 46 [(3,s26.v)]∧St X w0 w m [q26,[⟨b_p_c,[s1.v,(iV p_c_27.at_),(.int .u64 p_c_27.seed.v)],64⟩]]∧OwnL m 85 q26 s26 s_25∧Rd m s1 p_c_27.code∧p_c_27.code = p_c.code) ?_ ?_
      ·rcases bcase (t_7.1 == 3) with hc7 | hc7
       ·have hj6:=cond_f hc7 hj6
        refine q_cond_f hF rfl hc7 (q_skipc (n_jn ?_))
        obtain rfl:=someI hj6
        exact ⟨q4,s4,_,_,rfl,hF.sub ⟨rfl,trivial⟩,hS.sel [1,0] (by decide),h4,h8,(hk8.trans hk5)⟩
       ·have hj6:=cond_t hc7 hj6
        refine q_cond_t hF rfl hc7 (q_block ?_)
        obtain ⟨o8,hl8,hj6⟩:=bindS hj6
        refine q_loop (fun (s : (List impl_Variable) × spec_l1Cur) a w=>∃ (q10 : Piece),∃ (s10 : Sl),∃ s_9,∃ p_c_11,s = (s_9,p_c_11)∧Fr a 46 [(0,(.pointer (some ⟨b_p_c,0,none⟩))),(3,s10.v)]∧St X w0 w m [q10,[⟨b_p_c,[s1.v,(iV p_c_11.at_),(.int .u64 p_c_11.seed.v)],64⟩]]∧OwnL m 85 q10 s10 s_9∧Rd m s1 p_c_11.code∧p_c_11.code = p_c.code) (fun (o : (List impl_Variable) × spec_l1Cur) e a w=>∃ (q22 : Piece),∃ (s22 : Sl),∃ s_21,∃ p_c_23,o = (s_21,p_c_23)∧e = .exit 1∧Fr a 46 [(3,s22.v)]∧St X w0 w m [q22,[⟨b_p_c,[s1.v,(iV p_c_23.at_),(.int .u64 p_c_23.seed.v)],64⟩]]∧OwnL m 85 q22 s22 s_21∧Rd m s1 p_c_23.code∧p_c_23.code = p_c.code) hl8 ⟨q4,s4,_,_,rfl,hF.sub ⟨rfl,rfl,trivial⟩,hS.sel [1,0] (by decide),h4,h8,(hk8.trans hk5)⟩ ?_ ?_
        ·clear hF hS
         rintro s a w st ⟨q10,s10,s_9,p_c_11,rfl,hF,hS,h10,h12,h12k⟩ hb8
         unfold spec_l1Cur_anySchema_l1 at hb8
         refine q_seq (q_seq (q_region (q_x (v:=s10.v) hF hS (ex_move rfl) rfl rfl fun a hF=>q_x (v:=(iV (goLen s_9))) hF hS (ex_len Try.underlying23 rfl h10.len) rfl rfl fun a hF=>q_x (v:=(.pointer (some ⟨b_p_c,0,none⟩))) hF hS (ex_move rfl) rfl rfl fun a hF=>?_)))
         have hS : St _ _ _ _ [[⟨b_p_c,[s1.v,(iV p_c_11.at_),(.int .u64 p_c_11.seed.v)],64⟩],q10]:=hS.sel [1,0] (by decide)
         have hS13 : St _ _ _ _ ([[⟨b_p_c,[s1.v,(iV p_c_11.at_),(.int .u64 p_c_11.seed.v)],64⟩]]++[q10]):=hS
         have hE13:=hS13.enter
         obtain ⟨t_14,ht_14,hb8⟩:=bindS hb8
         refine q_do rfl fun _ hK=>wp_callX (vs:=[(.pointer (some ⟨b_p_c,0,none⟩)),(iV 2)]) hF Try.func40 (by kernel_rfl) rfl rfl rfl (c_spec_l1Cur_pick p_c_11 2 t_14 ht_14 _ m b_p_c s1 h12 _ hE13) fun a w _ hR hF=>hK _ _ ?_
         obtain ⟨rfl,hR13,hk15⟩:=hR
         have hS : St _ _ _ _ [[⟨b_p_c,[s1.v,(iV t_14.2.at_),(.int .u64 t_14.2.seed.v)],64⟩],q10]:=hS13.leaveF hR13
         have h15 : Rd m s1 t_14.2.code:=by rw [hk15]; exact h12
         refine q_x (v:=(iV (w64 (6 + t_14.1)))) hF hS (ex_ibin rfl rfl rfl) rfl rfl fun a hF=>q_x (v:=(.bool (decide ((goLen s_9) < (w64 (6 + t_14.1)))))) hF hS (ex_ibin rfl rfl rfl) rfl rfl fun a hF=>q_end (n_sq ?_)
         rcases bcase (decide ((goLen s_9) < (w64 (6 + t_14.1)))) with hc9 | hc9
         ·have hb8:=cond_f hc9 hb8
          refine q_cond_f hF rfl hc9 (q_exit (x_sq ?_))
          obtain rfl:=someI hb8
          exact ⟨nofun,.inl ⟨q10,s10,_,_,rfl,rfl,hF.sub ⟨rfl,trivial⟩,hS.sel [1,0] (by decide),h10,h15,(hk15.trans h12k)⟩⟩
         ·have hb8:=cond_t hc9 hb8
          refine q_cond_t hF rfl hc9 (q_skipc (n_sq (q_block (q_region (q_x (v:=s10.v) hF hS (ex_move rfl) rfl rfl fun a hF=>q_x (v:=s10.v) hF hS (ex_move rfl) rfl rfl fun a hF=>q_x (v:=(iV (goLen s_9))) hF hS (ex_len Try.underlying23 rfl h10.len) rfl rfl fun a hF=>q_x (v:=(iV (w64 (97 + (goLen s_9))))) hF hS (ex_ibin rfl rfl rfl) rfl rfl fun a hF=>q_x (v:=(.int .u8 (IntKind.wrap .u8 (w64 (97 + (goLen s_9)))))) hF hS (ex_conv Try.underlying3 Try.underlying5 rfl) rfl rfl fun a hF=>q_do rfl fun _ hK=>wp_buildSlice' (l:=([(⟨(IntKind.wrap .u8 (w64 (97 + (goLen s_9))))⟩ : K .u8)] : List (K .u8))) (cells:=[(.int .u8 (IntKind.wrap .u8 (w64 (97 + (goLen s_9)))))]) hF hS Try.underlying22 inf5 rfl rfl (by kernel_rfl) rfl rfl rfl ⟨rfl,rfl⟩ rfl rfl fun a w q16 s16 hF hS h16 _=>hK _ _ (q_x (v:=(strV (goBytes ([(⟨(IntKind.wrap .u8 (w64 (97 + (goLen s_9))))⟩ : K .u8)] : List (K .u8))))) hF hS (ex_toStr Try.underlying22 Try.underlying5 Try.underlying9 rfl (fun X w0 w hS=>h16.vw hS (j:=0) rfl)) rfl rfl fun a hF=>?_))))))
          obtain ⟨t_17,ht_17,hb8⟩:=bindS hb8
          refine q_x (v:=(strV t_17)) hF hS (ex_strCat rfl rfl ht_17) rfl rfl fun a hF=>q_x (v:=(.agg #[(strV t_17),(iV 2)])) hF hS (ex_build (cells:=[(strV t_17),(iV 2)]) rfl (by kernel_rfl)) rfl rfl fun a hF=>q_do rfl fun _ hK=>wp_buildSlice' (l:=([(impl_Variable.mk t_17 2)] : List impl_Variable)) (cells:=[(strV t_17),(iV 2)]) hF hS Try.underlying23 inf85 rfl rfl (by kernel_rfl) rfl rfl rfl ⟨rfl,rfl⟩ rfl rfl fun a w q18 s18 hF hS h18 _=>hK _ _ ?_
          have hS : St _ _ _ _ [q10,q18,q16,[⟨b_p_c,[s1.v,(iV t_14.2.at_),(.int .u64 t_14.2.seed.v)],64⟩]]:=hS.sel [3,0,1,2] (by decide)
          obtain ⟨l_19,hl_19,hb8⟩:=bindS hb8
          refine q_do rfl fun _ hK=>wp_append hF hS h10 Try.underlying23 inf85 rfl rfl rfl rfl (h18.vw hS (j:=1) rfl) rfl (by decide) hl_19 rfl fun a w q20 s20 hF hS h20=>hK _ _ (q_x (v:=s20.v) hF hS (ex_assign rfl) rfl rfl fun a hF=>q_end (n_ib ?_))
          obtain rfl:=someI hb8
          exact ⟨rfl,q20,s20,_,_,rfl,hF.sub ⟨rfl,rfl,trivial⟩,hS.mask [true,false,false,true],h20,h15,(hk15.trans h12k)⟩
        ·rintro e a w ⟨q22,s22,s_21,p_c_23,rfl,rfl,hF,hS,h22,h24,h24k⟩
         refine x_ib (n_jn ?_)
         obtain rfl:=someI hj6
         exact ⟨q22,s22,_,_,rfl,hF.sub ⟨rfl,trivial⟩,hS,h22,h24,h24k⟩
      ·rintro a w ⟨q26,s26,s_25,p_c_27,rfl,hF,hS,h26,h28,h28k⟩
       refine n_jn ?_
       obtain rfl:=someI hj3
       exact ⟨q26,s26,_,_,rfl,hF.sub ⟨rfl,trivial⟩,hS,h26,h28,h28k⟩
     ·have hj3:=cond_t hc5 hj3
      refine q_cond_t hF rfl hc5 (q_seq (q_region (q_x (v:=nilS.v) hF hS (ex_assign rfl) rfl rfl fun a hF=>q_end (n_sq (q_ret (r_jn ?_))))))
      obtain rfl:=someI hj3
      refine r_jn ?_
      obtain rfl:=someI hj1
      refine r_ib (r_sq ?_)
      obtain rfl:=someI hr
      exact ret_ofX hF hS rfl (.tmp rfl .nil) ⟨[],nilS,rfl,hS.sel [0,2] (by decide),(OwnL.nil (α:=impl_Variable) m 85),(hk8.trans hk5)⟩
    ·have hj3:=cond_t hc4 hj3
     refine q_cond_t hF rfl hc4 (q_region (q_x (v:=s4.v) hF hS (ex_move rfl) rfl rfl fun a hF=>q_x (v:=(.pointer (some ⟨b_p_c,0,none⟩))) hF hS (ex_move rfl) rfl rfl fun a hF=>q_do rfl fun _ hK=>wp_buildSlice' (l:=([([] : List UInt8),([65,103,101] : List UInt8),([97,98,99,100,101,102,103,104,105] : List UInt8),([97,103,101] : List UInt8),([97,98,32,99,100] : List UInt8)] : List (List UInt8))) (cells:=[(strV ([] : List UInt8)),(strV ([65,103,101] : List UInt8)),(strV ([97,98,99,100,101,102,103,104,105] : List UInt8)),(strV ([97,103,101] : List UInt8)),(strV ([97,98,32,99,100] : List UInt8))]) hF hS Try.underlying98 inf9 rfl rfl (by kernel_rfl) rfl rfl rfl ⟨rfl,rfl,rfl,rfl,rfl,rfl⟩ rfl rfl fun a w q29 s29 hF hS h29 _=>hK _ _ ?_))
     have hS : St _ _ _ _ [[⟨b_p_c,[s1.v,(iV t_7.2.at_),(.int .u64 t_7.2.seed.v)],64⟩],q29,q4]:=hS.sel [1,0,2] (by decide)
     have hS30 : St _ _ _ _ ([[⟨b_p_c,[s1.v,(iV t_7.2.at_),(.int .u64 t_7.2.seed.v)],64⟩]]++[q29,q4]):=hS
     obtain ⟨m30,hl30,hE30,hz30⟩:=hS30.lendX
     obtain ⟨t_31,ht_31,hj3⟩:=bindS hj3
     refine q_do rfl fun _ hK=>wp_callX (vs:=[(.pointer (some ⟨b_p_c,0,none⟩)),s29.v]) hF Try.func70 (by kernel_rfl) rfl rfl rfl (c_spec_l1Cur_of t_7.2 ([([] : List UInt8),([65,103,101] : List UInt8),([97,98,99,100,101,102,103,104,105] : List UInt8),([97,103,101] : List UInt8),([97,98,32,99,100] : List UInt8)] : List (List UInt8)) t_31 ht_31 _ m30 b_p_c s1 (h8.mono hl30) s29 (h29.froz hl30 (hz30 0 _ rfl)) _ hE30) fun a w _ hR hF=>hK _ _ ?_
     obtain ⟨rfl,hR30,hk32⟩:=hR
     have hS : St _ _ _ _ [[⟨b_p_c,[s1.v,(iV t_31.2.at_),(.int .u64 t_31.2.seed.v)],64⟩],q29,q4]:=hS30.leaveF hR30
     have h32 : Rd m s1 t_31.2.code:=by rw [hk32]; exact h8
     obtain ⟨e_33,he_33,hj3⟩:=bindS hj3
     obtain ⟨vs34,at34,d34⟩:=h4.at he_33 2 rfl
     obtain rfl : vs34 = [(strV e_33.Name),(iV e_33.Levels)]:=d34
     refine q_x (v:=(elP s4 ((0 : Int).toNat * 2))) hF hS (ex_indexAddr Try.underlying23 sz85 rfl rfl (h4.idx he_33)) rfl rfl fun a hF=>q_x (v:=(elP s4 ((0 : Int).toNat * 2 + 0))) hF hS (ex_fieldAddrE Try.underlying85 rfl sz9 rfl (h4.idx he_33) rfl) rfl rfl fun a hF=>?_
     have hS : St _ _ _ _ [q4,[⟨b_p_c,[s1.v,(iV t_31.2.at_),(.int .u64 t_31.2.seed.v)],64⟩],q29]:=hS.sel [2,0,1] (by decide)
     refine q_do rfl fun _ hK=>wp_storeE (e':=(impl_Variable.mk t_31.1 e_33.Levels)) (us:=[(strV t_31.1)]) (vs:=[(strV e_33.Name),(iV e_33.Levels)]) 0 hF hS h4 sz9 rfl rfl rfl rfl rfl rfl rfl he_33 at34 rfl rfl rfl fun w q35 hS h35=>hK _ _ (q_end (n_jn ?_))
     obtain rfl:=someI hj3
     exact ⟨q35,s4,_,_,rfl,hF.sub ⟨rfl,trivial⟩,hS.mask [true,true,false],h35,h32,(hk32.trans (hk8.trans hk5))⟩
   ·rintro a w ⟨q37,s37,s_36,p_c_38,rfl,hF,hS,h37,h39,h39k⟩
    refine n_jn ?_
    obtain rfl:=someI hj1
    exact ⟨q37,s37,_,_,rfl,hF.sub ⟨rfl,trivial⟩,hS,h37,h39,h39k⟩
  ·have hj1:=cond_t hc2 hj1
   refine q_cond_t hF rfl hc2 (q_region (q_x (v:=s4.v) hF hS (ex_move rfl) rfl rfl fun a hF=>q_x (v:=(.pointer (some ⟨b_p_c,0,none⟩))) hF hS (ex_move rfl) rfl rfl fun a hF=>q_do rfl fun _ hK=>wp_buildSlice' (l:=([1,8,9] : List Int)) (cells:=[(iV 1),(iV 8),(iV 9)]) hF hS Try.underlying24 inf3 rfl rfl (by kernel_rfl) rfl rfl rfl ⟨rfl,rfl,rfl,rfl⟩ rfl rfl fun a w q40 s40 hF hS h40 _=>hK _ _ ?_))
   have hS : St _ _ _ _ [[⟨b_p_c,[s1.v,(iV t_7.2.at_),(.int .u64 t_7.2.seed.v)],64⟩],q40,q4]:=hS.sel [1,0,2] (by decide)
   have hS41 : St _ _ _ _ ([[⟨b_p_c,[s1.v,(iV t_7.2.at_),(.int .u64 t_7.2.seed.v)],64⟩]]++[q40,q4]):=hS
   obtain ⟨m41,hl41,hE41,hz41⟩:=hS41.lendX
   obtain ⟨t_42,ht_42,hj1⟩:=bindS hj1
   refine q_do rfl fun _ hK=>wp_callX (vs:=[(.pointer (some ⟨b_p_c,0,none⟩)),s40.v]) hF Try.func69 (by kernel_rfl) rfl rfl rfl (c_spec_l1Cur_among t_7.2 ([1,8,9] : List Int) t_42 ht_42 _ m41 b_p_c s1 (h8.mono hl41) s40 (h40.froz hl41 (hz41 0 _ rfl)) _ hE41) fun a w _ hR hF=>hK _ _ ?_
   obtain ⟨rfl,hR41,hk43⟩:=hR
   have hS : St _ _ _ _ [[⟨b_p_c,[s1.v,(iV t_42.2.at_),(.int .u64 t_42.2.seed.v)],64⟩],q40,q4]:=hS41.leaveF hR41
   have h43 : Rd m s1 t_42.2.code:=by rw [hk43]; exact h8
   obtain ⟨e_44,he_44,hj1⟩:=bindS hj1
   obtain ⟨vs45,at45,d45⟩:=h4.at he_44 2 rfl
   obtain rfl : vs45 = [(strV e_44.Name),(iV e_44.Levels)]:=d45
   refine q_x (v:=(elP s4 ((0 : Int).toNat * 2))) hF hS (ex_indexAddr Try.underlying23 sz85 rfl rfl (h4.idx he_44)) rfl rfl fun a hF=>q_x (v:=(elP s4 ((0 : Int).toNat * 2 + 1))) hF hS (ex_fieldAddrE Try.underlying85 rfl sz3 rfl (h4.idx he_44) rfl) rfl rfl fun a hF=>?_
   have hS : St _ _ _ _ [q4,[⟨b_p_c,[s1.v,(iV t_42.2.at_),(.int .u64 t_42.2.seed.v)],64⟩],q40]:=hS.sel [2,0,1] (by decide)
   refine q_do rfl fun _ hK=>wp_storeE (e':=(impl_Variable.mk e_44.Name t_42.1)) (us:=[(iV t_42.1)]) (vs:=[(strV e_44.Name),(iV e_44.Levels)]) 1 hF hS h4 sz3 rfl rfl rfl rfl rfl rfl rfl he_44 at45 rfl rfl rfl fun w q46 hS h46=>hK _ _ (q_end (n_jn ?_))
   obtain rfl:=someI hj1
   exact ⟨q46,s4,_,_,rfl,hF.sub ⟨rfl,trivial⟩,hS.mask [true,true,false],h46,h43,(hk43.trans (hk8.trans hk5))⟩
 ·rintro a w ⟨q48,s48,s_47,p_c_49,rfl,hF,hS,h48,h50,h50k⟩
  refine n_ib (n_sq ?_)
  refine q_seq (q_region (q_x (v:=s48.v) hF hS (ex_move rfl) rfl rfl fun a hF=>q_x (v:=s48.v) hF hS (ex_assign rfl) rfl rfl fun a hF=>q_end (n_sq (q_ret ?_))))
  obtain rfl:=someI hr
  exact ret_ofX hF hS rfl (.tmp rfl .nil) ⟨q48,s48,rfl,hS.sel [1,0] (by decide),h48,h50k⟩

theorem c_spec_l1Least (p_a : Int) (p_b : Int) (r : Int) (hr : spec_l1Least p_a p_b = some r) (w0 : World) (m : Mem) (hv : Vis m w0) :
  Ret Try.prog 71 [(iV p_a),(iV p_b)] w0 (fun v _=>v = (iV r)):=by
 unfold spec_l1Least at hr
 refine ret_start Try.func71 rfl 10 rfl rfl m hv fun a hF hS=>q_seq (q_region (q_x (v:=(iV 0)) hF hS (ex_assign rfl) rfl rfl fun a hF=>q_end (n_sq (q_seq (q_seq (q_region (q_x (v:=(iV p_a)) hF hS (ex_move rfl) rfl rfl fun a hF=>q_x (v:=(iV p_b)) hF hS (ex_move rfl) rfl rfl fun a hF=>q_x (v:=(.bool (decide (p_a < p_b)))) hF hS (ex_ibin rfl rfl rfl) rfl rfl fun a hF=>q_end (n_sq ?_))))))))
 rcases bcase (decide (p_a < p_b)) with hc1 | hc1
 ·have hr:=cond_f hc1 hr
  refine q_cond_f hF rfl hc1 (q_skipc (n_sq (q_seq (q_region (q_x (v:=(iV p_b)) hF hS (ex_move rfl) rfl rfl fun a hF=>q_x (v:=(iV p_b)) hF hS (ex_assign rfl) rfl rfl fun a hF=>q_end (n_sq (q_ret ?_)))))))
  obtain rfl:=someI hr
  exact ret_of hF hS rfl (.tmp rfl .nil) rfl
 ·have hr:=cond_t hc1 hr
  refine q_cond_t hF rfl hc1 (q_seq (q_region (q_x (v:=(iV p_a)) hF hS (ex_move rfl) rfl rfl fun a hF=>q_x (v:=(iV p_a)) hF hS (ex_assign rfl) rfl rfl fun a hF=>q_end (n_sq (q_ret (r_sq ?_))))))
  obtain rfl:=someI hr
  exact ret_of hF hS rfl (.tmp rfl .nil) rfl

theorem c_spec_l1Cur_grouping (p_c : spec_l1Cur) (p_s : List impl_Variable) (r : impl_Grouping × spec_l1Cur) (hr : spec_l1Cur_grouping p_c p_s = some r) (w0 : World) (m : Mem) (b_p_c : Nat) (s1 : Sl) (h1 : Rd m s1 p_c.code) (s2 : Sl) (h2 : Rd m s2 p_s) (X : List Nat) (hS : St X w0 w0 m [[⟨b_p_c,[s1.v,(iV p_c.at_),(.int .u64 p_c.seed.v)],64⟩]]) :
  RetX Try.prog 31 [(.pointer (some ⟨b_p_c,0,none⟩)),s2.v] w0 (fun v w=>∃ (q0' : Piece) (s0' : Sl),v = (.agg #[(iV r.1.Var),s0'.v])∧St X w0 w m [[⟨b_p_c,[s1.v,(iV r.2.at_),(.int .u64 r.2.seed.v)],64⟩],q0']∧OwnL m 3 q0' s0' r.1.Groups∧r.2.code = p_c.code):=by
 unfold spec_l1Cur_grouping at hr
 refine ret_startX Try.func31 rfl 95 rfl rfl fun a hF=>q_seq (q_region (q_alloc (cs:=[(iV 0),nilS.v]) hF hS rfl rfl rfl fun a w b3 hF hS=>q_end (n_sq (q_seq (q_region (q_x (v:=(.agg #[(iV 0),nilS.v])) hF hS (ex_build (cells:=[(iV 0),nilS.v]) rfl (by kernel_rfl)) rfl rfl fun a hF=>q_alloc (cs:=[(iV 0),nilS.v]) hF hS rfl rfl rfl fun a w b4 hF hS=>q_store (vs:=[(iV 0),nilS.v]) (cs':=[(iV 0),nilS.v]) 0 0 hF hS sz26 rfl rfl rfl rfl rfl rfl rfl rfl fun a w hF hS=>q_end (n_sq (q_seq (q_seq (q_region (q_x (v:=s2.v) hF hS (ex_move rfl) rfl rfl fun a hF=>q_x (v:=(iV (goLen p_s))) hF hS (ex_len Try.underlying23 rfl h2.len) rfl rfl fun a hF=>q_x (v:=(.bool (decide (0 < (goLen p_s))))) hF hS (ex_ibin rfl rfl rfl) rfl rfl fun a hF=>q_end (n_sq ?_))))))))))))
 obtain ⟨j1,hj1,hr⟩:=bindS hr
 refine q_join (fun a w=>∃ (q49 : Piece),∃ (s49 : Sl),∃ g_48,∃ p_c_50,j1 = (g_48,p_c_50)∧Fr a 95 [(0,(.pointer (some ⟨b_p_c,0,none⟩))),(4,(.pointer (some ⟨b3,0,none⟩))),(5,(.pointer (some ⟨b4,0,none⟩)))]∧St X w0 w m [q49,[⟨b4,[(iV g_48.Var),s49.v],26⟩],[⟨b3,[(iV 0),nilS.v],26⟩],[⟨b_p_c,[s1.v,(iV p_c_50.at_),(.int .u64 p_c_50.seed.v)],64⟩]]∧OwnL m 3 q49 s49 g_48.Groups∧Rd m s1 p_c_50.code∧p_c_50.code = p_c.code) ?_ ?_
 ·rcases bcase (decide (0 < (goLen p_s))) with hc2 | hc2
  ·have hj1:=cond_f hc2 hj1
   refine q_cond_f hF rfl hc2 (q_skipc (n_jn ?_))
   obtain rfl:=someI hj1
   exact ⟨[],nilS,_,_,rfl,hF.sub ⟨rfl,rfl,rfl,trivial⟩,hS.sel [3,0,1,2] (by decide),(OwnL.nil (α:=Int) m 3),h1,rfl⟩
  ·have hj1:=cond_t hc2 hj1
   refine q_cond_t hF rfl hc2 (q_seq (q_region (q_x (v:=(.pointer (some ⟨b_p_c,0,none⟩))) hF hS (ex_move rfl) rfl rfl fun a hF=>q_x (v:=s2.v) hF hS (ex_move rfl) rfl rfl fun a hF=>q_x (v:=(iV (goLen p_s))) hF hS (ex_len Try.underlying23 rfl h2.len) rfl rfl fun a hF=>?_)))
   have hS : St _ _ _ _ [[⟨b_p_c,[s1.v,(iV p_c.at_),(.int .u64 p_c.seed.v)],64⟩],[⟨b4,[(iV 0),nilS.v],26⟩],[⟨b3,[(iV 0),nilS.v],26⟩]]:=hS.sel [2,0,1] (by decide)
   have hS5 : St _ _ _ _ ([[⟨b_p_c,[s1.v,(iV p_c.at_),(.int .u64 p_c.seed.v)],64⟩]]++[[⟨b4,[(iV 0),nilS.v],26⟩],[⟨b3,[(iV 0),nilS.v],26⟩]]):=hS
   have hE5:=hS5.enter
   obtain ⟨t_6,ht_6,hj1⟩:=bindS hj1
   refine q_do rfl fun _ hK=>wp_callX (vs:=[(.pointer (some ⟨b_p_c,0,none⟩)),(iV (goLen p_s))]) hF Try.func40 (by kernel_rfl) rfl rfl rfl (c_spec_l1Cur_pick p_c (goLen p_s) t_6 ht_6 _ m b_p_c s1 h1 _ hE5) fun a w _ hR hF=>hK _ _ ?_
   obtain ⟨rfl,hR5,hk7⟩:=hR
   have hS : St _ _ _ _ [[⟨b_p_c,[s1.v,(iV t_6.2.at_),(.int .u64 t_6.2.seed.v)],64⟩],[⟨b4,[(iV 0),nilS.v],26⟩],[⟨b3,[(iV 0),nilS.v],26⟩]]:=hS5.leaveF hR5
   have h7 : Rd m s1 t_6.2.code:=by rw [hk7]; exact h1
   refine q_x (v:=(.pointer (some ⟨b4,0,none⟩))) hF hS (ex_fieldAddr Try.underlying26 rfl sz3 rfl rfl) rfl rfl fun a hF=>q_store (vs:=[(iV t_6.1)]) (cs':=[(iV t_6.1),nilS.v]) 1 0 hF hS sz3 rfl rfl rfl rfl rfl rfl rfl rfl fun a w hF hS=>q_end (n_sq (q_seq (q_region (q_x (v:=(iV 1)) hF hS (ex_assign rfl) rfl rfl fun a hF=>q_end (n_sq (q_seq (q_seq (q_region (q_x (v:=s2.v) hF hS (ex_move rfl) rfl rfl fun a hF=>q_x (v:=(.pointer (some ⟨b4,0,none⟩))) hF hS (ex_fieldAddr Try.underlying26 rfl sz3 rfl rfl) rfl rfl fun a hF=>q_x (v:=(iV t_6.1)) hF hS (ex_load1 1 0 Try.underlying3 rfl rfl rfl rfl) rfl rfl fun a hF=>?_)))))))))
   obtain ⟨e_8,he_8,hj1⟩:=bindS hj1
   obtain ⟨vs9,at9,d9⟩:=h2.at he_8 2 rfl
   obtain rfl : vs9 = [(strV e_8.Name),(iV e_8.Levels)]:=d9
   refine q_x (v:=(elP s2 (t_6.1.toNat * 2))) hF hS (ex_indexAddr Try.underlying23 sz85 rfl rfl (h2.idx he_8)) rfl rfl fun a hF=>q_x (v:=(elP s2 (t_6.1.toNat * 2 + 1))) hF hS (ex_fieldAddrE Try.underlying85 rfl sz3 rfl (h2.idx he_8) rfl) rfl rfl fun a hF=>q_x (v:=(iV e_8.Levels)) hF hS (ex_loadE1 1 Try.underlying3 rfl rfl ((at9).at) rfl rfl) rfl rfl fun a hF=>q_x (v:=(iV e_8.Levels)) hF hS (ex_assign rfl) rfl rfl fun a hF=>q_end (n_sq (q_seq (q_region (q_x (v:=(iV e_8.Levels)) hF hS (ex_move rfl) rfl rfl fun a hF=>q_x (v:=(.bool (decide (0 < e_8.Levels)))) hF hS (ex_ibin rfl rfl rfl) rfl rfl fun a hF=>q_end (n_sq ?_)))))
   obtain ⟨j3,hj3,hj1⟩:=bindS hj1
   refine q_join (fun a w=>∃ k_14,∃ p_c_15,j3 = (k_14,p_c_15)∧Fr a 95 [(0,(.pointer (some ⟨b_p_c,0,none⟩))),(1,s2.v),(4,(.pointer (some ⟨b3,0,none⟩))),(5,(.pointer (some ⟨b4,0,none⟩))),(6,(iV k_14))]∧St X w0 w m [[⟨b_p_c,[s1.v,(iV p_c_15.at_),(.int .u64 p_c_15.seed.v)],64⟩],[⟨b4,[(iV t_6.1),nilS.v],26⟩],[⟨b3,[(iV 0),nilS.v],26⟩]]∧Rd m s1 p_c_15.code∧p_c_15.code = p_c.code) ?_ ?_
   ·rcases bcase (decide (0 < e_8.Levels)) with hc4 | hc4
    ·have hj3:=cond_f hc4 hj3
     refine q_cond_f hF rfl hc4 (q_skipc (n_jn ?_))
     obtain rfl:=someI hj3
     exact ⟨_,_,rfl,hF.sub ⟨rfl,rfl,rfl,rfl,rfl,trivial⟩,hS,h7,hk7⟩
    ·have hj3:=cond_t hc4 hj3
     refine q_cond_t hF rfl hc4 (q_region (q_x (v:=(.pointer (some ⟨b_p_c,0,none⟩))) hF hS (ex_move rfl) rfl rfl fun a hF=>?_))
     have hS10 : St _ _ _ _ ([[⟨b_p_c,[s1.v,(iV t_6.2.at_),(.int .u64 t_6.2.seed.v)],64⟩]]++[[⟨b4,[(iV t_6.1),nilS.v],26⟩],[⟨b3,[(iV 0),nilS.v],26⟩]]):=hS
     have hE10:=hS10.enter
     obtain ⟨t_11,ht_11,hj3⟩:=bindS hj3
     refine q_do rfl fun _ hK=>wp_callX (vs:=[(.pointer (some ⟨b_p_c,0,none⟩)),(iV 3)]) hF Try.func40 (by kernel_rfl) rfl rfl rfl (c_spec_l1Cur_pick t_6.2 3 t_11 ht_11 _ m b_p_c s1 h7 _ hE10) fun a w _ hR hF=>hK _ _ ?_
     obtain ⟨rfl,hR10,hk12⟩:=hR
     have hS : St _ _ _ _ [[⟨b_p_c,[s1.v,(iV t_11.2.at_),(.int .u64 t_11.2.seed.v)],64⟩],[⟨b4,[(iV t_6.1),nilS.v],26⟩],[⟨b3,[(iV 0),nilS.v],26⟩]]:=hS10.leaveF hR10
     have h12 : Rd m s1 t_11.2.code:=by rw [hk12]; exact h7
     refine q_x (v:=(iV (w64 (2 + t_11.1)))) hF hS (ex_ibin rfl rfl rfl) rfl rfl fun a hF=>q_x (v:=(iV e_8.Levels)) hF hS (ex_move rfl) rfl rfl fun a hF=>?_
     obtain ⟨t_13,ht_13,hj3⟩:=bindS hj3
     refine q_call (vs:=[(iV (w64 (2 + t_11.1))),(iV e_8.Levels)]) hF hS Try.func71 (by kernel_rfl) rfl rfl rfl (c_spec_l1Least (w64 (2 + t_11.1)) e_8.Levels t_13 ht_13 _ m hS.vis) ?_
     rintro a w _ rfl hF hS
     refine q_x (v:=(iV t_13)) hF hS (ex_assign rfl) rfl rfl fun a hF=>q_end (n_jn ?_)
     obtain rfl:=someI hj3
     exact ⟨_,_,rfl,hF.sub ⟨rfl,rfl,rfl,rfl,rfl,trivial⟩,hS,h12,(hk12.trans hk7)⟩
   ·rintro a w ⟨k_14,p_c_15,rfl,hF,hS,h16,h16k⟩
    refine n_sq ?_
    refine q_seq (q_region (q_x (v:=(iV 0)) hF hS (ex_assign rfl) rfl rfl fun a hF=>q_end (n_sq (q_block ?_))))
    obtain ⟨o5,hl5,hj1⟩:=bindS hj1
    refine q_loop (fun (s : Int × spec_l1Cur × impl_Grouping) a w=>∃ (q21 : Piece),∃ (s21 : Sl),∃ i_17,∃ p_c_18,∃ g_20,s = (i_17,p_c_18,g_20)∧Fr a 95 [(0,(.pointer (some ⟨b_p_c,0,none⟩))),(1,s2.v),(4,(.pointer (some ⟨b3,0,none⟩))),(5,(.pointer (some ⟨b4,0,none⟩))),(6,(iV k_14)),(8,(iV i_17))]∧St X w0 w m [q21,[⟨b_p_c,[s1.v,(iV p_c_18.at_),(.int .u64 p_c_18.seed.v)],64⟩],[⟨b4,[(iV g_20.Var),s21.v],26⟩],[⟨b3,[(iV 0),nilS.v],26⟩]]∧Rd m s1 p_c_18.code∧p_c_18.code = p_c.code∧OwnL m 3 q21 s21 g_20.Groups) (fun (o : spec_l1Cur × impl_Grouping) e a w=>∃ (q47 : Piece),∃ (s47 : Sl),∃ p_c_44,∃ g_46,o = (p_c_44,g_46)∧e = .exit 0∧Fr a 95 [(0,(.pointer (some ⟨b_p_c,0,none⟩))),(4,(.pointer (some ⟨b3,0,none⟩))),(5,(.pointer (some ⟨b4,0,none⟩)))]∧St X w0 w m [q47,[⟨b_p_c,[s1.v,(iV p_c_44.at_),(.int .u64 p_c_44.seed.v)],64⟩],[⟨b4,[(iV g_46.Var),s47.v],26⟩],[⟨b3,[(iV 0),nilS.v],26⟩]]∧Rd m s1 p_c_44.code∧p_c_44.code = p_c.code∧OwnL m 3 q47 s47 g_46.Groups) hl5 ⟨[],nilS,_,_,_,rfl,hF.sub ⟨rfl,rfl,rfl,rfl,rfl,rfl,trivial⟩,hS.sel [3,0,1,2] (by decide),h16,h16k,(OwnL.nil (α:=Int) m 3)⟩ ?_ ?_
    ·clear hF hS
     rintro s a w st ⟨q21,s21,i_17,p_c_18,g_20,rfl,hF,hS,h19,h19k,h21⟩ hb5
     unfold spec_l1Cur_grouping_l1 at hb5
     refine q_seq (q_seq (q_region (q_x (v:=(iV i_17)) hF hS (ex_move rfl) rfl rfl fun a hF=>q_x (v:=s2.v) hF hS (ex_move rfl) rfl rfl fun a hF=>q_x (v:=(.pointer (some ⟨b4,0,none⟩))) hF hS (ex_fieldAddr Try.underlying26 rfl sz3 rfl rfl) rfl rfl fun a hF=>q_x (v:=(iV g_20.Var)) hF hS (ex_load1 2 0 Try.underlying3 rfl rfl rfl rfl) rfl rfl fun a hF=>?_)))
     obtain ⟨e_22,he_22,hb5⟩:=bindS hb5
     obtain ⟨vs23,at23,d23⟩:=h2.at he_22 2 rfl
     obtain rfl : vs23 = [(strV e_22.Name),(iV e_22.Levels)]:=d23
     refine q_x (v:=(elP s2 (g_20.Var.toNat * 2))) hF hS (ex_indexAddr Try.underlying23 sz85 rfl rfl (h2.idx he_22)) rfl rfl fun a hF=>q_x (v:=(elP s2 (g_20.Var.toNat * 2 + 1))) hF hS (ex_fieldAddrE Try.underlying85 rfl sz3 rfl (h2.idx he_22) rfl) rfl rfl fun a hF=>q_x (v:=(iV e_22.Levels)) hF hS (ex_loadE1 1 Try.underlying3 rfl rfl ((at23).at) rfl rfl) rfl rfl fun a hF=>q_x (v:=(.bool (decide (i_17 < e_22.Levels)))) hF hS (ex_ibin rfl rfl rfl) rfl rfl fun a hF=>q_end (n_sq ?_)
     rcases bcase (decide (i_17 < e_22.Levels)) with hc6 | hc6
     ·have hb5:=cond_f hc6 hb5
      refine q_cond_f hF rfl hc6 (q_exit (x_sq ?_))
      obtain rfl:=someI hb5
      exact ⟨nofun,.inl ⟨q21,s21,_,_,rfl,rfl,hF.sub ⟨rfl,rfl,rfl,trivial⟩,hS,h19,h19k,h21⟩⟩
     ·have hb5:=cond_t hc6 hb5
      refine q_cond_t hF rfl hc6 (q_skipc (n_sq (q_seq (q_block (q_seq (q_region (q_x (v:=(iV i_17)) hF hS (ex_move rfl) rfl rfl fun a hF=>q_x (v:=(iV k_14)) hF hS (ex_move rfl) rfl rfl fun a hF=>q_x (v:=(.bool (decide (i_17 < k_14)))) hF hS (ex_ibin rfl rfl rfl) rfl rfl fun a hF=>q_end (n_sq ?_))))))))
      obtain ⟨j7,hj7,hb5⟩:=bindS hb5
      refine q_join (fun a w=>∃ (q43 : Piece),∃ (s43 : Sl),∃ p_c_40,∃ g_42,j7 = (p_c_40,g_42)∧Fr a 95 [(0,(.pointer (some ⟨b_p_c,0,none⟩))),(1,s2.v),(4,(.pointer (some ⟨b3,0,none⟩))),(5,(.pointer (some ⟨b4,0,none⟩))),(6,(iV k_14)),(8,(iV i_17))]∧St X w0 w m [q43,[⟨b_p_c,[s1.v,(iV p_c_40.at_),(.int .u64 p_c_40.seed.v)],64⟩],[⟨b4,[(iV g_42.Var),s43.v],26⟩],[⟨b3,[(iV 0),nilS.v],26⟩]]∧Rd m s1 p_c_40.code∧p_c_40.code = p_c.code∧OwnL m 3 q43 s43 g_42.Groups) ?_ ?_
      ·rcases bcase (decide (i_17 < k_14)) with hc8 | hc8
       ·have hj7:=cond_f hc8 hj7
        refine q_cond_f hF rfl hc8 ?_
        obtain ⟨j9,hj9,hj7⟩:=bindS hj7
        refine q_join (fun a w=>∃ (q36 : Piece),∃ (s36 : Sl),∃ p_c_33,∃ g_35,j9 = (p_c_33,g_35)∧Fr a 95 [(0,(.pointer (some ⟨b_p_c,0,none⟩))),(1,s2.v),(4,(.pointer (some ⟨b3,0,none⟩))),(5,(.pointer (some ⟨b4,0,none⟩))),(6,(iV k_14)),(8,(iV i_17))]∧St X w0 w m [q36,[⟨b_p_c,[s1.v,(iV p_c_33.at_),(.int .u64 p_c_33.seed.v)],64⟩],[⟨b4,[(iV g_35.Var),s36.v],26⟩],[⟨b3,[(iV 0),nilS.v],26⟩]]∧Rd m s1 p_c_33.code∧p_c_33.code = p_c.code∧OwnL m 3 q36 s36 g_35.Groups) ?_ ?_
        ·refine e_region ⟨[4,6,8],[]⟩ mixed fun w' hw'=>?_
         have hS:=hS.below hw'
         refine e_p (v:=(.pointer (some ⟨b4,1,none⟩))) 0 hF rfl (ex_fieldAddr Try.underlying26 rfl sz24 rfl rfl) rfl rfl (by kernel_rfl) (by kernel_rfl) (by kernel_rfl) fun a hF=>e_p (v:=(.pointer (some ⟨b_p_c,0,none⟩))) 2 hF rfl (ex_move rfl) rfl rfl (by kernel_rfl) (by kernel_rfl) (by kernel_rfl) fun a hF=>e_p (v:=(iV k_14)) 3 hF rfl (ex_move rfl) rfl rfl (by kernel_rfl) (by kernel_rfl) (by kernel_rfl) fun a hF=>?_
         obtain ⟨t_28,ht_28,hj9⟩:=bindS hj9
         obtain ⟨l_31,hl_31,hj9⟩:=bindS hj9
         refine e_all [1,4] (by kernel_rfl) rfl ⟨?_,?_,trivial⟩
         ·refine e_lx (v:=s21.v) hF hS rfl (ex_load1 2 0 Try.underlying24 rfl rfl rfl rfl) rfl rfl fun a hF=>e_one 4 (by kernel_rfl) ?_
          have hS : St _ _ _ _ [[⟨b_p_c,[s1.v,(iV p_c_18.at_),(.int .u64 p_c_18.seed.v)],64⟩],q21,[⟨b4,[(iV g_20.Var),s21.v],26⟩],[⟨b3,[(iV 0),nilS.v],26⟩]]:=hS.sel [1,0,2,3] (by decide)
          have hS27 : St _ _ _ _ ([[⟨b_p_c,[s1.v,(iV p_c_18.at_),(.int .u64 p_c_18.seed.v)],64⟩]]++[q21,[⟨b4,[(iV g_20.Var),s21.v],26⟩],[⟨b3,[(iV 0),nilS.v],26⟩]]):=hS
          have hE27:=hS27.enter
          refine e_opl rfl rfl rfl fun _ hK=>wp_callX (vs:=[(.pointer (some ⟨b_p_c,0,none⟩)),(iV k_14)]) hF Try.func40 (by kernel_rfl) rfl rfl rfl (c_spec_l1Cur_pick p_c_18 k_14 t_28 ht_28 _ m b_p_c s1 h19 _ hE27) fun a w _ hR hF=>hK _ _ ?_
          obtain ⟨rfl,hR27,hk29⟩:=hR
          have hS : St _ _ _ _ [[⟨b_p_c,[s1.v,(iV t_28.2.at_),(.int .u64 t_28.2.seed.v)],64⟩],q21,[⟨b4,[(iV g_20.Var),s21.v],26⟩],[⟨b3,[(iV 0),nilS.v],26⟩]]:=hS27.leaveF hR27
          have h29 : Rd m s1 t_28.2.code:=by rw [hk29]; exact h19
          refine ⟨kpN,?_⟩
          refine e_one 5 (by kernel_rfl) (e_op rfl rfl fun _ hK=>wp_buildSlice' (l:=([t_28.1] : List Int)) (cells:=[(iV t_28.1)]) hF hS Try.underlying24 inf3 rfl rfl (by kernel_rfl) rfl rfl rfl ⟨rfl,rfl⟩ rfl rfl fun a w q30 s30 hF hS h30 hb=>hK _ _ hb (e_one 6 (by kernel_rfl) ?_))
          have hS : St _ _ _ _ [q21,q30,[⟨b_p_c,[s1.v,(iV t_28.2.at_),(.int .u64 t_28.2.seed.v)],64⟩],[⟨b4,[(iV g_20.Var),s21.v],26⟩],[⟨b3,[(iV 0),nilS.v],26⟩]]:=hS.sel [2,0,1,3,4] (by decide)
          refine e_opl rfl rfl rfl fun _ hK=>wp_append hF hS h21 Try.underlying24 inf3 rfl rfl rfl rfl (h30.vw hS (j:=1) rfl) rfl (by decide) hl_31 rfl fun a w q32 s32 hF hS h32=>hK _ _ (⟨kpN,?_⟩)
          refine e_p (v:=(.pointer (some ⟨b4,1,none⟩))) 7 hF rfl (ex_fieldAddr Try.underlying26 rfl sz24 rfl rfl) rfl rfl (by kernel_rfl) (by kernel_rfl) (by kernel_rfl) fun a hF=>e_one 8 (by kernel_rfl) (e_store (vs:=[s32.v]) (cs':=[(iV g_20.Var),s32.v]) 3 0 hF hS rfl rfl sz24 rfl rfl rfl rfl rfl rfl rfl rfl fun a w hF hS=>⟨kpN,?_⟩)
          refine e_end (by kernel_rfl) (n_jn ?_) _
          obtain rfl:=someI hj9
          exact ⟨q32,s32,_,_,rfl,hF.sub ⟨rfl,rfl,rfl,rfl,rfl,rfl,trivial⟩,hS.mask [true,false,true,true,true],h29,(hk29.trans h19k),h32⟩
         ·have hS : St _ _ _ _ [[⟨b_p_c,[s1.v,(iV p_c_18.at_),(.int .u64 p_c_18.seed.v)],64⟩],q21,[⟨b4,[(iV g_20.Var),s21.v],26⟩],[⟨b3,[(iV 0),nilS.v],26⟩]]:=hS.sel [1,0,2,3] (by decide)
          have hS27 : St _ _ _ _ ([[⟨b_p_c,[s1.v,(iV p_c_18.at_),(.int .u64 p_c_18.seed.v)],64⟩]]++[q21,[⟨b4,[(iV g_20.Var),s21.v],26⟩],[⟨b3,[(iV 0),nilS.v],26⟩]]):=hS
          have hE27:=hS27.enter
          refine e_opl rfl rfl rfl fun _ hK=>wp_callX (vs:=[(.pointer (some ⟨b_p_c,0,none⟩)),(iV k_14)]) hF Try.func40 (by kernel_rfl) rfl rfl rfl (c_spec_l1Cur_pick p_c_18 k_14 t_28 ht_28 _ m b_p_c s1 h19 _ hE27) fun a w _ hR hF=>hK _ _ ?_
          obtain ⟨rfl,hR27,hk29⟩:=hR
          have hS : St _ _ _ _ [[⟨b_p_c,[s1.v,(iV t_28.2.at_),(.int .u64 t_28.2.seed.v)],64⟩],q21,[⟨b4,[(iV g_20.Var),s21.v],26⟩],[⟨b3,[(iV 0),nilS.v],26⟩]]:=hS27.leaveF hR27
          have h29 : Rd m s1 t_28.2.code:=by rw [hk29]; exact h19
          refine ⟨kpN,?_⟩
          refine e_x (v:=s21.v) 1 hF hS rfl (ex_load1 2 0 Try.underlying24 rfl rfl rfl rfl) rfl rfl (by kernel_rfl) (by kernel_rfl) (by kernel_rfl) (by kernel_rfl) fun a hF=>e_one 5 (by kernel_rfl) (e_op rfl rfl fun _ hK=>wp_buildSlice' (l:=([t_28.1] : List Int)) (cells:=[(iV t_28.1)]) hF hS Try.underlying24 inf3 rfl rfl (by kernel_rfl) rfl rfl rfl ⟨rfl,rfl⟩ rfl rfl fun a w q30 s30 hF hS h30 hb=>hK _ _ hb (e_one 6 (by kernel_rfl) ?_))
          have hS : St _ _ _ _ [q21,q30,[⟨b_p_c,[s1.v,(iV t_28.2.at_),(.int .u64 t_28.2.seed.v)],64⟩],[⟨b4,[(iV g_20.Var),s21.v],26⟩],[⟨b3,[(iV 0),nilS.v],26⟩]]:=hS.sel [2,0,1,3,4] (by decide)
          refine e_opl rfl rfl rfl fun _ hK=>wp_append hF hS h21 Try.underlying24 inf3 rfl rfl rfl rfl (h30.vw hS (j:=1) rfl) rfl (by decide) hl_31 rfl fun a w q32 s32 hF hS h32=>hK _ _ (⟨kpN,?_⟩)
          refine e_p (v:=(.pointer (some ⟨b4,1,none⟩))) 7 hF rfl (ex_fieldAddr Try.underlying26 rfl sz24 rfl rfl) rfl rfl (by kernel_rfl) (by kernel_rfl) (by kernel_rfl) fun a hF=>e_one 8 (by kernel_rfl) (e_store (vs:=[s32.v]) (cs':=[(iV g_20.Var),s32.v]) 3 0 hF hS rfl rfl sz24 rfl rfl rfl rfl rfl rfl rfl rfl fun a w hF hS=>⟨kpN,?_⟩)
          refine e_end (by kernel_rfl) (n_jn ?_) _
          obtain rfl:=someI hj9
          exact ⟨q32,s32,_,_,rfl,hF.sub ⟨rfl,rfl,rfl,rfl,rfl,rfl,trivial⟩,hS.mask [true,false,true,true,true],h29,(hk29.trans h19k),h32⟩
        ·rintro a w ⟨q36,s36,p_c_33,g_35,rfl,hF,hS,h34,h34k,h36⟩
         refine n_jn ?_
         obtain rfl:=someI hj7
         exact ⟨q36,s36,_,_,rfl,hF.sub ⟨rfl,rfl,rfl,rfl,rfl,rfl,trivial⟩,hS,h34,h34k,h36⟩
       ·have hj7:=cond_t hc8 hj7
        refine q_cond_t hF rfl hc8 (q_region (q_x (v:=(.pointer (some ⟨b4,1,none⟩))) hF hS (ex_fieldAddr Try.underlying26 rfl sz24 rfl rfl) rfl rfl fun a hF=>q_x (v:=s21.v) hF hS (ex_load1 2 0 Try.underlying24 rfl rfl rfl rfl) rfl rfl fun a hF=>q_x (v:=(iV i_17)) hF hS (ex_move rfl) rfl rfl fun a hF=>q_do rfl fun _ hK=>wp_buildSlice' (l:=([i_17] : List Int)) (cells:=[(iV i_17)]) hF hS Try.underlying24 inf3 rfl rfl (by kernel_rfl) rfl rfl rfl ⟨rfl,rfl⟩ rfl rfl fun a w q37 s37 hF hS h37 _=>hK _ _ ?_))
        have hS : St _ _ _ _ [q21,q37,[⟨b_p_c,[s1.v,(iV p_c_18.at_),(.int .u64 p_c_18.seed.v)],64⟩],[⟨b4,[(iV g_20.Var),s21.v],26⟩],[⟨b3,[(iV 0),nilS.v],26⟩]]:=hS.sel [1,0,2,3,4] (by decide)
        obtain ⟨l_38,hl_38,hj7⟩:=bindS hj7
        refine q_do rfl fun _ hK=>wp_append hF hS h21 Try.underlying24 inf3 rfl rfl rfl rfl (h37.vw hS (j:=1) rfl) rfl (by decide) hl_38 rfl fun a w q39 s39 hF hS h39=>hK _ _ (q_x (v:=(.pointer (some ⟨b4,1,none⟩))) hF hS (ex_fieldAddr Try.underlying26 rfl sz24 rfl rfl) rfl rfl fun a hF=>q_store (vs:=[s39.v]) (cs':=[(iV g_20.Var),s39.v]) 3 0 hF hS sz24 rfl rfl rfl rfl rfl rfl rfl rfl fun a w hF hS=>q_end (n_jn ?_))
        obtain rfl:=someI hj7
        exact ⟨q39,s39,_,_,rfl,hF.sub ⟨rfl,rfl,rfl,rfl,rfl,rfl,trivial⟩,hS.mask [true,false,true,true,true],h19,h19k,h39⟩
      ·rintro a w ⟨q43,s43,p_c_40,g_42,rfl,hF,hS,h41,h41k,h43⟩
       refine n_ib (n_sq ?_)
       refine q_region (q_x (v:=(iV i_17)) hF hS (ex_move rfl) rfl rfl fun a hF=>q_x (v:=(iV (w64 (i_17 + 1)))) hF hS (ex_ibin rfl rfl rfl) rfl rfl fun a hF=>q_x (v:=(iV (w64 (i_17 + 1)))) hF hS (ex_assign rfl) rfl rfl fun a hF=>q_end ?_)
       obtain rfl:=someI hb5
       exact ⟨rfl,q43,s43,_,_,_,rfl,hF.sub ⟨rfl,rfl,rfl,rfl,rfl,rfl,trivial⟩,hS,h41,h41k,h43⟩
    ·rintro e a w ⟨q47,s47,p_c_44,g_46,rfl,rfl,hF,hS,h45,h45k,h47⟩
     refine x_ib (n_jn ?_)
     obtain rfl:=someI hj1
     exact ⟨q47,s47,_,_,rfl,hF.sub ⟨rfl,rfl,rfl,trivial⟩,hS.sel [0,2,3,1] (by decide),h47,h45,h45k⟩
 ·rintro a w ⟨q49,s49,g_48,p_c_50,rfl,hF,hS,h49,h51,h51k⟩
  refine n_sq ?_
  refine q_seq (q_seq (q_region (q_x (v:=(.pointer (some ⟨b_p_c,0,none⟩))) hF hS (ex_move rfl) rfl rfl fun a hF=>?_)))
  have hS : St _ _ _ _ [[⟨b_p_c,[s1.v,(iV p_c_50.at_),(.int .u64 p_c_50.seed.v)],64⟩],q49,[⟨b4,[(iV g_48.Var),s49.v],26⟩],[⟨b3,[(iV 0),nilS.v],26⟩]]:=hS.sel [3,0,1,2] (by decide)
  have hS52 : St _ _ _ _ ([[⟨b_p_c,[s1.v,(iV p_c_50.at_),(.int .u64 p_c_50.seed.v)],64⟩]]++[q49,[⟨b4,[(iV g_48.Var),s49.v],26⟩],[⟨b3,[(iV 0),nilS.v],26⟩]]):=hS
  have hE52:=hS52.enter
  obtain ⟨t_53,ht_53,hr⟩:=bindS hr
  refine q_do rfl fun _ hK=>wp_callX (vs:=[(.pointer (some ⟨b_p_c,0,none⟩)),(iV 16)]) hF Try.func40 (by kernel_rfl) rfl rfl rfl (c_spec_l1Cur_pick p_c_50 16 t_53 ht_53 _ m b_p_c s1 h51 _ hE52) fun a w _ hR hF=>hK _ _ ?_
  obtain ⟨rfl,hR52,hk54⟩:=hR
  have hS : St _ _ _ _ [[⟨b_p_c,[s1.v,(iV t_53.2.at_),(.int .u64 t_53.2.seed.v)],64⟩],q49,[⟨b4,[(iV g_48.Var),s49.v],26⟩],[⟨b3,[(iV 0),nilS.v],26⟩]]:=hS52.leaveF hR52
  have h54 : Rd m s1 t_53.2.code:=by rw [hk54]; exact h51
  refine q_end (n_sq (q_block (q_seq (q_region (q_x (v:=(.bool (t_53.1 == 0))) hF hS (ex_ibin rfl rfl rfl) rfl rfl fun a hF=>q_x (v:=(.bool (t_53.1 == 0))) hF hS (ex_assign rfl) rfl rfl fun a hF=>q_end (n_sq ?_))))))
  obtain ⟨j10,hj10,hr⟩:=bindS hr
  refine q_join (fun a w=>∃ (q80 : Piece),∃ (s80 : Sl),∃ p_c_77,∃ g_79,j10 = (p_c_77,g_79)∧Fr a 95 [(4,(.pointer (some ⟨b3,0,none⟩))),(5,(.pointer (some ⟨b4,0,none⟩)))]∧St X w0 w m [q80,[⟨b_p_c,[s1.v,(iV p_c_77.at_),(.int .u64 p_c_77.seed.v)],64⟩],[⟨b4,[(iV g_79.Var),s80.v],26⟩],[⟨b3,[(iV 0),nilS.v],26⟩]]∧Rd m s1 p_c_77.code∧p_c_77.code = p_c.code∧OwnL m 3 q80 s80 g_79.Groups) ?_ ?_
  ·rcases bcase (t_53.1 == 0) with hc11 | hc11
   ·have hj10:=cond_f hc11 hj10
    refine q_cond_f hF rfl hc11 (q_seq (q_region (q_x (v:=(.bool (t_53.1 == 1))) hF hS (ex_ibin rfl rfl rfl) rfl rfl fun a hF=>q_x (v:=(.bool (t_53.1 == 1))) hF hS (ex_assign rfl) rfl rfl fun a hF=>q_end (n_sq ?_))))
    obtain ⟨g_71,hj12,hj10⟩:=bindS hj10
    refine q_join (fun a w=>∃ (q72 : Piece),∃ (s72 : Sl),Fr a 95 [(4,(.pointer (some ⟨b3,0,none⟩))),(5,(.pointer (some ⟨b4,0,none⟩)))]∧St X w0 w m [q72,[⟨b_p_c,[s1.v,(iV t_53.2.at_),(.int .u64 t_53.2.seed.v)],64⟩],[⟨b4,[(iV g_71.Var),s72.v],26⟩],[⟨b3,[(iV 0),nilS.v],26⟩]]∧OwnL m 3 q72 s72 g_71.Groups) ?_ ?_
    ·rcases bcase (t_53.1 == 1) with hc13 | hc13
     ·have hj12:=cond_f hc13 hj12
      refine q_cond_f hF rfl hc13 (q_seq (q_region (q_x (v:=(.bool (t_53.1 == 2))) hF hS (ex_ibin rfl rfl rfl) rfl rfl fun a hF=>q_x (v:=(.bool (t_53.1 == 2))) hF hS (ex_assign rfl) rfl rfl fun a hF=>q_end (n_sq ?_))))
      obtain ⟨g_66,hj14,hj12⟩:=bindS hj12
      refine q_join (fun a w=>∃ (q67 : Piece),Fr a 95 [(4,(.pointer (some ⟨b3,0,none⟩))),(5,(.pointer (some ⟨b4,0,none⟩)))]∧St X w0 w m [q67,[⟨b_p_c,[s1.v,(iV t_53.2.at_),(.int .u64 t_53.2.seed.v)],64⟩],[⟨b4,[(iV g_66.Var),s49.v],26⟩],[⟨b3,[(iV 0),nilS.v],26⟩]]∧OwnL m 3 q67 s49 g_66.Groups) ?_ ?_
      ·rcases bcase (t_53.1 == 2) with hc15 | hc15
       ·have hj14:=cond_f hc15 hj14
        refine q_cond_f hF rfl hc15 (q_skipc (n_jn ?_))
        obtain rfl:=someI hj14
        exact ⟨q49,hF.sub ⟨rfl,rfl,trivial⟩,hS.sel [1,0,2,3] (by decide),h49⟩
       ·have hj14:=cond_t hc15 hj14
        refine q_cond_t hF rfl hc15 (q_seq (q_region (q_x (v:=(.pointer (some ⟨b4,1,none⟩))) hF hS (ex_fieldAddr Try.underlying26 rfl sz24 rfl rfl) rfl rfl fun a hF=>q_x (v:=s49.v) hF hS (ex_load1 2 0 Try.underlying24 rfl rfl rfl rfl) rfl rfl fun a hF=>q_x (v:=(iV (goLen g_48.Groups))) hF hS (ex_len Try.underlying24 rfl h49.len) rfl rfl fun a hF=>q_x (v:=(iV 0)) hF hS (ex_move rfl) rfl rfl fun a hF=>q_end (n_sq (q_block ?_)))))
        obtain ⟨g_64,hl16,hj14⟩:=bindS hj14
        refine q_loop (fun (s : Int × impl_Grouping) a w=>∃ (q57 : Piece),∃ t_55,∃ g_56,s = (t_55,g_56)∧Fr a 95 [(4,(.pointer (some ⟨b3,0,none⟩))),(5,(.pointer (some ⟨b4,0,none⟩))),(78,(iV (goLen g_48.Groups))),(79,(iV t_55))]∧St X w0 w m [q57,[⟨b_p_c,[s1.v,(iV t_53.2.at_),(.int .u64 t_53.2.seed.v)],64⟩],[⟨b4,[(iV g_56.Var),s49.v],26⟩],[⟨b3,[(iV 0),nilS.v],26⟩]]∧OwnL m 3 q57 s49 g_56.Groups) (fun (g_64 : impl_Grouping) e a w=>∃ (q65 : Piece),e = .exit 3∧Fr a 95 [(4,(.pointer (some ⟨b3,0,none⟩))),(5,(.pointer (some ⟨b4,0,none⟩)))]∧St X w0 w m [q65,[⟨b_p_c,[s1.v,(iV t_53.2.at_),(.int .u64 t_53.2.seed.v)],64⟩],[⟨b4,[(iV g_64.Var),s49.v],26⟩],[⟨b3,[(iV 0),nilS.v],26⟩]]∧OwnL m 3 q65 s49 g_64.Groups) hl16 ⟨q49,_,_,rfl,hF.sub ⟨rfl,rfl,rfl,rfl,trivial⟩,hS.sel [1,0,2,3] (by decide),h49⟩ ?_ ?_
        ·clear hF hS
         rintro s a w st ⟨q57,t_55,g_56,rfl,hF,hS,h57⟩ hb16
         unfold spec_l1Cur_grouping_l2 at hb16
         refine q_seq (q_region (q_x (v:=(.bool (decide (t_55 < (goLen g_48.Groups))))) hF hS (ex_ibin rfl rfl rfl) rfl rfl fun a hF=>q_end (n_sq (q_seq ?_))))
         rcases bcase (decide (t_55 < (goLen g_48.Groups))) with hc17 | hc17
         ·have hb16:=cond_f hc17 hb16
          refine q_cond_f hF rfl hc17 (q_exit (x_sq ?_))
          obtain rfl:=someI hb16
          exact ⟨nofun,.inl ⟨q57,rfl,hF.sub ⟨rfl,rfl,trivial⟩,hS,h57⟩⟩
         ·have hb16:=cond_t hc17 hb16
          refine q_cond_t hF rfl hc17 (q_skipc (n_sq (q_seq (q_block (q_seq (q_region (q_x (v:=(iV t_55)) hF hS (ex_move rfl) rfl rfl fun a hF=>q_x (v:=(iV t_55)) hF hS (ex_assign rfl) rfl rfl fun a hF=>q_end (n_sq (e_region ⟨[11],[b4]⟩ mixed fun w' hw'=>?_)))))))))
          have hS:=hS.below hw'
          refine e_p (v:=(.pointer (some ⟨b4,1,none⟩))) 0 hF rfl (ex_fieldAddr Try.underlying26 rfl sz24 rfl rfl) rfl rfl (by kernel_rfl) (by kernel_rfl) (by kernel_rfl) fun a hF=>e_xb (v:=s49.v) 1 2 hF hS (.head _) rfl rfl (ex_load1 0 0 Try.underlying24 rfl rfl rfl rfl) rfl rfl (by kernel_rfl) (by kernel_rfl) (by kernel_rfl) fun a hF=>e_p (v:=(iV t_55)) 2 hF rfl (ex_move rfl) rfl rfl (by kernel_rfl) (by kernel_rfl) (by kernel_rfl) fun a hF=>e_p (v:=(.pointer (some ⟨b4,1,none⟩))) 3 hF rfl (ex_fieldAddr Try.underlying26 rfl sz24 rfl rfl) rfl rfl (by kernel_rfl) (by kernel_rfl) (by kernel_rfl) fun a hF=>e_xb (v:=s49.v) 4 2 hF hS (.head _) rfl rfl (ex_load1 0 0 Try.underlying24 rfl rfl rfl rfl) rfl rfl (by kernel_rfl) (by kernel_rfl) (by kernel_rfl) fun a hF=>e_p (v:=(iV t_55)) 5 hF rfl (ex_move rfl) rfl rfl (by kernel_rfl) (by kernel_rfl) (by kernel_rfl) fun a hF=>?_
          obtain ⟨e_58,he_58,hb16⟩:=bindS hb16
          obtain ⟨vs59,at59,d59⟩:=h57.at he_58 1 rfl
          obtain rfl : vs59 = [(iV e_58)]:=d59
          refine e_p (v:=(elP s49 (t_55.toNat * 1))) 6 hF rfl (ex_indexAddr Try.underlying24 sz3 rfl rfl (h57.idx he_58)) rfl rfl (by kernel_rfl) (by kernel_rfl) (by kernel_rfl) fun a hF=>e_x (v:=(iV e_58)) 7 hF hS rfl (ex_loadE1 0 Try.underlying3 rfl rfl (at59.at 0 rfl) rfl rfl) rfl rfl (by kernel_rfl) (by kernel_rfl) (by kernel_rfl) (by kernel_rfl) fun a hF=>?_
          obtain ⟨t_60,ht_60,hb16⟩:=bindS hb16
          refine e_p (v:=(iV t_60)) 8 hF rfl (ex_rem rfl rfl ht_60) rfl rfl (by kernel_rfl) (by kernel_rfl) (by kernel_rfl) fun a hF=>e_p (v:=(iV (w64 (2 * t_60)))) 9 hF rfl (ex_ibin rfl rfl rfl) rfl rfl (by kernel_rfl) (by kernel_rfl) (by kernel_rfl) fun a hF=>?_
          obtain ⟨e_61,he_61,hb16⟩:=bindS hb16
          obtain ⟨vs62,at62,d62⟩:=h57.at he_61 1 rfl
          obtain rfl : vs62 = [(iV e_61)]:=d62
          refine e_p (v:=(elP s49 (t_55.toNat * 1))) 10 hF rfl (ex_indexAddr Try.underlying24 sz3 rfl rfl (h57.idx he_61)) rfl rfl (by kernel_rfl) (by kernel_rfl) (by kernel_rfl) fun a hF=>e_one 11 (by kernel_rfl) ?_
          have hSo:=hS
          refine e_opl rfl rfl rfl fun _ hK=>wp_storeE (e':=(w64 (2 * t_60))) (us:=[(iV (w64 (2 * t_60)))]) (vs:=[(iV e_61)]) 0 hF hS h57 sz3 rfl rfl rfl rfl rfl rfl rfl he_61 at62 rfl rfl rfl fun w q63 hS h63=>hK _ _ (⟨kpC hSo hS 2 2 rfl rfl kpN,?_⟩)
          refine e_end (by kernel_rfl) (n_ib (n_sq ?_)) _
          refine q_region (q_x (v:=(iV (w64 (t_55 + 1)))) hF hS (ex_ibin rfl rfl rfl) rfl rfl fun a hF=>q_x (v:=(iV (w64 (t_55 + 1)))) hF hS (ex_move rfl) rfl rfl fun a hF=>q_end ?_)
          obtain rfl:=someI hb16
          exact ⟨rfl,q63,_,_,rfl,hF.sub ⟨rfl,rfl,rfl,rfl,trivial⟩,hS,h63⟩
        ·rintro e a w ⟨q65,rfl,hF,hS,h65⟩
         refine x_ib (n_jn ?_)
         obtain rfl:=someI hj14
         exact ⟨q65,hF.sub ⟨rfl,rfl,trivial⟩,hS,h65⟩
      ·rintro a w ⟨q67,hF,hS,h67⟩
       refine n_jn ?_
       obtain rfl:=someI hj12
       exact ⟨q67,s49,hF.sub ⟨rfl,rfl,trivial⟩,hS,h67⟩
     ·have hj12:=cond_t hc13 hj12
      refine q_cond_t hF rfl hc13 (q_region (q_x (v:=(.pointer (some ⟨b4,1,none⟩))) hF hS (ex_fieldAddr Try.underlying26 rfl sz24 rfl rfl) rfl rfl fun a hF=>q_x (v:=s49.v) hF hS (ex_load1 2 0 Try.underlying24 rfl rfl rfl rfl) rfl rfl fun a hF=>q_do rfl fun _ hK=>wp_buildSlice' (l:=([0] : List Int)) (cells:=[(iV 0)]) hF hS Try.underlying24 inf3 rfl rfl (by kernel_rfl) rfl rfl rfl ⟨rfl,rfl⟩ rfl rfl fun a w q68 s68 hF hS h68 _=>hK _ _ ?_))
      have hS : St _ _ _ _ [q49,q68,[⟨b_p_c,[s1.v,(iV t_53.2.at_),(.int .u64 t_53.2.seed.v)],64⟩],[⟨b4,[(iV g_48.Var),s49.v],26⟩],[⟨b3,[(iV 0),nilS.v],26⟩]]:=hS.sel [2,0,1,3,4] (by decide)
      obtain ⟨l_69,hl_69,hj12⟩:=bindS hj12
      refine q_do rfl fun _ hK=>wp_append hF hS h49 Try.underlying24 inf3 rfl rfl rfl rfl (h68.vw hS (j:=1) rfl) rfl (by decide) hl_69 rfl fun a w q70 s70 hF hS h70=>hK _ _ (q_x (v:=(.pointer (some ⟨b4,1,none⟩))) hF hS (ex_fieldAddr Try.underlying26 rfl sz24 rfl rfl) rfl rfl fun a hF=>q_store (vs:=[s70.v]) (cs':=[(iV g_48.Var),s70.v]) 3 0 hF hS sz24 rfl rfl rfl rfl rfl rfl rfl rfl fun a w hF hS=>q_end (n_jn ?_))
      obtain rfl:=someI hj12
      exact ⟨q70,s70,hF.sub ⟨rfl,rfl,trivial⟩,hS.mask [true,false,true,true,true],h70⟩
    ·rintro a w ⟨q72,s72,hF,hS,h72⟩
     refine n_jn ?_
     obtain rfl:=someI hj10
     exact ⟨q72,s72,_,_,rfl,hF.sub ⟨rfl,rfl,trivial⟩,hS,h54,(hk54.trans h51k),h72⟩
   ·have hj10:=cond_t hc11 hj10
    refine q_cond_t hF rfl hc11 (q_region (q_x (v:=(.pointer (some ⟨b_p_c,0,none⟩))) hF hS (ex_move rfl) rfl rfl fun a hF=>q_do rfl fun _ hK=>wp_buildSlice' (l:=([-1,0,1,9] : List Int)) (cells:=[(iV (-1)),(iV 0),(iV 1),(iV 9)]) hF hS Try.underlying24 inf3 rfl rfl (by kernel_rfl) rfl rfl rfl ⟨rfl,rfl,rfl,rfl,rfl⟩ rfl rfl fun a w q73 s73 hF hS h73 _=>hK _ _ ?_))
    have hS : St _ _ _ _ [[⟨b_p_c,[s1.v,(iV t_53.2.at_),(.int .u64 t_53.2.seed.v)],64⟩],q73,q49,[⟨b4,[(iV g_48.Var),s49.v],26⟩],[⟨b3,[(iV 0),nilS.v],26⟩]]:=hS.sel [1,0,2,3,4] (by decide)
    have hS74 : St _ _ _ _ ([[⟨b_p_c,[s1.v,(iV t_53.2.at_),(.int .u64 t_53.2.seed.v)],64⟩]]++[q73,q49,[⟨b4,[(iV g_48.Var),s49.v],26⟩],[⟨b3,[(iV 0),nilS.v],26⟩]]):=hS
    obtain ⟨m74,hl74,hE74,hz74⟩:=hS74.lendX
    obtain ⟨t_75,ht_75,hj10⟩:=bindS hj10
    refine q_do rfl fun _ hK=>wp_callX (vs:=[(.pointer (some ⟨b_p_c,0,none⟩)),s73.v]) hF Try.func69 (by kernel_rfl) rfl rfl rfl (c_spec_l1Cur_among t_53.2 ([-1,0,1,9] : List Int) t_75 ht_75 _ m74 b_p_c s1 (h54.mono hl74) s73 (h73.froz hl74 (hz74 0 _ rfl)) _ hE74) fun a w _ hR hF=>hK _ _ ?_
    obtain ⟨rfl,hR74,hk76⟩:=hR
    have hS : St _ _ _ _ [[⟨b_p_c,[s1.v,(iV t_75.2.at_),(.int .u64 t_75.2.seed.v)],64⟩],q73,q49,[⟨b4,[(iV g_48.Var),s49.v],26⟩],[⟨b3,[(iV 0),nilS.v],26⟩]]:=hS74.leaveF hR74
    have h76 : Rd m s1 t_75.2.code:=by rw [hk76]; exact h54
    refine q_x (v:=(.pointer (some ⟨b4,0,none⟩))) hF hS (ex_fieldAddr Try.underlying26 rfl sz3 rfl rfl) rfl rfl fun a hF=>q_store (vs:=[(iV t_75.1)]) (cs':=[(iV t_75.1),s49.v]) 3 0 hF hS sz3 rfl rfl rfl rfl rfl rfl rfl rfl fun a w hF hS=>q_end (n_jn ?_)
    obtain rfl:=someI hj10
    exact ⟨q49,s49,_,_,rfl,hF.sub ⟨rfl,rfl,trivial⟩,hS.sel [2,0,3,4] (by decide),h76,(hk76.trans (hk54.trans h51k)),h49⟩
  ·rintro a w ⟨q80,s80,p_c_77,g_79,rfl,hF,hS,h78,h78k,h80⟩
   refine n_ib (n_sq ?_)
   refine q_seq (q_region (q_x (v:=(.agg #[(iV g_79.Var),s80.v])) hF hS (ex_loadA (vs:=[(iV g_79.Var),s80.v]) 2 0 Try.underlying26 rfl sz26 rfl rfl rfl rfl) rfl rfl fun a hF=>q_store (vs:=[(iV g_79.Var),s80.v]) (cs':=[(iV g_79.Var),s80.v]) 3 0 hF hS sz26 rfl rfl rfl rfl rfl rfl rfl rfl fun a w hF hS=>q_end (n_sq (q_ret ?_))))
   obtain rfl:=someI hr
   exact ret_ofX hF hS rfl (.cellA (us:=[(iV g_79.Var),s80.v]) 3 0 Try.underlying26 rfl sz26 rfl rfl rfl rfl .nil) ⟨q80,s80,rfl,hS.sel [1,0] (by decide),h80,h78k⟩

theorem c_spec_l1Cur_values (p_c : spec_l1Cur) (p_s : List impl_Variable) (r : (List Int) × spec_l1Cur) (hr : spec_l1Cur_values p_c p_s = some r) (w0 : World) (m : Mem) (b_p_c : Nat) (s1 : Sl) (h1 : Rd m s1 p_c.code) (s2 : Sl) (h2 : Rd m s2 p_s) (X : List Nat) (hS : St X w0 w0 m [[⟨b_p_c,[s1.v,(iV p_c.at_),(.int .u64 p_c.seed.v)],64⟩]]) :
  RetX Try.prog 73 [(.pointer (some ⟨b_p_c,0,none⟩)),s2.v] w0 (fun v w=>∃ (q0' : Piece) (s0' : Sl),v = s0'.v∧St X w0 w m [[⟨b_p_c,[s1.v,(iV r.2.at_),(.int .u64 r.2.seed.v)],64⟩],q0']∧OwnL m 3 q0' s0' r.1∧r.2.code = p_c.code):=by
 unfold spec_l1Cur_values at hr
 refine ret_startX Try.func73 rfl 23 rfl rfl fun a hF=>q_seq (q_region (q_x (v:=nilS.v) hF hS (ex_assign rfl) rfl rfl fun a hF=>q_end (n_sq (q_seq (q_region (q_x (v:=nilS.v) hF hS (ex_assign rfl) rfl rfl fun a hF=>q_end (n_sq (q_seq (q_seq (q_region (q_x (v:=s2.v) hF hS (ex_move rfl) rfl rfl fun a hF=>q_x (v:=(iV (goLen p_s))) hF hS (ex_len Try.underlying23 rfl h2.len) rfl rfl fun a hF=>q_x (v:=(iV 0)) hF hS (ex_move rfl) rfl rfl fun a hF=>q_end (n_sq (q_block ?_)))))))))))))
 obtain ⟨o1,hl1,hr⟩:=bindS hr
 refine q_loop (fun (s : (List Int) × Int × spec_l1Cur) a w=>∃ (q4 : Piece),∃ (s4 : Sl),∃ out_3,∃ t_5,∃ p_c_6,s = (out_3,t_5,p_c_6)∧Fr a 23 [(0,(.pointer (some ⟨b_p_c,0,none⟩))),(5,s4.v),(8,s2.v),(9,(iV (goLen p_s))),(10,(iV t_5))]∧St X w0 w m [q4,[⟨b_p_c,[s1.v,(iV p_c_6.at_),(.int .u64 p_c_6.seed.v)],64⟩]]∧OwnL m 3 q4 s4 out_3∧Rd m s1 p_c_6.code∧p_c_6.code = p_c.code) (fun (o : (List Int) × spec_l1Cur) e a w=>∃ (q18 : Piece),∃ (s18 : Sl),∃ out_17,∃ p_c_19,o = (out_17,p_c_19)∧e = .exit 0∧Fr a 23 [(5,s18.v)]∧St X w0 w m [q18,[⟨b_p_c,[s1.v,(iV p_c_19.at_),(.int .u64 p_c_19.seed.v)],64⟩]]∧OwnL m 3 q18 s18 out_17∧Rd m s1 p_c_19.code∧p_c_19.code = p_c.code) hl1 ⟨[],nilS,_,_,_,rfl,hF.sub ⟨rfl,rfl,rfl,rfl,rfl,trivial⟩,hS.sel [1,0] (by decide),(OwnL.nil (α:=Int) m 3),h1,rfl⟩ ?_ ?_
 ·clear hF hS
  rintro s a w st ⟨q4,s4,out_3,t_5,p_c_6,rfl,hF,hS,h4,h7,h7k⟩ hb1
  unfold spec_l1Cur_values_l1 at hb1
  refine q_seq (q_region (q_x (v:=(.bool (decide (t_5 < (goLen p_s))))) hF hS (ex_ibin rfl rfl rfl) rfl rfl fun a hF=>q_end (n_sq (q_seq ?_))))
  rcases bcase (decide (t_5 < (goLen p_s))) with hc2 | hc2
  ·have hb1:=cond_f hc2 hb1
   refine q_cond_f hF rfl hc2 (q_exit (x_sq ?_))
   obtain rfl:=someI hb1
   exact ⟨nofun,.inl ⟨q4,s4,_,_,rfl,rfl,hF.sub ⟨rfl,trivial⟩,hS,h4,h7,h7k⟩⟩
  ·have hb1:=cond_t hc2 hb1
   refine q_cond_t hF rfl hc2 (q_skipc (n_sq (q_seq (q_block (q_seq (q_region ?_))))))
   obtain ⟨e_8,he_8,hb1⟩:=bindS hb1
   obtain ⟨vs9,at9,d9⟩:=h2.at he_8 2 rfl
   obtain rfl : vs9 = [(strV e_8.Name),(iV e_8.Levels)]:=d9
   refine q_x (v:=(elP s2 (t_5.toNat * 2))) hF hS (ex_indexAddr Try.underlying23 sz85 rfl rfl (h2.idx he_8)) rfl rfl fun a hF=>q_x (v:=(.agg #[(strV e_8.Name),(iV e_8.Levels)])) hF hS (ex_loadEA (us:=[(strV e_8.Name),(iV e_8.Levels)]) 0 Try.underlying85 rfl sz85 rfl ((at9).at) rfl rfl rfl) rfl rfl fun a hF=>q_alloc (cs:=[(strV ([] : List UInt8)),(iV 0)]) hF hS rfl rfl rfl fun a w b10 hF hS=>q_store (vs:=[(strV e_8.Name),(iV e_8.Levels)]) (cs':=[(strV e_8.Name),(iV e_8.Levels)]) 0 0 hF hS sz85 rfl rfl rfl rfl rfl rfl rfl rfl fun a w hF hS=>q_end (n_sq (q_region (q_x (v:=s4.v) hF hS (ex_move rfl) rfl rfl fun a hF=>q_x (v:=(.pointer (some ⟨b_p_c,0,none⟩))) hF hS (ex_move rfl) rfl rfl fun a hF=>q_x (v:=(.pointer (some ⟨b10,1,none⟩))) hF hS (ex_fieldAddr Try.underlying85 rfl sz3 rfl rfl) rfl rfl fun a hF=>q_x (v:=(iV e_8.Levels)) hF hS (ex_load1 0 0 Try.underlying3 rfl rfl rfl rfl) rfl rfl fun a hF=>?_)))
   have hS : St _ _ _ _ [[⟨b_p_c,[s1.v,(iV p_c_6.at_),(.int .u64 p_c_6.seed.v)],64⟩],[⟨b10,[(strV e_8.Name),(iV e_8.Levels)],85⟩],q4]:=hS.sel [2,0,1] (by decide)
   have hS11 : St _ _ _ _ ([[⟨b_p_c,[s1.v,(iV p_c_6.at_),(.int .u64 p_c_6.seed.v)],64⟩]]++[[⟨b10,[(strV e_8.Name),(iV e_8.Levels)],85⟩],q4]):=hS
   have hE11:=hS11.enter
   obtain ⟨t_12,ht_12,hb1⟩:=bindS hb1
   refine q_do rfl fun _ hK=>wp_callX (vs:=[(.pointer (some ⟨b_p_c,0,none⟩)),(iV e_8.Levels)]) hF Try.func40 (by kernel_rfl) rfl rfl rfl (c_spec_l1Cur_pick p_c_6 e_8.Levels t_12 ht_12 _ m b_p_c s1 h7 _ hE11) fun a w _ hR hF=>hK _ _ ?_
   obtain ⟨rfl,hR11,hk13⟩:=hR
   have hS : St _ _ _ _ [[⟨b_p_c,[s1.v,(iV t_12.2.at_),(.int .u64 t_12.2.seed.v)],64⟩],[⟨b10,[(strV e_8.Name),(iV e_8.Levels)],85⟩],q4]:=hS11.leaveF hR11
   have h13 : Rd m s1 t_12.2.code:=by rw [hk13]; exact h7
   refine q_do rfl fun _ hK=>wp_buildSlice' (l:=([t_12.1] : List Int)) (cells:=[(iV t_12.1)]) hF hS Try.underlying24 inf3 rfl rfl (by kernel_rfl) rfl rfl rfl ⟨rfl,rfl⟩ rfl rfl fun a w q14 s14 hF hS h14 _=>hK _ _ ?_
   have hS : St _ _ _ _ [q4,q14,[⟨b_p_c,[s1.v,(iV t_12.2.at_),(.int .u64 t_12.2.seed.v)],64⟩],[⟨b10,[(strV e_8.Name),(iV e_8.Levels)],85⟩]]:=hS.sel [3,0,1,2] (by decide)
   obtain ⟨l_15,hl_15,hb1⟩:=bindS hb1
   refine q_do rfl fun _ hK=>wp_append hF hS h4 Try.underlying24 inf3 rfl rfl rfl rfl (h14.vw hS (j:=1) rfl) rfl (by decide) hl_15 rfl fun a w q16 s16 hF hS h16=>hK _ _ (q_x (v:=s16.v) hF hS (ex_assign rfl) rfl rfl fun a hF=>q_end (n_ib (n_sq (q_region (q_x (v:=(iV (w64 (t_5 + 1)))) hF hS (ex_ibin rfl rfl rfl) rfl rfl fun a hF=>q_x (v:=(iV (w64 (t_5 + 1)))) hF hS (ex_move rfl) rfl rfl fun a hF=>q_end ?_)))))
   obtain rfl:=someI hb1
   exact ⟨rfl,q16,s16,_,_,_,rfl,hF.sub ⟨rfl,rfl,rfl,rfl,rfl,trivial⟩,hS.mask [true,false,true,false],h16,h13,(hk13.trans h7k)⟩
 ·rintro e a w ⟨q18,s18,out_17,p_c_19,rfl,rfl,hF,hS,h18,h20,h20k⟩
  refine x_ib (n_sq ?_)
  refine q_seq (q_region (q_x (v:=s18.v) hF hS (ex_move rfl) rfl rfl fun a hF=>q_x (v:=s18.v) hF hS (ex_assign rfl) rfl rfl fun a hF=>q_end (n_sq (q_ret ?_))))
  obtain rfl:=someI hr
  exact ret_ofX hF hS rfl (.tmp rfl .nil) ⟨q18,s18,rfl,hS.sel [1,0] (by decide),h18,h20k⟩

theorem c_spec_l1Cur_record (p_c : spec_l1Cur) (p_s : List impl_Variable) (p_areas : List Int) (r : impl_Record × spec_l1Cur) (hr : spec_l1Cur_record p_c p_s p_areas = some r) (w0 : World) (m : Mem) (b_p_c : Nat) (s1 : Sl) (h1 : Rd m s1 p_c.code) (s2 : Sl) (h2 : Rd m s2 p_s) (s3 : Sl) (h3 : Rd m s3 p_areas) (X : List Nat) (hS : St X w0 w0 m [[⟨b_p_c,[s1.v,(iV p_c.at_),(.int .u64 p_c.seed.v)],64⟩]]) :
  RetX Try.prog 79 [(.pointer (some ⟨b_p_c,0,none⟩)),s2.v,s3.v] w0 (fun v w=>∃ (q0' : Piece) (s0' : Sl),v = (.agg #[(iV r.1.Area),(iV r.1.House),s0'.v])∧St X w0 w m [[⟨b_p_c,[s1.v,(iV r.2.at_),(.int .u64 r.2.seed.v)],64⟩],q0']∧OwnL m 3 q0' s0' r.1.Values∧r.2.code = p_c.code):=by
 unfold spec_l1Cur_record at hr
 refine ret_startX Try.func79 rfl 16 rfl rfl fun a hF=>q_seq (q_region (q_alloc (cs:=[(iV 0),(iV 0),nilS.v]) hF hS rfl rfl rfl fun a w b4 hF hS=>q_end (n_sq (q_seq (q_region (q_x (v:=(.pointer (some ⟨b_p_c,0,none⟩))) hF hS (ex_move rfl) rfl rfl fun a hF=>q_x (v:=s3.v) hF hS (ex_move rfl) rfl rfl fun a hF=>?_))))))
 have hS : St _ _ _ _ [[⟨b_p_c,[s1.v,(iV p_c.at_),(.int .u64 p_c.seed.v)],64⟩],[⟨b4,[(iV 0),(iV 0),nilS.v],36⟩]]:=hS.sel [1,0] (by decide)
 have hS5 : St _ _ _ _ ([[⟨b_p_c,[s1.v,(iV p_c.at_),(.int .u64 p_c.seed.v)],64⟩]]++[[⟨b4,[(iV 0),(iV 0),nilS.v],36⟩]]):=hS
 have hE5:=hS5.enter
 obtain ⟨t_6,ht_6,hr⟩:=bindS hr
 refine q_do rfl fun _ hK=>wp_callX (vs:=[(.pointer (some ⟨b_p_c,0,none⟩)),s3.v]) hF Try.func69 (by kernel_rfl) rfl rfl rfl (c_spec_l1Cur_among p_c p_areas t_6 ht_6 _ m b_p_c s1 h1 s3 h3 _ hE5) fun a w _ hR hF=>hK _ _ ?_
 obtain ⟨rfl,hR5,hk7⟩:=hR
 have hS : St _ _ _ _ [[⟨b_p_c,[s1.v,(iV t_6.2.at_),(.int .u64 t_6.2.seed.v)],64⟩],[⟨b4,[(iV 0),(iV 0),nilS.v],36⟩]]:=hS5.leaveF hR5
 have h7 : Rd m s1 t_6.2.code:=by rw [hk7]; exact h1
 refine q_x (v:=(.pointer (some ⟨b_p_c,0,none⟩))) hF hS (ex_move rfl) rfl rfl fun a hF=>?_
 have hS8 : St _ _ _ _ ([[⟨b_p_c,[s1.v,(iV t_6.2.at_),(.int .u64 t_6.2.seed.v)],64⟩]]++[[⟨b4,[(iV 0),(iV 0),nilS.v],36⟩]]):=hS
 have hE8:=hS8.enter
 obtain ⟨t_9,ht_9,hr⟩:=bindS hr
 refine q_do rfl fun _ hK=>wp_callX (vs:=[(.pointer (some ⟨b_p_c,0,none⟩)),(iV 6)]) hF Try.func40 (by kernel_rfl) rfl rfl rfl (c_spec_l1Cur_pick t_6.2 6 t_9 ht_9 _ m b_p_c s1 h7 _ hE8) fun a w _ hR hF=>hK _ _ ?_
 obtain ⟨rfl,hR8,hk10⟩:=hR
 have hS : St _ _ _ _ [[⟨b_p_c,[s1.v,(iV t_9.2.at_),(.int .u64 t_9.2.seed.v)],64⟩],[⟨b4,[(iV 0),(iV 0),nilS.v],36⟩]]:=hS8.leaveF hR8
 have h10 : Rd m s1 t_9.2.code:=by rw [hk10]; exact h7
 refine q_x (v:=(.pointer (some ⟨b_p_c,0,none⟩))) hF hS (ex_move rfl) rfl rfl fun a hF=>q_x (v:=s2.v) hF hS (ex_move rfl) rfl rfl fun a hF=>?_
 have hS11 : St _ _ _ _ ([[⟨b_p_c,[s1.v,(iV t_9.2.at_),(.int .u64 t_9.2.seed.v)],64⟩]]++[[⟨b4,[(iV 0),(iV 0),nilS.v],36⟩]]):=hS
 have hE11:=hS11.enter
 obtain ⟨t_12,ht_12,hr⟩:=bindS hr
 refine q_do rfl fun _ hK=>wp_callX (vs:=[(.pointer (some ⟨b_p_c,0,none⟩)),s2.v]) hF Try.func73 (by kernel_rfl) rfl rfl rfl (c_spec_l1Cur_values t_9.2 p_s t_12 ht_12 _ m b_p_c s1 h10 s2 h2 _ hE11) fun a w _ hR hF=>hK _ _ ?_
 obtain ⟨q13,s13,rfl,hR11,h13,hk14⟩:=hR
 have hS : St _ _ _ _ [[⟨b_p_c,[s1.v,(iV t_12.2.at_),(.int .u64 t_12.2.seed.v)],64⟩],q13,[⟨b4,[(iV 0),(iV 0),nilS.v],36⟩]]:=hS11.leaveF hR11
 have h14 : Rd m s1 t_12.2.code:=by rw [hk14]; exact h10
 refine q_x (v:=(.agg #[(iV t_6.1),(iV t_9.1),s13.v])) hF hS (ex_build (cells:=[(iV t_6.1),(iV t_9.1),s13.v]) rfl (by kernel_rfl)) rfl rfl fun a hF=>q_store (vs:=[(iV t_6.1),(iV t_9.1),s13.v]) (cs':=[(iV t_6.1),(iV t_9.1),s13.v]) 2 0 hF hS sz36 rfl rfl rfl rfl rfl rfl rfl rfl fun a w hF hS=>q_end (n_sq (q_ret ?_))
 obtain rfl:=someI hr
 exact ret_ofX hF hS rfl (.cellA (us:=[(iV t_6.1),(iV t_9.1),s13.v]) 2 0 Try.underlying36 rfl sz36 rfl rfl rfl rfl .nil) ⟨q13,s13,rfl,hS.sel [0,1] (by decide),h13,(hk14.trans (hk10.trans hk7))⟩

theorem c_spec_l1Cur_one (p_c : spec_l1Cur) (p_n : Int) (r : Bool × spec_l1Cur) (hr : spec_l1Cur_one p_c p_n = some r) (w0 : World) (m : Mem) (b_p_c : Nat) (s1 : Sl) (h1 : Rd m s1 p_c.code) (X : List Nat) (hS : St X w0 w0 m [[⟨b_p_c,[s1.v,(iV p_c.at_),(.int .u64 p_c.seed.v)],64⟩]]) :
  RetX Try.prog 80 [(.pointer (some ⟨b_p_c,0,none⟩)),(iV p_n)] w0 (fun v w=>v = (.bool r.1)∧St X w0 w m [[⟨b_p_c,[s1.v,(iV r.2.at_),(.int .u64 r.2.seed.v)],64⟩]]∧r.2.code = p_c.code):=by
 unfold spec_l1Cur_one at hr
 refine ret_startX Try.func80 rfl 9 rfl rfl fun a hF=>q_seq (q_region (q_x (v:=(.bool false)) hF hS (ex_assign rfl) rfl rfl fun a hF=>q_end (n_sq (q_seq (q_region (q_x (v:=(.pointer (some ⟨b_p_c,0,none⟩))) hF hS (ex_move rfl) rfl rfl fun a hF=>q_x (v:=(iV p_n)) hF hS (ex_move rfl) rfl rfl fun a hF=>?_))))))
 have hS2 : St _ _ _ _ ([[⟨b_p_c,[s1.v,(iV p_c.at_),(.int .u64 p_c.seed.v)],64⟩]]++[]):=hS
 have hE2:=hS2.enter
 obtain ⟨t_3,ht_3,hr⟩:=bindS hr
 refine q_do rfl fun _ hK=>wp_callX (vs:=[(.pointer (some ⟨b_p_c,0,none⟩)),(iV p_n)]) hF Try.func40 (by kernel_rfl) rfl rfl rfl (c_spec_l1Cur_pick p_c p_n t_3 ht_3 _ m b_p_c s1 h1 _ hE2) fun a w _ hR hF=>hK _ _ ?_
 obtain ⟨rfl,hR2,hk4⟩:=hR
 have hS : St _ _ _ _ [[⟨b_p_c,[s1.v,(iV t_3.2.at_),(.int .u64 t_3.2.seed.v)],64⟩]]:=hS2.leaveF hR2
 have h4 : Rd m s1 t_3.2.code:=by rw [hk4]; exact h1
 refine q_x (v:=(.bool (t_3.1 == 0))) hF hS (ex_ibin rfl rfl rfl) rfl rfl fun a hF=>q_x (v:=(.bool (t_3.1 == 0))) hF hS (ex_assign rfl) rfl rfl fun a hF=>q_end (n_sq (q_ret ?_))
 obtain rfl:=someI hr
 exact ret_ofX hF hS rfl (.tmp rfl .nil) ⟨rfl,hS.sel [0] (by decide),hk4⟩

theorem c_spec_l1Own (p_l : List Int) (r : (List Int)) (hr : spec_l1Own p_l = some r) (w0 : World) (m : Mem) (hv : Vis m w0) (s1 : Sl) (h1 : Rd m s1 p_l) :
  Ret Try.prog 52 [s1.v] w0 (fun v w=>∃ (q0' : Piece) (s0' : Sl),v = s0'.v∧St [] w0 w m [q0']∧OwnL m 3 q0' s0' r):=by
 unfold spec_l1Own at hr
 refine ret_start Try.func52 rfl 6 rfl rfl m hv fun a hF hS=>q_seq (q_region (q_x (v:=nilS.v) hF hS (ex_assign rfl) rfl rfl fun a hF=>q_end (n_sq (q_seq (q_region (q_do rfl fun _ hK=>wp_build0 (α:=Int) hF hS Try.underlying24 inf3 rfl fun a w q2 s2 hF hS h2 _=>hK _ _ (q_x (v:=s1.v) hF hS (ex_move rfl) rfl rfl fun a hF=>?_)))))))
 obtain ⟨l_3,hl_3,hr⟩:=bindS hr
 refine q_do rfl fun _ hK=>wp_append hF hS h2 Try.underlying24 inf3 rfl rfl rfl rfl (h1.vw hS.vis) rfl (by decide) hl_3 rfl fun a w q4 s4 hF hS h4=>hK _ _ (q_x (v:=s4.v) hF hS (ex_assign rfl) rfl rfl fun a hF=>q_end (n_sq (q_ret ?_)))
 obtain rfl:=someI hr
 exact ret_of hF hS rfl (.tmp rfl .nil) ⟨q4,s4,rfl,hS.sel [0] (by decide),h4⟩

theorem c_spec_rOwn (p_r : impl_Record) (r : impl_Record) (hr : spec_rOwn p_r = some r) (w0 : World) (m : Mem) (hv : Vis m w0) (s1 : Sl) (h1 : Rd m s1 p_r.Values) :
  Ret Try.prog 39 [(.agg #[(iV p_r.Area),(iV p_r.House),s1.v])] w0 (fun v w=>∃ (q0' : Piece) (s0' : Sl),v = (.agg #[(iV r.Area),(iV r.House),s0'.v])∧St [] w0 w m [q0']∧OwnL m 3 q0' s0' r.Values):=by
 unfold spec_rOwn at hr
 refine ret_start Try.func39 rfl 11 rfl rfl m hv fun a hF hS=>q_seq (q_region (q_box (cs:=[(iV p_r.Area),(iV p_r.House),s1.v]) hF hS rfl rfl rfl fun a w b2 hF hS=>q_alloc (cs:=[(iV 0),(iV 0),nilS.v]) hF hS rfl rfl rfl fun a w b3 hF hS=>q_end (n_sq (q_seq (e_region ⟨[8],[b2]⟩ mixed fun w' hw'=>?_)))))
 have hS:=hS.below hw'
 refine e_p (v:=(.pointer (some ⟨b2,0,none⟩))) 0 hF rfl (ex_fieldAddr Try.underlying36 rfl sz3 rfl rfl) rfl rfl (by kernel_rfl) (by kernel_rfl) (by kernel_rfl) fun a hF=>e_xb (v:=(iV p_r.Area)) 1 1 hF hS (.head _) rfl rfl (ex_load1 0 0 Try.underlying3 rfl rfl rfl rfl) rfl rfl (by kernel_rfl) (by kernel_rfl) (by kernel_rfl) fun a hF=>e_p (v:=(.pointer (some ⟨b2,1,none⟩))) 2 hF rfl (ex_fieldAddr Try.underlying36 rfl sz3 rfl rfl) rfl rfl (by kernel_rfl) (by kernel_rfl) (by kernel_rfl) fun a hF=>e_xb (v:=(iV p_r.House)) 3 1 hF hS (.head _) rfl rfl (ex_load1 0 0 Try.underlying3 rfl rfl rfl rfl) rfl rfl (by kernel_rfl) (by kernel_rfl) (by kernel_rfl) fun a hF=>e_p (v:=(.pointer (some ⟨b2,2,none⟩))) 4 hF rfl (ex_fieldAddr Try.underlying36 rfl sz24 rfl rfl) rfl rfl (by kernel_rfl) (by kernel_rfl) (by kernel_rfl) fun a hF=>e_xb (v:=s1.v) 5 1 hF hS (.head _) rfl rfl (ex_load1 0 0 Try.underlying24 rfl rfl rfl rfl) rfl rfl (by kernel_rfl) (by kernel_rfl) (by kernel_rfl) fun a hF=>e_one 6 (by kernel_rfl) ?_
 obtain ⟨t_4,ht_4,hr⟩:=bindS hr
 refine e_call (vs:=[s1.v]) hF hS rfl Try.func52 (by kernel_rfl) rfl rfl rfl (c_spec_l1Own p_r.Values t_4 ht_4 _ m hS.vis s1 h1) ?_
 rintro a w _ ⟨q6,s6,rfl,hR5,h6⟩ hF hS2
 have hS : St _ _ _ _ [q6,[⟨b3,[(iV 0),(iV 0),nilS.v],36⟩],[⟨b2,[(iV p_r.Area),(iV p_r.House),s1.v],36⟩]]:=hS.joinF hR5
 refine e_p (v:=(.agg #[(iV p_r.Area),(iV p_r.House),s6.v])) 7 hF rfl (ex_build (cells:=[(iV p_r.Area),(iV p_r.House),s6.v]) rfl (by kernel_rfl)) rfl rfl (by kernel_rfl) (by kernel_rfl) (by kernel_rfl) fun a hF=>e_one 8 (by kernel_rfl) ?_
 have hSo:=hS
 refine e_store (vs:=[(iV p_r.Area),(iV p_r.House),s6.v]) (cs':=[(iV p_r.Area),(iV p_r.House),s6.v]) 1 0 hF hS rfl rfl sz36 rfl rfl rfl rfl rfl rfl rfl rfl fun a w hF hS=>⟨kpC hSo hS 2 2 rfl rfl kpN,?_⟩
 refine e_end (by kernel_rfl) (n_sq (q_ret ?_)) _
 obtain rfl:=someI hr
 exact ret_of hF hS rfl (.cellA (us:=[(iV p_r.Area),(iV p_r.House),s6.v]) 1 0 Try.underlying36 rfl sz36 rfl rfl rfl rfl .nil) ⟨q6,s6,rfl,hS.sel [0] (by decide),h6⟩

theorem c_spec_l1Cur_data (p_c : spec_l1Cur) (p_s : List impl_Variable) (p_areas : List Int) (r : (List impl_Record) × spec_l1Cur) (hr : spec_l1Cur_data p_c p_s p_areas = some r) (w0 : World) (m : Mem) (b_p_c : Nat) (s1 : Sl) (h1 : Rd m s1 p_c.code) (s2 : Sl) (h2 : Rd m s2 p_s) (s3 : Sl) (h3 : Rd m s3 p_areas) (X : List Nat) (hS : St X w0 w0 m [[⟨b_p_c,[s1.v,(iV p_c.at_),(.int .u64 p_c.seed.v)],64⟩]]) :
  RetX Try.prog 72 [(.pointer (some ⟨b_p_c,0,none⟩)),s2.v,s3.v] w0 (fun v w=>∃ (m' : Mem) (q0' : Piece) (s0' : Sl),v = s0'.v∧MLe X w0.heap.size m m'∧St X w0 w m' [[⟨b_p_c,[s1.v,(iV r.2.at_),(.int .u64 r.2.seed.v)],64⟩],q0']∧OwnL m' 36 q0' s0' r.1∧r.2.code = p_c.code):=by
 unfold spec_l1Cur_data at hr
 refine ret_startX Try.func72 rfl 32 rfl rfl fun a hF=>q_seq (q_region (q_x (v:=nilS.v) hF hS (ex_assign rfl) rfl rfl fun a hF=>q_end (n_sq (q_seq (q_region (q_x (v:=nilS.v) hF hS (ex_assign rfl) rfl rfl fun a hF=>q_end (n_sq (q_seq (q_seq (q_region (q_x (v:=(.pointer (some ⟨b_p_c,0,none⟩))) hF hS (ex_move rfl) rfl rfl fun a hF=>?_)))))))))))
 have hS4 : St _ _ _ _ ([[⟨b_p_c,[s1.v,(iV p_c.at_),(.int .u64 p_c.seed.v)],64⟩]]++[]):=hS
 have hE4:=hS4.enter
 obtain ⟨t_5,ht_5,hr⟩:=bindS hr
 refine q_do rfl fun _ hK=>wp_callX (vs:=[(.pointer (some ⟨b_p_c,0,none⟩)),(iV 12)]) hF Try.func40 (by kernel_rfl) rfl rfl rfl (c_spec_l1Cur_pick p_c 12 t_5 ht_5 _ m b_p_c s1 h1 _ hE4) fun a w _ hR hF=>hK _ _ ?_
 obtain ⟨rfl,hR4,hk6⟩:=hR
 have hS : St _ _ _ _ [[⟨b_p_c,[s1.v,(iV t_5.2.at_),(.int .u64 t_5.2.seed.v)],64⟩]]:=hS4.leaveF hR4
 have h6 : Rd m s1 t_5.2.code:=by rw [hk6]; exact h1
 refine q_x (v:=(iV t_5.1)) hF hS (ex_assign rfl) rfl rfl fun a hF=>q_end (n_sq (q_block ?_))
 obtain ⟨o1,hl1,hr⟩:=bindS hr
 refine q_loop (fun (s : (List impl_Record) × Int × spec_l1Cur) a w=>∃ (m12 : Mem),∃ (q8 : Piece),∃ (s8 : Sl),∃ out_7,∃ k_9,∃ p_c_10,s = (out_7,k_9,p_c_10)∧Fr a 32 [(0,(.pointer (some ⟨b_p_c,0,none⟩))),(1,s2.v),(2,s3.v),(7,s8.v),(8,(iV k_9))]∧St X w0 w m12 [q8,[⟨b_p_c,[s1.v,(iV p_c_10.at_),(.int .u64 p_c_10.seed.v)],64⟩]]∧MLe X w0.heap.size m m12∧OwnL m12 36 q8 s8 out_7∧Rd m12 s1 p_c_10.code∧p_c_10.code = p_c.code) (fun (o : (List impl_Record) × spec_l1Cur) e a w=>∃ (m39 : Mem),∃ (q36 : Piece),∃ (s36 : Sl),∃ out_35,∃ p_c_37,o = (out_35,p_c_37)∧e = .exit 0∧Fr a 32 [(7,s36.v)]∧St X w0 w m39 [q36,[⟨b_p_c,[s1.v,(iV p_c_37.at_),(.int .u64 p_c_37.seed.v)],64⟩]]∧MLe X w0.heap.size m m39∧OwnL m39 36 q36 s36 out_35∧Rd m39 s1 p_c_37.code∧p_c_37.code = p_c.code) hl1 ⟨m,[],nilS,_,_,_,rfl,hF.sub ⟨rfl,rfl,rfl,rfl,rfl,trivial⟩,hS.sel [1,0] (by decide),(MLe.refl _ _),(OwnL.nil (α:=impl_Record) m 36),h6,hk6⟩ ?_ ?_
 ·clear hF hS
  rintro s a w st ⟨m12,q8,s8,out_7,k_9,p_c_10,rfl,hF,hS,hm12,h8,h11,h11k⟩ hb1
  unfold spec_l1Cur_data_l1 at hb1
  refine q_seq (q_seq (q_region (q_x (v:=(iV k_9)) hF hS (ex_move rfl) rfl rfl fun a hF=>q_x (v:=(.bool (decide (0 < k_9)))) hF hS (ex_ibin rfl rfl rfl) rfl rfl fun a hF=>q_end (n_sq ?_))))
  rcases bcase (decide (0 < k_9)) with hc2 | hc2
  ·have hb1:=cond_f hc2 hb1
   refine q_cond_f hF rfl hc2 (q_exit (x_sq ?_))
   obtain rfl:=someI hb1
   exact ⟨nofun,.inl ⟨m12,q8,s8,_,_,rfl,rfl,hF.sub ⟨rfl,trivial⟩,hS,hm12,h8,h11,h11k⟩⟩
  ·have hb1:=cond_t hc2 hb1
   refine q_cond_t hF rfl hc2 (q_skipc (n_sq (q_seq (q_block (q_seq (q_region (q_x (v:=(.pointer (some ⟨b_p_c,0,none⟩))) hF hS (ex_move rfl) rfl rfl fun a hF=>q_x (v:=s2.v) hF hS (ex_move rfl) rfl rfl fun a hF=>q_x (v:=s3.v) hF hS (ex_move rfl) rfl rfl fun a hF=>?_)))))))
   have hS : St _ _ _ _ [[⟨b_p_c,[s1.v,(iV p_c_10.at_),(.int .u64 p_c_10.seed.v)],64⟩],q8]:=hS.sel [1,0] (by decide)
   have hS13 : St _ _ _ _ ([[⟨b_p_c,[s1.v,(iV p_c_10.at_),(.int .u64 p_c_10.seed.v)],64⟩]]++[q8]):=hS
   have hE13:=hS13.enter
   obtain ⟨t_14,ht_14,hb1⟩:=bindS hb1
   refine q_do rfl fun _ hK=>wp_callX (vs:=[(.pointer (some ⟨b_p_c,0,none⟩)),s2.v,s3.v]) hF Try.func79 (by kernel_rfl) rfl rfl rfl (c_spec_l1Cur_record p_c_10 p_s p_areas t_14 ht_14 _ m12 b_p_c s1 h11 s2 (h2.mono hm12.le) s3 (h3.mono hm12.le) _ hE13) fun a w _ hR hF=>hK _ _ ?_
   obtain ⟨q15,s15,rfl,hR13,h15,hk16⟩:=hR
   have hS : St _ _ _ _ [[⟨b_p_c,[s1.v,(iV t_14.2.at_),(.int .u64 t_14.2.seed.v)],64⟩],q15,q8]:=hS13.leaveF hR13
   have h16 : Rd m12 s1 t_14.2.code:=by rw [hk16]; exact h11
   refine q_alloc (cs:=[(iV 0),(iV 0),nilS.v]) hF hS rfl rfl rfl fun a w b17 hF hS=>q_store (vs:=[(iV t_14.1.Area),(iV t_14.1.House),s15.v]) (cs':=[(iV t_14.1.Area),(iV t_14.1.House),s15.v]) 0 0 hF hS sz36 rfl rfl rfl rfl rfl rfl rfl rfl fun a w hF hS=>q_end (n_sq (q_seq (q_region (q_x (v:=s8.v) hF hS (ex_move rfl) rfl rfl fun a hF=>q_x (v:=(.agg #[(iV t_14.1.Area),(iV t_14.1.House),s15.v])) hF hS (ex_loadA (vs:=[(iV t_14.1.Area),(iV t_14.1.House),s15.v]) 0 0 Try.underlying36 rfl sz36 rfl rfl rfl rfl) rfl rfl fun a hF=>?_))))
   have hS : St _ _ _ _ [q15,[⟨b17,[(iV t_14.1.Area),(iV t_14.1.House),s15.v],36⟩],[⟨b_p_c,[s1.v,(iV t_14.2.at_),(.int .u64 t_14.2.seed.v)],64⟩],q8]:=hS.sel [2,0,1,3] (by decide)
   obtain ⟨m19,hm19,hS,hz19⟩:=hS.freeze
   have h19:=h15.froz hm19.le hz19
   refine q_do rfl fun _ hK=>wp_buildSlice' (l:=([t_14.1] : List impl_Record)) (cells:=[(iV t_14.1.Area),(iV t_14.1.House),s15.v]) hF hS Try.underlying27 inf36 rfl rfl (by kernel_rfl) rfl rfl rfl ⟨⟨s15,rfl,h19⟩,rfl⟩ rfl rfl fun a w q18 s18 hF hS h18 _=>hK _ _ ?_
   have hS : St _ _ _ _ [q8,q18,[⟨b17,[(iV t_14.1.Area),(iV t_14.1.House),s15.v],36⟩],[⟨b_p_c,[s1.v,(iV t_14.2.at_),(.int .u64 t_14.2.seed.v)],64⟩]]:=hS.sel [3,0,1,2] (by decide)
   obtain ⟨l_20,hl_20,hb1⟩:=bindS hb1
   refine q_do rfl fun _ hK=>wp_append hF hS (h8.mono hm19.le) Try.underlying27 inf36 rfl rfl rfl rfl (h18.vw hS (j:=1) rfl) rfl (by decide) hl_20 rfl fun a w q21 s21 hF hS h21=>hK _ _ (q_x (v:=s21.v) hF hS (ex_assign rfl) rfl rfl fun a hF=>q_end (n_sq (q_seq (q_region (q_x (v:=(.pointer (some ⟨b_p_c,0,none⟩))) hF hS (ex_move rfl) rfl rfl fun a hF=>?_)))))
   have hS : St _ _ _ _ [[⟨b_p_c,[s1.v,(iV t_14.2.at_),(.int .u64 t_14.2.seed.v)],64⟩],q21,q18,[⟨b17,[(iV t_14.1.Area),(iV t_14.1.House),s15.v],36⟩]]:=hS.sel [3,0,1,2] (by decide)
   have hS22 : St _ _ _ _ ([[⟨b_p_c,[s1.v,(iV t_14.2.at_),(.int .u64 t_14.2.seed.v)],64⟩]]++[q21,q18,[⟨b17,[(iV t_14.1.Area),(iV t_14.1.House),s15.v],36⟩]]):=hS
   have hE22:=hS22.enter
   obtain ⟨t_23,ht_23,hb1⟩:=bindS hb1
   refine q_do rfl fun _ hK=>wp_callX (vs:=[(.pointer (some ⟨b_p_c,0,none⟩)),(iV 4)]) hF Try.func80 (by kernel_rfl) rfl rfl rfl (c_spec_l1Cur_one t_14.2 4 t_23 ht_23 _ m19 b_p_c s1 (h16.mono hm19.le) _ hE22) fun a w _ hR hF=>hK _ _ ?_
   obtain ⟨rfl,hR22,hk24⟩:=hR
   have hS : St _ _ _ _ [[⟨b_p_c,[s1.v,(iV t_23.2.at_),(.int .u64 t_23.2.seed.v)],64⟩],q21,q18,[⟨b17,[(iV t_14.1.Area),(iV t_14.1.House),s15.v],36⟩]]:=hS22.leaveF hR22
   have h24 : Rd m19 s1 t_23.2.code:=by rw [hk24]; exact (h16.mono hm19.le)
   refine q_end (n_sq ?_)
   obtain ⟨out_32,hj3,hb1⟩:=bindS hb1
   refine q_join (fun a w=>∃ (m34 : Mem),∃ (q33 : Piece),∃ (s33 : Sl),Fr a 32 [(0,(.pointer (some ⟨b_p_c,0,none⟩))),(1,s2.v),(2,s3.v),(7,s33.v),(8,(iV k_9))]∧St X w0 w m34 [q33,[⟨b_p_c,[s1.v,(iV t_23.2.at_),(.int .u64 t_23.2.seed.v)],64⟩]]∧MLe X w0.heap.size m19 m34∧OwnL m34 36 q33 s33 out_32) ?_ ?_
   ·rcases bcase (t_23.1) with hc4 | hc4
    ·have hj3:=cond_f hc4 hj3
     refine q_cond_f hF rfl hc4 (q_skipc (n_jn ?_))
     obtain rfl:=someI hj3
     exact ⟨m19,q21,s21,hF.sub ⟨rfl,rfl,rfl,rfl,rfl,trivial⟩,hS.sel [1,0] (by decide),(MLe.refl _ _),h21⟩
    ·have hj3:=cond_t hc4 hj3
     refine q_cond_t hF rfl hc4 (q_region (q_x (v:=s21.v) hF hS (ex_move rfl) rfl rfl fun a hF=>q_x (v:=(.agg #[(iV t_14.1.Area),(iV t_14.1.House),s15.v])) hF hS (ex_loadA (vs:=[(iV t_14.1.Area),(iV t_14.1.House),s15.v]) 3 0 Try.underlying36 rfl sz36 rfl rfl rfl rfl) rfl rfl fun a hF=>?_))
     obtain ⟨t_25,ht_25,hj3⟩:=bindS hj3
     refine q_call (vs:=[(.agg #[(iV t_14.1.Area),(iV t_14.1.House),s15.v])]) hF hS Try.func39 (by kernel_rfl) rfl rfl rfl (c_spec_rOwn t_14.1 t_25 ht_25 _ m19 hS.vis s15 h19) ?_
     rintro a w _ ⟨q27,s27,rfl,hR26,h27⟩ hF hS2
     have hS : St _ _ _ _ [q27,[⟨b_p_c,[s1.v,(iV t_23.2.at_),(.int .u64 t_23.2.seed.v)],64⟩],q21,q18,[⟨b17,[(iV t_14.1.Area),(iV t_14.1.House),s15.v],36⟩]]:=hS.joinF hR26
     obtain ⟨m29,hm29,hS,hz29⟩:=hS.freeze
     have h29:=h27.froz hm29.le hz29
     refine q_do rfl fun _ hK=>wp_buildSlice' (l:=([t_25] : List impl_Record)) (cells:=[(iV t_25.Area),(iV t_25.House),s27.v]) hF hS Try.underlying27 inf36 rfl rfl (by kernel_rfl) rfl rfl rfl ⟨⟨s27,rfl,h29⟩,rfl⟩ rfl rfl fun a w q28 s28 hF hS h28 _=>hK _ _ ?_
     have hS : St _ _ _ _ [q21,q28,[⟨b_p_c,[s1.v,(iV t_23.2.at_),(.int .u64 t_23.2.seed.v)],64⟩],q18,[⟨b17,[(iV t_14.1.Area),(iV t_14.1.House),s15.v],36⟩]]:=hS.sel [2,0,1,3,4] (by decide)
     obtain ⟨l_30,hl_30,hj3⟩:=bindS hj3
     refine q_do rfl fun _ hK=>wp_append hF hS (h21.mono hm29.le) Try.underlying27 inf36 rfl rfl rfl rfl (h28.vw hS (j:=1) rfl) rfl (by decide) hl_30 rfl fun a w q31 s31 hF hS h31=>hK _ _ (q_x (v:=s31.v) hF hS (ex_assign rfl) rfl rfl fun a hF=>q_end (n_jn ?_))
     obtain rfl:=someI hj3
     exact ⟨m29,q31,s31,hF.sub ⟨rfl,rfl,rfl,rfl,rfl,trivial⟩,hS.mask [true,false,true,false,false],hm29,h31⟩
   ·rintro a w ⟨m34,q33,s33,hF,hS,hm34,h33⟩
    refine n_ib (n_sq ?_)
    refine q_region (q_x (v:=(iV k_9)) hF hS (ex_move rfl) rfl rfl fun a hF=>q_x (v:=(iV (w64 (k_9 - 1)))) hF hS (ex_ibin rfl rfl rfl) rfl rfl fun a hF=>q_x (v:=(iV (w64 (k_9 - 1)))) hF hS (ex_assign rfl) rfl rfl fun a hF=>q_end ?_)
    obtain rfl:=someI hb1
    exact ⟨rfl,m34,q33,s33,_,_,_,rfl,hF.sub ⟨rfl,rfl,rfl,rfl,rfl,trivial⟩,hS,((hm12.trans hm19).trans hm34),h33,(h24.mono hm34.le),(hk24.trans (hk16.trans h11k))⟩
 ·rintro e a w ⟨m39,q36,s36,out_35,p_c_37,rfl,rfl,hF,hS,hm39,h36,h38,h38k⟩
  refine x_ib (n_sq ?_)
  refine q_seq (q_region (q_x (v:=s36.v) hF hS (ex_move rfl) rfl rfl fun a hF=>q_x (v:=s36.v) hF hS (ex_assign rfl) rfl rfl fun a hF=>q_end (n_sq (q_ret ?_))))
  obtain rfl:=someI hr
  exact ret_ofX hF hS rfl (.tmp rfl .nil) ⟨m39,q36,s36,rfl,hm39,hS.sel [1,0] (by decide),h36,h38k⟩

theorem c_spec_l1Cur_anyValues (p_c : spec_l1Cur) (p_s : List impl_Variable) (r : (List Int) × spec_l1Cur) (hr : spec_l1Cur_anyValues p_c p_s = some r) (w0 : World) (m : Mem) (b_p_c : Nat) (s1 : Sl) (h1 : Rd m s1 p_c.code) (s2 : Sl) (h2 : Rd m s2 p_s) (X : List Nat) (hS : St X w0 w0 m [[⟨b_p_c,[s1.v,(iV p_c.at_),(.int .u64 p_c.seed.v)],64⟩]]) :
  RetX Try.prog 45 [(.pointer (some ⟨b_p_c,0,none⟩)),s2.v] w0 (fun v w=>∃ (q0' : Piece) (s0' : Sl),v = s0'.v∧St X w0 w m [[⟨b_p_c,[s1.v,(iV r.2.at_),(.int .u64 r.2.seed.v)],64⟩],q0']∧OwnL m 3 q0' s0' r.1∧r.2.code = p_c.code):=by
 unfold spec_l1Cur_anyValues at hr
 refine ret_startX Try.func45 rfl 33 rfl rfl fun a hF=>q_seq (q_region (q_x (v:=nilS.v) hF hS (ex_assign rfl) rfl rfl fun a hF=>q_end (n_sq (q_seq (q_region (q_x (v:=(.pointer (some ⟨b_p_c,0,none⟩))) hF hS (ex_move rfl) rfl rfl fun a hF=>q_x (v:=s2.v) hF hS (ex_move rfl) rfl rfl fun a hF=>?_))))))
 have hS3 : St _ _ _ _ ([[⟨b_p_c,[s1.v,(iV p_c.at_),(.int .u64 p_c.seed.v)],64⟩]]++[]):=hS
 have hE3:=hS3.enter
 obtain ⟨t_4,ht_4,hr⟩:=bindS hr
 refine q_do rfl fun _ hK=>wp_callX (vs:=[(.pointer (some ⟨b_p_c,0,none⟩)),s2.v]) hF Try.func73 (by kernel_rfl) rfl rfl rfl (c_spec_l1Cur_values p_c p_s t_4 ht_4 _ m b_p_c s1 h1 s2 h2 _ hE3) fun a w _ hR hF=>hK _ _ ?_
 obtain ⟨q5,s5,rfl,hR3,h5,hk6⟩:=hR
 have hS : St _ _ _ _ [[⟨b_p_c,[s1.v,(iV t_4.2.at_),(.int .u64 t_4.2.seed.v)],64⟩],q5]:=hS3.leaveF hR3
 have h6 : Rd m s1 t_4.2.code:=by rw [hk6]; exact h1
 refine q_x (v:=s5.v) hF hS (ex_assign rfl) rfl rfl fun a hF=>q_end (n_sq (q_seq (q_block (q_seq ?_))))
 obtain ⟨j1,hj1,hr⟩:=bindS hr
 refine q_join (fun a w=>∃ t_10,∃ p_c_11,j1 = (t_10,p_c_11)∧Fr a 33 [(0,(.pointer (some ⟨b_p_c,0,none⟩))),(5,s5.v),(9,(.bool t_10))]∧St X w0 w m [q5,[⟨b_p_c,[s1.v,(iV p_c_11.at_),(.int .u64 p_c_11.seed.v)],64⟩]]∧Rd m s1 p_c_11.code∧p_c_11.code = p_c.code) ?_ ?_
 ·refine q_region (q_x (v:=s5.v) hF hS (ex_move rfl) rfl rfl fun a hF=>q_x (v:=(iV (goLen t_4.1))) hF hS (ex_len Try.underlying24 rfl h5.len) rfl rfl fun a hF=>q_x (v:=(.bool (decide (0 < (goLen t_4.1))))) hF hS (ex_ibin rfl rfl rfl) rfl rfl fun a hF=>q_x (v:=(.bool (decide (0 < (goLen t_4.1))))) hF hS (ex_move rfl) rfl rfl fun a hF=>?_)
  rcases bcase (decide (0 < (goLen t_4.1))) with hc2 | hc2
  ·have hj1:=cond_f hc2 hj1
   refine q_skip hF (wanted_f hF rfl rfl rfl hc2 rfl) rfl fun a hF=>q_skip hF (wanted_f hF rfl rfl rfl hc2 rfl) rfl fun a hF=>q_x (v:=(.bool false)) hF hS (ex_pick_f rfl rfl hc2) rfl rfl fun a hF=>q_x (v:=(.bool false)) hF hS (ex_assign rfl) rfl rfl fun a hF=>q_end (n_jn ?_)
   obtain rfl:=someI hj1
   exact ⟨_,_,rfl,hF.sub ⟨rfl,rfl,rfl,trivial⟩,hS.sel [1,0] (by decide),h6,hk6⟩
  ·have hj1:=cond_t hc2 hj1
   refine q_xg (v:=(.pointer (some ⟨b_p_c,0,none⟩))) hF hS (ex_move rfl) (wanted_t hF rfl rfl rfl hc2) rfl fun a hF=>?_
   have hS7 : St _ _ _ _ ([[⟨b_p_c,[s1.v,(iV t_4.2.at_),(.int .u64 t_4.2.seed.v)],64⟩]]++[q5]):=hS
   have hE7:=hS7.enter
   obtain ⟨t_8,ht_8,hj1⟩:=bindS hj1
   refine q_dog (wanted_t hF rfl rfl rfl hc2) fun _ hK=>wp_callX (vs:=[(.pointer (some ⟨b_p_c,0,none⟩)),(iV 16)]) hF Try.func80 (by kernel_rfl) rfl rfl rfl (c_spec_l1Cur_one t_4.2 16 t_8 ht_8 _ m b_p_c s1 h6 _ hE7) fun a w _ hR hF=>hK _ _ ?_
   obtain ⟨rfl,hR7,hk9⟩:=hR
   have hS : St _ _ _ _ [[⟨b_p_c,[s1.v,(iV t_8.2.at_),(.int .u64 t_8.2.seed.v)],64⟩],q5]:=hS7.leaveF hR7
   have h9 : Rd m s1 t_8.2.code:=by rw [hk9]; exact h6
   refine q_x (v:=(.bool t_8.1)) hF hS (ex_pick_t rfl rfl hc2) rfl rfl fun a hF=>q_x (v:=(.bool t_8.1)) hF hS (ex_assign rfl) rfl rfl fun a hF=>q_end (n_jn ?_)
   obtain rfl:=someI hj1
   exact ⟨_,_,rfl,hF.sub ⟨rfl,rfl,rfl,trivial⟩,hS.sel [1,0] (by decide),h9,(hk9.trans hk6)⟩
 ·rintro a w ⟨t_10,p_c_11,rfl,hF,hS,h12,h12k⟩
  refine n_sq ?_
  obtain ⟨j3,hj3,hr⟩:=bindS hr
  refine q_join (fun a w=>∃ (q30 : Piece),∃ out_29,∃ p_c_31,j3 = .inl (out_29,p_c_31)∧Fr a 33 [(5,s5.v)]∧St X w0 w m [q30,[⟨b_p_c,[s1.v,(iV p_c_31.at_),(.int .u64 p_c_31.seed.v)],64⟩]]∧OwnL m 3 q30 s5 out_29∧Rd m s1 p_c_31.code∧p_c_31.code = p_c.code) ?_ ?_
  ·rcases bcase (t_10) with hc4 | hc4
   ·have hj3:=cond_f hc4 hj3
    refine q_cond_f hF rfl hc4 (q_seq (q_region (q_x (v:=(.pointer (some ⟨b_p_c,0,none⟩))) hF hS (ex_move rfl) rfl rfl fun a hF=>?_)))
    have hS : St _ _ _ _ [[⟨b_p_c,[s1.v,(iV p_c_11.at_),(.int .u64 p_c_11.seed.v)],64⟩],q5]:=hS.sel [1,0] (by decide)
    have hS13 : St _ _ _ _ ([[⟨b_p_c,[s1.v,(iV p_c_11.at_),(.int .u64 p_c_11.seed.v)],64⟩]]++[q5]):=hS
    have hE13:=hS13.enter
    obtain ⟨t_14,ht_14,hj3⟩:=bindS hj3
    refine q_do rfl fun _ hK=>wp_callX (vs:=[(.pointer (some ⟨b_p_c,0,none⟩)),(iV 24)]) hF Try.func80 (by kernel_rfl) rfl rfl rfl (c_spec_l1Cur_one p_c_11 24 t_14 ht_14 _ m b_p_c s1 h12 _ hE13) fun a w _ hR hF=>hK _ _ ?_
    obtain ⟨rfl,hR13,hk15⟩:=hR
    have hS : St _ _ _ _ [[⟨b_p_c,[s1.v,(iV t_14.2.at_),(.int .u64 t_14.2.seed.v)],64⟩],q5]:=hS13.leaveF hR13
    have h15 : Rd m s1 t_14.2.code:=by rw [hk15]; exact h12
    refine q_x (v:=(.bool t_14.1)) hF hS (ex_assign rfl) rfl rfl fun a hF=>q_end (n_sq ?_)
    rcases bcase (t_14.1) with hc5 | hc5
    ·have hj3:=cond_f hc5 hj3
     refine q_cond_f hF rfl hc5 (q_skipc (n_jn ?_))
     obtain rfl:=someI hj3
     exact ⟨q5,_,_,rfl,hF.sub ⟨rfl,trivial⟩,hS.sel [1,0] (by decide),h5,h15,(hk15.trans h12k)⟩
    ·have hj3:=cond_t hc5 hj3
     refine q_cond_t hF rfl hc5 (q_seq (q_region (q_x (v:=s5.v) hF hS (ex_move rfl) rfl rfl fun a hF=>q_do rfl fun _ hK=>wp_buildSlice' (l:=([0] : List Int)) (cells:=[(iV 0)]) hF hS Try.underlying24 inf3 rfl rfl (by kernel_rfl) rfl rfl rfl ⟨rfl,rfl⟩ rfl rfl fun a w q16 s16 hF hS h16 _=>hK _ _ ?_)))
     have hS : St _ _ _ _ [q5,q16,[⟨b_p_c,[s1.v,(iV t_14.2.at_),(.int .u64 t_14.2.seed.v)],64⟩]]:=hS.sel [2,0,1] (by decide)
     obtain ⟨l_17,hl_17,hj3⟩:=bindS hj3
     refine q_do rfl fun _ hK=>wp_append hF hS h5 Try.underlying24 inf3 rfl rfl rfl rfl (h16.vw hS (j:=1) rfl) rfl (by decide) hl_17 rfl fun a w q18 s18 hF hS h18=>hK _ _ (q_x (v:=s18.v) hF hS (ex_assign rfl) rfl rfl fun a hF=>q_end (n_sq (q_ret (r_jn ?_))))
     obtain rfl:=someI hj3
     refine r_ib (r_sq ?_)
     obtain rfl:=someI hr
     exact ret_ofX hF hS rfl (.tmp rfl .nil) ⟨q18,s18,rfl,hS.sel [2,0] (by decide),h18,(hk15.trans h12k)⟩
   ·have hj3:=cond_t hc4 hj3
    refine q_cond_t hF rfl hc4 (q_region (q_x (v:=s5.v) hF hS (ex_move rfl) rfl rfl fun a hF=>q_x (v:=(.pointer (some ⟨b_p_c,0,none⟩))) hF hS (ex_move rfl) rfl rfl fun a hF=>q_x (v:=s5.v) hF hS (ex_move rfl) rfl rfl fun a hF=>q_x (v:=(iV (goLen t_4.1))) hF hS (ex_len Try.underlying24 rfl h5.len) rfl rfl fun a hF=>?_))
    have hS : St _ _ _ _ [[⟨b_p_c,[s1.v,(iV p_c_11.at_),(.int .u64 p_c_11.seed.v)],64⟩],q5]:=hS.sel [1,0] (by decide)
    have hS19 : St _ _ _ _ ([[⟨b_p_c,[s1.v,(iV p_c_11.at_),(.int .u64 p_c_11.seed.v)],64⟩]]++[q5]):=hS
    have hE19:=hS19.enter
    obtain ⟨t_20,ht_20,hj3⟩:=bindS hj3
    refine q_do rfl fun _ hK=>wp_callX (vs:=[(.pointer (some ⟨b_p_c,0,none⟩)),(iV (goLen t_4.1))]) hF Try.func40 (by kernel_rfl) rfl rfl rfl (c_spec_l1Cur_pick p_c_11 (goLen t_4.1) t_20 ht_20 _ m b_p_c s1 h12 _ hE19) fun a w _ hR hF=>hK _ _ ?_
    obtain ⟨rfl,hR19,hk21⟩:=hR
    have hS : St _ _ _ _ [[⟨b_p_c,[s1.v,(iV t_20.2.at_),(.int .u64 t_20.2.seed.v)],64⟩],q5]:=hS19.leaveF hR19
    have h21 : Rd m s1 t_20.2.code:=by rw [hk21]; exact h12
    refine q_x (v:=(.pointer (some ⟨b_p_c,0,none⟩))) hF hS (ex_move rfl) rfl rfl fun a hF=>q_do rfl fun _ hK=>wp_buildSlice' (l:=([-1,2,8] : List Int)) (cells:=[(iV (-1)),(iV 2),(iV 8)]) hF hS Try.underlying24 inf3 rfl rfl (by kernel_rfl) rfl rfl rfl ⟨rfl,rfl,rfl,rfl⟩ rfl rfl fun a w q22 s22 hF hS h22 _=>hK _ _ ?_
    have hS : St _ _ _ _ [[⟨b_p_c,[s1.v,(iV t_20.2.at_),(.int .u64 t_20.2.seed.v)],64⟩],q22,q5]:=hS.sel [1,0,2] (by decide)
    have hS23 : St _ _ _ _ ([[⟨b_p_c,[s1.v,(iV t_20.2.at_),(.int .u64 t_20.2.seed.v)],64⟩]]++[q22,q5]):=hS
    obtain ⟨m23,hl23,hE23,hz23⟩:=hS23.lendX
    obtain ⟨t_24,ht_24,hj3⟩:=bindS hj3
    refine q_do rfl fun _ hK=>wp_callX (vs:=[(.pointer (some ⟨b_p_c,0,none⟩)),s22.v]) hF Try.func69 (by kernel_rfl) rfl rfl rfl (c_spec_l1Cur_among t_20.2 ([-1,2,8] : List Int) t_24 ht_24 _ m23 b_p_c s1 (h21.mono hl23) s22 (h22.froz hl23 (hz23 0 _ rfl)) _ hE23) fun a w _ hR hF=>hK _ _ ?_
    obtain ⟨rfl,hR23,hk25⟩:=hR
    have hS : St _ _ _ _ [[⟨b_p_c,[s1.v,(iV t_24.2.at_),(.int .u64 t_24.2.seed.v)],64⟩],q22,q5]:=hS23.leaveF hR23
    have h25 : Rd m s1 t_24.2.code:=by rw [hk25]; exact h21
    obtain ⟨e_26,he_26,hj3⟩:=bindS hj3
    obtain ⟨vs27,at27,d27⟩:=h5.at he_26 1 rfl
    obtain rfl : vs27 = [(iV e_26)]:=d27
    refine q_x (v:=(elP s5 (t_20.1.toNat * 1))) hF hS (ex_indexAddr Try.underlying24 sz3 rfl rfl (h5.idx he_26)) rfl rfl fun a hF=>?_
    have hS : St _ _ _ _ [q5,[⟨b_p_c,[s1.v,(iV t_24.2.at_),(.int .u64 t_24.2.seed.v)],64⟩],q22]:=hS.sel [2,0,1] (by decide)
    refine q_do rfl fun _ hK=>wp_storeE (e':=t_24.1) (us:=[(iV t_24.1)]) (vs:=[(iV e_26)]) 0 hF hS h5 sz3 rfl rfl rfl rfl rfl rfl rfl he_26 at27 rfl rfl rfl fun w q28 hS h28=>hK _ _ (q_end (n_jn ?_))
    obtain rfl:=someI hj3
    exact ⟨q28,_,_,rfl,hF.sub ⟨rfl,trivial⟩,hS.mask [true,true,false],h28,h25,(hk25.trans (hk21.trans h12k))⟩
  ·rintro a w ⟨q30,out_29,p_c_31,rfl,hF,hS,h30,h32,h32k⟩
   refine n_ib (n_sq ?_)
   refine q_seq (q_region (q_x (v:=s5.v) hF hS (ex_move rfl) rfl rfl fun a hF=>q_x (v:=s5.v) hF hS (ex_assign rfl) rfl rfl fun a hF=>q_end (n_sq (q_ret ?_))))
   obtain rfl:=someI hr
   exact ret_ofX hF hS rfl (.tmp rfl .nil) ⟨q30,s5,rfl,hS.sel [1,0] (by decide),h30,h32k⟩

theorem c_spec_l1Cur_anyData (p_c : spec_l1Cur) (p_s : List impl_Variable) (r : (List impl_Record) × spec_l1Cur) (hr : spec_l1Cur_anyData p_c p_s = some r) (w0 : World) (m : Mem) (b_p_c : Nat) (s1 : Sl) (h1 : Rd m s1 p_c.code) (s2 : Sl) (h2 : Rd m s2 p_s) (X : List Nat) (hS : St X w0 w0 m [[⟨b_p_c,[s1.v,(iV p_c.at_),(.int .u64 p_c.seed.v)],64⟩]]) :
  RetX Try.prog 32 [(.pointer (some ⟨b_p_c,0,none⟩)),s2.v] w0 (fun v w=>∃ (m' : Mem) (q0' : Piece) (s0' : Sl),v = s0'.v∧MLe X w0.heap.size m m'∧St X w0 w m' [[⟨b_p_c,[s1.v,(iV r.2.at_),(.int .u64 r.2.seed.v)],64⟩],q0']∧OwnL m' 36 q0' s0' r.1∧r.2.code = p_c.code):=by
 unfold spec_l1Cur_anyData at hr
 refine ret_startX Try.func32 rfl 43 rfl rfl fun a hF=>q_seq (q_region (q_x (v:=nilS.v) hF hS (ex_assign rfl) rfl rfl fun a hF=>q_end (n_sq (q_seq (q_region (q_x (v:=(.pointer (some ⟨b_p_c,0,none⟩))) hF hS (ex_move rfl) rfl rfl fun a hF=>q_x (v:=s2.v) hF hS (ex_move rfl) rfl rfl fun a hF=>q_do rfl fun _ hK=>wp_buildSlice' (l:=([0,1,2,3] : List Int)) (cells:=[(iV 0),(iV 1),(iV 2),(iV 3)]) hF hS Try.underlying24 inf3 rfl rfl (by kernel_rfl) rfl rfl rfl ⟨rfl,rfl,rfl,rfl,rfl⟩ rfl rfl fun a w q3 s3 hF hS h3 _=>hK _ _ ?_))))))
 obtain ⟨m4,hm4,hS,hz4⟩:=hS.freeze
 have h4:=h3.froz hm4.le hz4
 have hS5 : St _ _ _ _ ([[⟨b_p_c,[s1.v,(iV p_c.at_),(.int .u64 p_c.seed.v)],64⟩]]++[]):=hS
 have hE5:=hS5.enter
 obtain ⟨t_6,ht_6,hr⟩:=bindS hr
 refine q_do rfl fun _ hK=>wp_callX (vs:=[(.pointer (some ⟨b_p_c,0,none⟩)),s2.v,s3.v]) hF Try.func72 (by kernel_rfl) rfl rfl rfl (c_spec_l1Cur_data p_c p_s ([0,1,2,3] : List Int) t_6 ht_6 _ m4 b_p_c s1 (h1.mono hm4.le) s2 (h2.mono hm4.le) s3 h4 _ hE5) fun a w _ hR hF=>hK _ _ ?_
 obtain ⟨m5',q7,s7,rfl,hm5,hR5,h7,hk8⟩:=hR
 have hS : St _ _ _ _ [[⟨b_p_c,[s1.v,(iV t_6.2.at_),(.int .u64 t_6.2.seed.v)],64⟩],q7]:=hS5.leave hR5 hm5
 have hm5:=MLe.weakX hS5 hm5
 have h8 : Rd m5' s1 t_6.2.code:=by rw [hk8]; exact ((h1.mono hm4.le).mono hm5.le)
 refine q_x (v:=s7.v) hF hS (ex_assign rfl) rfl rfl fun a hF=>q_end (n_sq (q_seq (q_seq (q_region (q_x (v:=(.pointer (some ⟨b_p_c,0,none⟩))) hF hS (ex_move rfl) rfl rfl fun a hF=>?_)))))
 have hS9 : St _ _ _ _ ([[⟨b_p_c,[s1.v,(iV t_6.2.at_),(.int .u64 t_6.2.seed.v)],64⟩]]++[q7]):=hS
 have hE9:=hS9.enter
 obtain ⟨t_10,ht_10,hr⟩:=bindS hr
 refine q_do rfl fun _ hK=>wp_callX (vs:=[(.pointer (some ⟨b_p_c,0,none⟩)),(iV 24)]) hF Try.func40 (by kernel_rfl) rfl rfl rfl (c_spec_l1Cur_pick t_6.2 24 t_10 ht_10 _ m5' b_p_c s1 h8 _ hE9) fun a w _ hR hF=>hK _ _ ?_
 obtain ⟨rfl,hR9,hk11⟩:=hR
 have hS : St _ _ _ _ [[⟨b_p_c,[s1.v,(iV t_10.2.at_),(.int .u64 t_10.2.seed.v)],64⟩],q7]:=hS9.leaveF hR9
 have h11 : Rd m5' s1 t_10.2.code:=by rw [hk11]; exact h8
 refine q_end (n_sq (q_block (q_seq (q_region (q_x (v:=(.bool (t_10.1 == 0))) hF hS (ex_ibin rfl rfl rfl) rfl rfl fun a hF=>q_x (v:=(.bool (t_10.1 == 0))) hF hS (ex_assign rfl) rfl rfl fun a hF=>q_end (n_sq ?_))))))
 obtain ⟨j1,hj1,hr⟩:=bindS hr
 refine q_join (fun a w=>∃ (m58 : Mem),∃ (q55 : Piece),∃ (s55 : Sl),∃ out_54,∃ p_c_56,j1 = (out_54,p_c_56)∧Fr a 43 [(5,s55.v)]∧St X w0 w m58 [q55,[⟨b_p_c,[s1.v,(iV p_c_56.at_),(.int .u64 p_c_56.seed.v)],64⟩]]∧MLe X w0.heap.size m5' m58∧OwnL m58 36 q55 s55 out_54∧Rd m58 s1 p_c_56.code∧p_c_56.code = p_c.code) ?_ ?_
 ·rcases bcase (t_10.1 == 0) with hc2 | hc2
  ·have hj1:=cond_f hc2 hj1
   refine q_cond_f hF rfl hc2 (q_seq (q_region (q_x (v:=(.bool (t_10.1 == 1))) hF hS (ex_ibin rfl rfl rfl) rfl rfl fun a hF=>q_x (v:=(.bool (t_10.1 == 1))) hF hS (ex_assign rfl) rfl rfl fun a hF=>q_end (n_sq ?_))))
   obtain ⟨j3,hj3,hj1⟩:=bindS hj1
   refine q_join (fun a w=>∃ (m37 : Mem),∃ (q34 : Piece),∃ (s34 : Sl),∃ out_33,∃ p_c_35,j3 = (out_33,p_c_35)∧Fr a 43 [(5,s34.v)]∧St X w0 w m37 [q34,[⟨b_p_c,[s1.v,(iV p_c_35.at_),(.int .u64 p_c_35.seed.v)],64⟩]]∧MLe X w0.heap.size m5' m37∧OwnL m37 36 q34 s34 out_33∧Rd m37 s1 p_c_35.code∧p_c_35.code = p_c.code) ?_ ?_
   ·rcases bcase (t_10.1 == 1) with hc4 | hc4
    ·have hj3:=cond_f hc4 hj3
     refine q_cond_f hF rfl hc4 (q_skipc (n_jn ?_))
     obtain rfl:=someI hj3
     exact ⟨m5',q7,s7,_,_,rfl,hF.sub ⟨rfl,trivial⟩,hS.sel [1,0] (by decide),(MLe.refl _ _),h7,h11,(hk11.trans hk8)⟩
    ·have hj3:=cond_t hc4 hj3
     refine q_cond_t hF rfl hc4 (q_block ?_)
     obtain ⟨o5,hl5,hj3⟩:=bindS hj3
     refine q_loop (fun (s : (List impl_Record) × spec_l1Cur) a w=>∃ (m16 : Mem),∃ (q13 : Piece),∃ (s13 : Sl),∃ out_12,∃ p_c_14,s = (out_12,p_c_14)∧Fr a 43 [(0,(.pointer (some ⟨b_p_c,0,none⟩))),(1,s2.v),(5,s13.v)]∧St X w0 w m16 [q13,[⟨b_p_c,[s1.v,(iV p_c_14.at_),(.int .u64 p_c_14.seed.v)],64⟩]]∧MLe X w0.heap.size m5' m16∧OwnL m16 36 q13 s13 out_12∧Rd m16 s1 p_c_14.code∧p_c_14.code = p_c.code) (fun (o : (List impl_Record) × spec_l1Cur) e a w=>∃ (m32 : Mem),∃ (q29 : Piece),∃ (s29 : Sl),∃ out_28,∃ p_c_30,o = (out_28,p_c_30)∧e = .exit 1∧Fr a 43 [(5,s29.v)]∧St X w0 w m32 [q29,[⟨b_p_c,[s1.v,(iV p_c_30.at_),(.int .u64 p_c_30.seed.v)],64⟩]]∧MLe X w0.heap.size m5' m32∧OwnL m32 36 q29 s29 out_28∧Rd m32 s1 p_c_30.code∧p_c_30.code = p_c.code) hl5 ⟨m5',q7,s7,_,_,rfl,hF.sub ⟨rfl,rfl,rfl,trivial⟩,hS.sel [1,0] (by decide),(MLe.refl _ _),h7,h11,(hk11.trans hk8)⟩ ?_ ?_
     ·clear hF hS
      rintro s a w st ⟨m16,q13,s13,out_12,p_c_14,rfl,hF,hS,hm16,h13,h15,h15k⟩ hb5
      unfold spec_l1Cur_anyData_l1 at hb5
      refine q_seq (q_seq (q_region (q_x (v:=s13.v) hF hS (ex_move rfl) rfl rfl fun a hF=>q_x (v:=(iV (goLen out_12))) hF hS (ex_len Try.underlying27 rfl h13.len) rfl rfl fun a hF=>q_x (v:=(.pointer (some ⟨b_p_c,0,none⟩))) hF hS (ex_move rfl) rfl rfl fun a hF=>?_)))
      have hS : St _ _ _ _ [[⟨b_p_c,[s1.v,(iV p_c_14.at_),(.int .u64 p_c_14.seed.v)],64⟩],q13]:=hS.sel [1,0] (by decide)
      have hS17 : St _ _ _ _ ([[⟨b_p_c,[s1.v,(iV p_c_14.at_),(.int .u64 p_c_14.seed.v)],64⟩]]++[q13]):=hS
      have hE17:=hS17.enter
      obtain ⟨t_18,ht_18,hb5⟩:=bindS hb5
      refine q_do rfl fun _ hK=>wp_callX (vs:=[(.pointer (some ⟨b_p_c,0,none⟩)),(iV 2)]) hF Try.func40 (by kernel_rfl) rfl rfl rfl (c_spec_l1Cur_pick p_c_14 2 t_18 ht_18 _ m16 b_p_c s1 h15 _ hE17) fun a w _ hR hF=>hK _ _ ?_
      obtain ⟨rfl,hR17,hk19⟩:=hR
      have hS : St _ _ _ _ [[⟨b_p_c,[s1.v,(iV t_18.2.at_),(.int .u64 t_18.2.seed.v)],64⟩],q13]:=hS17.leaveF hR17
      have h19 : Rd m16 s1 t_18.2.code:=by rw [hk19]; exact h15
      refine q_x (v:=(iV (w64 (40 + t_18.1)))) hF hS (ex_ibin rfl rfl rfl) rfl rfl fun a hF=>q_x (v:=(.bool (decide ((goLen out_12) < (w64 (40 + t_18.1)))))) hF hS (ex_ibin rfl rfl rfl) rfl rfl fun a hF=>q_end (n_sq ?_)
      rcases bcase (decide ((goLen out_12) < (w64 (40 + t_18.1)))) with hc6 | hc6
      ·have hb5:=cond_f hc6 hb5
       refine q_cond_f hF rfl hc6 (q_exit (x_sq ?_))
       obtain rfl:=someI hb5
       exact ⟨nofun,.inl ⟨m16,q13,s13,_,_,rfl,rfl,hF.sub ⟨rfl,trivial⟩,hS.sel [1,0] (by decide),hm16,h13,h19,(hk19.trans h15k)⟩⟩
      ·have hb5:=cond_t hc6 hb5
       refine q_cond_t hF rfl hc6 (q_skipc (n_sq (q_block (q_region (q_x (v:=s13.v) hF hS (ex_move rfl) rfl rfl fun a hF=>q_x (v:=(.pointer (some ⟨b_p_c,0,none⟩))) hF hS (ex_move rfl) rfl rfl fun a hF=>q_x (v:=s2.v) hF hS (ex_move rfl) rfl rfl fun a hF=>?_)))))
       have hS20 : St _ _ _ _ ([[⟨b_p_c,[s1.v,(iV t_18.2.at_),(.int .u64 t_18.2.seed.v)],64⟩]]++[q13]):=hS
       have hE20:=hS20.enter
       obtain ⟨t_21,ht_21,hb5⟩:=bindS hb5
       refine q_do rfl fun _ hK=>wp_callX (vs:=[(.pointer (some ⟨b_p_c,0,none⟩)),s2.v]) hF Try.func73 (by kernel_rfl) rfl rfl rfl (c_spec_l1Cur_values t_18.2 p_s t_21 ht_21 _ m16 b_p_c s1 h19 s2 (((h2.mono hm4.le).mono hm5.le).mono hm16.le) _ hE20) fun a w _ hR hF=>hK _ _ ?_
       obtain ⟨q22,s22,rfl,hR20,h22,hk23⟩:=hR
       have hS : St _ _ _ _ [[⟨b_p_c,[s1.v,(iV t_21.2.at_),(.int .u64 t_21.2.seed.v)],64⟩],q22,q13]:=hS20.leaveF hR20
       have h23 : Rd m16 s1 t_21.2.code:=by rw [hk23]; exact h19
       refine q_x (v:=(.agg #[(iV 0),(iV 0),s22.v])) hF hS (ex_build (cells:=[(iV 0),(iV 0),s22.v]) rfl (by kernel_rfl)) rfl rfl fun a hF=>?_
       have hS : St _ _ _ _ [q22,[⟨b_p_c,[s1.v,(iV t_21.2.at_),(.int .u64 t_21.2.seed.v)],64⟩],q13]:=hS.sel [1,0,2] (by decide)
       obtain ⟨m25,hm25,hS,hz25⟩:=hS.freeze
       have h25:=h22.froz hm25.le hz25
       refine q_do rfl fun _ hK=>wp_buildSlice' (l:=([(impl_Record.mk 0 0 t_21.1)] : List impl_Record)) (cells:=[(iV 0),(iV 0),s22.v]) hF hS Try.underlying27 inf36 rfl rfl (by kernel_rfl) rfl rfl rfl ⟨⟨s22,rfl,h25⟩,rfl⟩ rfl rfl fun a w q24 s24 hF hS h24 _=>hK _ _ ?_
       have hS : St _ _ _ _ [q13,q24,[⟨b_p_c,[s1.v,(iV t_21.2.at_),(.int .u64 t_21.2.seed.v)],64⟩]]:=hS.sel [2,0,1] (by decide)
       obtain ⟨l_26,hl_26,hb5⟩:=bindS hb5
       refine q_do rfl fun _ hK=>wp_append hF hS (h13.mono hm25.le) Try.underlying27 inf36 rfl rfl rfl rfl (h24.vw hS (j:=1) rfl) rfl (by decide) hl_26 rfl fun a w q27 s27 hF hS h27=>hK _ _ (q_x (v:=s27.v) hF hS (ex_assign rfl) rfl rfl fun a hF=>q_end (n_ib ?_))
       obtain rfl:=someI hb5
       exact ⟨rfl,m25,q27,s27,_,_,rfl,hF.sub ⟨rfl,rfl,rfl,trivial⟩,hS.mask [true,false,true],(hm16.trans hm25),h27,(h23.mono hm25.le),(hk23.trans (hk19.trans h15k))⟩
     ·rintro e a w ⟨m32,q29,s29,out_28,p_c_30,rfl,rfl,hF,hS,hm32,h29,h31,h31k⟩
      refine x_ib (n_jn ?_)
      obtain rfl:=someI hj3
      exact ⟨m32,q29,s29,_,_,rfl,hF.sub ⟨rfl,trivial⟩,hS,hm32,h29,h31,h31k⟩
   ·rintro a w ⟨m37,q34,s34,out_33,p_c_35,rfl,hF,hS,hm37,h34,h36,h36k⟩
    refine n_jn ?_
    obtain rfl:=someI hj1
    exact ⟨m37,q34,s34,_,_,rfl,hF.sub ⟨rfl,trivial⟩,hS,hm37,h34,h36,h36k⟩
  ·have hj1:=cond_t hc2 hj1
   refine q_cond_t hF rfl hc2 (q_region (q_x (v:=s7.v) hF hS (ex_move rfl) rfl rfl fun a hF=>q_x (v:=(.pointer (some ⟨b_p_c,0,none⟩))) hF hS (ex_move rfl) rfl rfl fun a hF=>q_do rfl fun _ hK=>wp_buildSlice' (l:=([-1,29,30] : List Int)) (cells:=[(iV (-1)),(iV 29),(iV 30)]) hF hS Try.underlying24 inf3 rfl rfl (by kernel_rfl) rfl rfl rfl ⟨rfl,rfl,rfl,rfl⟩ rfl rfl fun a w q38 s38 hF hS h38 _=>hK _ _ ?_))
   have hS : St _ _ _ _ [[⟨b_p_c,[s1.v,(iV t_10.2.at_),(.int .u64 t_10.2.seed.v)],64⟩],q38,q7]:=hS.sel [1,0,2] (by decide)
   have hS39 : St _ _ _ _ ([[⟨b_p_c,[s1.v,(iV t_10.2.at_),(.int .u64 t_10.2.seed.v)],64⟩]]++[q38,q7]):=hS
   obtain ⟨m39,hl39,hE39,hz39⟩:=hS39.lendX
   obtain ⟨t_40,ht_40,hj1⟩:=bindS hj1
   refine q_do rfl fun _ hK=>wp_callX (vs:=[(.pointer (some ⟨b_p_c,0,none⟩)),s38.v]) hF Try.func69 (by kernel_rfl) rfl rfl rfl (c_spec_l1Cur_among t_10.2 ([-1,29,30] : List Int) t_40 ht_40 _ m39 b_p_c s1 (h11.mono hl39) s38 (h38.froz hl39 (hz39 0 _ rfl)) _ hE39) fun a w _ hR hF=>hK _ _ ?_
   obtain ⟨rfl,hR39,hk41⟩:=hR
   have hS : St _ _ _ _ [[⟨b_p_c,[s1.v,(iV t_40.2.at_),(.int .u64 t_40.2.seed.v)],64⟩],q38,q7]:=hS39.leaveF hR39
   have h41 : Rd m5' s1 t_40.2.code:=by rw [hk41]; exact h11
   refine q_x (v:=(.pointer (some ⟨b_p_c,0,none⟩))) hF hS (ex_move rfl) rfl rfl fun a hF=>q_do rfl fun _ hK=>wp_buildSlice' (l:=([0,999,1000,-1] : List Int)) (cells:=[(iV 0),(iV 999),(iV 1000),(iV (-1))]) hF hS Try.underlying24 inf3 rfl rfl (by kernel_rfl) rfl rfl rfl ⟨rfl,rfl,rfl,rfl,rfl⟩ rfl rfl fun a w q42 s42 hF hS h42 _=>hK _ _ ?_
   have hS : St _ _ _ _ [[⟨b_p_c,[s1.v,(iV t_40.2.at_),(.int .u64 t_40.2.seed.v)],64⟩],q42,q38,q7]:=hS.sel [1,0,2,3] (by decide)
   have hS43 : St _ _ _ _ ([[⟨b_p_c,[s1.v,(iV t_40.2.at_),(.int .u64 t_40.2.seed.v)],64⟩]]++[q42,q38,q7]):=hS
   obtain ⟨m43,hl43,hE43,hz43⟩:=hS43.lendX
   obtain ⟨t_44,ht_44,hj1⟩:=bindS hj1
   refine q_do rfl fun _ hK=>wp_callX (vs:=[(.pointer (some ⟨b_p_c,0,none⟩)),s42.v]) hF Try.func69 (by kernel_rfl) rfl rfl rfl (c_spec_l1Cur_among t_40.2 ([0,999,1000,-1] : List Int) t_44 ht_44 _ m43 b_p_c s1 (h41.mono hl43) s42 (h42.froz hl43 (hz43 0 _ rfl)) _ hE43) fun a w _ hR hF=>hK _ _ ?_
   obtain ⟨rfl,hR43,hk45⟩:=hR
   have hS : St _ _ _ _ [[⟨b_p_c,[s1.v,(iV t_44.2.at_),(.int .u64 t_44.2.seed.v)],64⟩],q42,q38,q7]:=hS43.leaveF hR43
   have h45 : Rd m5' s1 t_44.2.code:=by rw [hk45]; exact h41
   refine q_x (v:=(.pointer (some ⟨b_p_c,0,none⟩))) hF hS (ex_move rfl) rfl rfl fun a hF=>q_x (v:=s2.v) hF hS (ex_move rfl) rfl rfl fun a hF=>?_
   have hS46 : St _ _ _ _ ([[⟨b_p_c,[s1.v,(iV t_44.2.at_),(.int .u64 t_44.2.seed.v)],64⟩]]++[q42,q38,q7]):=hS
   have hE46:=hS46.enter
   obtain ⟨t_47,ht_47,hj1⟩:=bindS hj1
   refine q_do rfl fun _ hK=>wp_callX (vs:=[(.pointer (some ⟨b_p_c,0,none⟩)),s2.v]) hF Try.func45 (by kernel_rfl) rfl rfl rfl (c_spec_l1Cur_anyValues t_44.2 p_s t_47 ht_47 _ m5' b_p_c s1 h45 s2 ((h2.mono hm4.le).mono hm5.le) _ hE46) fun a w _ hR hF=>hK _ _ ?_
   obtain ⟨q48,s48,rfl,hR46,h48,hk49⟩:=hR
   have hS : St _ _ _ _ [[⟨b_p_c,[s1.v,(iV t_47.2.at_),(.int .u64 t_47.2.seed.v)],64⟩],q48,q42,q38,q7]:=hS46.leaveF hR46
   have h49 : Rd m5' s1 t_47.2.code:=by rw [hk49]; exact h45
   refine q_x (v:=(.agg #[(iV t_40.1),(iV t_44.1),s48.v])) hF hS (ex_build (cells:=[(iV t_40.1),(iV t_44.1),s48.v]) rfl (by kernel_rfl)) rfl rfl fun a hF=>?_
   have hS : St _ _ _ _ [q48,[⟨b_p_c,[s1.v,(iV t_47.2.at_),(.int .u64 t_47.2.seed.v)],64⟩],q42,q38,q7]:=hS.sel [1,0,2,3,4] (by decide)
   obtain ⟨m51,hm51,hS,hz51⟩:=hS.freeze
   have h51:=h48.froz hm51.le hz51
   refine q_do rfl fun _ hK=>wp_buildSlice' (l:=([(impl_Record.mk t_40.1 t_44.1 t_47.1)] : List impl_Record)) (cells:=[(iV t_40.1),(iV t_44.1),s48.v]) hF hS Try.underlying27 inf36 rfl rfl (by kernel_rfl) rfl rfl rfl ⟨⟨s48,rfl,h51⟩,rfl⟩ rfl rfl fun a w q50 s50 hF hS h50 _=>hK _ _ ?_
   have hS : St _ _ _ _ [q7,q50,[⟨b_p_c,[s1.v,(iV t_47.2.at_),(.int .u64 t_47.2.seed.v)],64⟩],q42,q38]:=hS.sel [4,0,1,2,3] (by decide)
   obtain ⟨l_52,hl_52,hj1⟩:=bindS hj1
   refine q_do rfl fun _ hK=>wp_append hF hS (h7.mono hm51.le) Try.underlying27 inf36 rfl rfl rfl rfl (h50.vw hS (j:=1) rfl) rfl (by decide) hl_52 rfl fun a w q53 s53 hF hS h53=>hK _ _ (q_x (v:=s53.v) hF hS (ex_assign rfl) rfl rfl fun a hF=>q_end (n_jn ?_))
   obtain rfl:=someI hj1
   exact ⟨m51,q53,s53,_,_,rfl,hF.sub ⟨rfl,trivial⟩,hS.mask [true,false,true,false,false],hm51,h53,(h49.mono hm51.le),(hk49.trans (hk45.trans (hk41.trans (hk11.trans hk8))))⟩
 ·rintro a w ⟨m58,q55,s55,out_54,p_c_56,rfl,hF,hS,hm58,h55,h57,h57k⟩
  refine n_ib (n_sq ?_)
  refine q_seq (q_region (q_x (v:=s55.v) hF hS (ex_move rfl) rfl rfl fun a hF=>q_x (v:=s55.v) hF hS (ex_assign rfl) rfl rfl fun a hF=>q_end (n_sq (q_ret ?_))))
  obtain rfl:=someI hr
  exact ret_ofX hF hS rfl (.tmp rfl .nil) ⟨m58,q55,s55,rfl,((hm4.trans hm5).trans hm58),hS.sel [1,0] (by decide),h55,h57k⟩

theorem c_spec_DrawGroupData (p_code : List (K .u8)) (r : (List impl_Variable) × impl_Grouping × (List impl_Record)) (hr : spec_DrawGroupData p_code = some r) (w0 : World) (m : Mem) (hv : Vis m w0) (s1 : Sl) (h1 : Rd m s1 p_code) :
  Ret Try.prog 5 [s1.v] w0 (fun v w=>∃ (m' : Mem) (q1' : Piece) (q2' : Piece) (s0' : Sl) (s1' : Sl) (s2' : Sl),v = (.tuple #[s0'.v,(.agg #[(iV r.2.1.Var),s1'.v]),s2'.v])∧MLe [] w0.heap.size m m'∧St [] w0 w m' [q1',q2']∧Rd m' s0' r.1∧OwnL m' 3 q1' s1' r.2.1.Groups∧OwnL m' 36 q2' s2' r.2.2):=by
 unfold spec_DrawGroupData at hr
 refine ret_start Try.func5 rfl 19 rfl rfl m hv fun a hF hS=>q_seq (q_region (q_x (v:=nilS.v) hF hS (ex_assign rfl) rfl rfl fun a hF=>q_alloc (cs:=[(iV 0),nilS.v]) hF hS rfl rfl rfl fun a w b2 hF hS=>q_x (v:=nilS.v) hF hS (ex_assign rfl) rfl rfl fun a hF=>q_end (n_sq (q_seq (q_region (q_x (v:=s1.v) hF hS (ex_move rfl) rfl rfl fun a hF=>q_x (v:=(.agg #[s1.v,(iV 0),(.int .u64 0)])) hF hS (ex_build (cells:=[s1.v,(iV 0),(.int .u64 0)]) rfl (by kernel_rfl)) rfl rfl fun a hF=>q_box (cs:=[s1.v,(iV 0),(.int .u64 0)]) hF hS rfl rfl rfl fun a w b3 hF hS=>q_x (v:=(.pointer (some ⟨b3,0,none⟩))) hF hS (ex_assign rfl) rfl rfl fun a hF=>q_end (n_sq (q_seq (q_region (q_x (v:=(.pointer (some ⟨b3,0,none⟩))) hF hS (ex_move rfl) rfl rfl fun a hF=>?_))))))))))
 have hS4 : St _ _ _ _ ([[⟨b3,[s1.v,(iV 0),(.int .u64 0)],64⟩]]++[[⟨b2,[(iV 0),nilS.v],26⟩]]):=hS
 have hE4:=hS4.enter
 obtain ⟨t_5,ht_5,hr⟩:=bindS hr
 refine q_do rfl fun _ hK=>wp_callX (vs:=[(.pointer (some ⟨b3,0,none⟩))]) hF Try.func30 (by kernel_rfl) rfl rfl rfl (c_spec_l1Cur_anySchema (spec_l1Cur.mk p_code 0 (⟨0⟩ : K .u64)) t_5 ht_5 _ m b3 s1 h1 _ hE4) fun a w _ hR hF=>hK _ _ ?_
 obtain ⟨q6,s6,rfl,hR4,h6,hk7⟩:=hR
 have hS : St _ _ _ _ [[⟨b3,[s1.v,(iV t_5.2.at_),(.int .u64 t_5.2.seed.v)],64⟩],q6,[⟨b2,[(iV 0),nilS.v],26⟩]]:=hS4.leaveF hR4
 have h7 : Rd m s1 t_5.2.code:=by rw [hk7]; exact h1
 refine q_x (v:=s6.v) hF hS (ex_assign rfl) rfl rfl fun a hF=>q_end (n_sq (q_seq (q_region (q_x (v:=s6.v) hF hS (ex_move rfl) rfl rfl fun a hF=>q_x (v:=(.pointer (some ⟨b3,0,none⟩))) hF hS (ex_move rfl) rfl rfl fun a hF=>q_x (v:=s6.v) hF hS (ex_move rfl) rfl rfl fun a hF=>?_))))
 have hS8 : St _ _ _ _ ([[⟨b3,[s1.v,(iV t_5.2.at_),(.int .u64 t_5.2.seed.v)],64⟩]]++[q6,[⟨b2,[(iV 0),nilS.v],26⟩]]):=hS
 obtain ⟨m8,hl8,hE8,hz8⟩:=hS8.lendX
 obtain ⟨t_9,ht_9,hr⟩:=bindS hr
 refine q_do rfl fun _ hK=>wp_callX (vs:=[(.pointer (some ⟨b3,0,none⟩)),s6.v]) hF Try.func31 (by kernel_rfl) rfl rfl rfl (c_spec_l1Cur_grouping t_5.2 t_5.1 t_9 ht_9 _ m8 b3 s1 (h7.mono hl8) s6 (h6.froz hl8 (hz8 0 _ rfl)) _ hE8) fun a w _ hR hF=>hK _ _ ?_
 obtain ⟨q10,s10,rfl,hR8,h10,hk11⟩:=hR
 have hS : St _ _ _ _ [[⟨b3,[s1.v,(iV t_9.2.at_),(.int .u64 t_9.2.seed.v)],64⟩],q10,q6,[⟨b2,[(iV 0),nilS.v],26⟩]]:=hS8.leaveF hR8
 have h10:=h10.any m
 have h11 : Rd m s1 t_9.2.code:=by rw [hk11]; exact h7
 refine q_x (v:=(.pointer (some ⟨b3,0,none⟩))) hF hS (ex_move rfl) rfl rfl fun a hF=>q_x (v:=s6.v) hF hS (ex_move rfl) rfl rfl fun a hF=>?_
 have hS : St _ _ _ _ [q6,[⟨b3,[s1.v,(iV t_9.2.at_),(.int .u64 t_9.2.seed.v)],64⟩],q10,[⟨b2,[(iV 0),nilS.v],26⟩]]:=hS.sel [2,0,1,3] (by decide)
 obtain ⟨m12,hm12,hS,hz12⟩:=hS.freeze
 have h12:=h6.froz hm12.le hz12
 have hS13 : St _ _ _ _ ([[⟨b3,[s1.v,(iV t_9.2.at_),(.int .u64 t_9.2.seed.v)],64⟩]]++[q10,[⟨b2,[(iV 0),nilS.v],26⟩]]):=hS
 have hE13:=hS13.enter
 obtain ⟨t_14,ht_14,hr⟩:=bindS hr
 refine q_do rfl fun _ hK=>wp_callX (vs:=[(.pointer (some ⟨b3,0,none⟩)),s6.v]) hF Try.func32 (by kernel_rfl) rfl rfl rfl (c_spec_l1Cur_anyData t_9.2 t_5.1 t_14 ht_14 _ m12 b3 s1 (h11.mono hm12.le) s6 h12 _ hE13) fun a w _ hR hF=>hK _ _ ?_
 obtain ⟨m13',q15,s15,rfl,hm13,hR13,h15,hk16⟩:=hR
 have hS : St _ _ _ _ [[⟨b3,[s1.v,(iV t_14.2.at_),(.int .u64 t_14.2.seed.v)],64⟩],q15,q10,[⟨b2,[(iV 0),nilS.v],26⟩]]:=hS13.leave hR13 hm13
 have hm13:=MLe.weakX hS13 hm13
 have h16 : Rd m13' s1 t_14.2.code:=by rw [hk16]; exact ((h11.mono hm12.le).mono hm13.le)
 refine q_x (v:=s6.v) hF hS (ex_assign rfl) rfl rfl fun a hF=>q_store (vs:=[(iV t_9.1.Var),s10.v]) (cs':=[(iV t_9.1.Var),s10.v]) 3 0 hF hS sz26 rfl rfl rfl rfl rfl rfl rfl rfl fun a w hF hS=>q_x (v:=s15.v) hF hS (ex_assign rfl) rfl rfl fun a hF=>q_end (n_sq (q_ret ?_))
 obtain rfl:=someI hr
 exact ret_of hF hS rfl (.tmp rfl (.cellA (us:=[(iV t_9.1.Var),s10.v]) 3 0 Try.underlying26 rfl sz26 rfl rfl rfl rfl (.tmp rfl .nil))) ⟨m13',q10,q15,s6,s10,s15,rfl,(hm12.trans hm13),hS.sel [2,1] (by decide),(h12.mono hm13.le),((h10.mono hm12.le).mono hm13.le),h15⟩

theorem c_impl_isWord (p_s : List UInt8) (r : Bool) (hr : impl_isWord p_s = some r) (w0 : World) (m : Mem) (hv : Vis m w0) :
  Ret Try.prog 74 [(strV p_s)] w0 (fun v _=>v = (.bool r)):=by
 unfold impl_isWord at hr
 refine ret_start Try.func74 rfl 28 rfl rfl m hv fun a hF hS=>q_seq (q_region (q_x (v:=(.bool false)) hF hS (ex_assign rfl) rfl rfl fun a hF=>q_end (n_sq (q_seq (q_seq ?_)))))
 obtain ⟨t_1,hj1,hr⟩:=bindS hr
 refine q_join (fun a w=>Fr a 28 [(0,(strV p_s)),(11,(.bool t_1))]∧St [] w0 w m []) ?_ ?_
 ·refine q_region (q_x (v:=(strV p_s)) hF hS (ex_move rfl) rfl rfl fun a hF=>q_x (v:=(iV (goLen p_s))) hF hS (ex_strLen Try.underlying9 rfl) rfl rfl fun a hF=>q_x (v:=(.bool (decide ((goLen p_s) < 1)))) hF hS (ex_ibin rfl rfl rfl) rfl rfl fun a hF=>q_x (v:=(.bool (decide ((goLen p_s) < 1)))) hF hS (ex_move rfl) rfl rfl fun a hF=>?_)
  rcases bcase (decide ((goLen p_s) < 1)) with hc2 | hc2
  ·have hj1:=cond_f hc2 hj1
   refine q_xg (v:=(strV p_s)) hF hS (ex_move rfl) (wanted_t hF rfl rfl rfl hc2) rfl fun a hF=>q_xg (v:=(iV (goLen p_s))) hF hS (ex_strLen Try.underlying9 rfl) (wanted_t hF rfl rfl rfl hc2) rfl fun a hF=>q_xg (v:=(.bool (decide (8 < (goLen p_s))))) hF hS (ex_ibin rfl rfl rfl) (wanted_t hF rfl rfl rfl hc2) rfl fun a hF=>q_x (v:=(.bool (decide (8 < (goLen p_s))))) hF hS (ex_pick_f rfl rfl hc2) rfl rfl fun a hF=>q_end (n_jn ?_)
   obtain rfl:=someI hj1
   exact ⟨hF.sub ⟨rfl,rfl,trivial⟩,hS⟩
  ·have hj1:=cond_t hc2 hj1
   refine q_skip hF (wanted_f hF rfl rfl rfl hc2 rfl) rfl fun a hF=>q_skip hF (wanted_f hF rfl rfl rfl hc2 rfl) rfl fun a hF=>q_skip hF (wanted_f hF rfl rfl rfl hc2 rfl) rfl fun a hF=>q_x (v:=(.bool true)) hF hS (ex_pick_t rfl rfl hc2) rfl rfl fun a hF=>q_end (n_jn ?_)
   obtain rfl:=someI hj1
   exact ⟨hF.sub ⟨rfl,rfl,trivial⟩,hS⟩
 ·rintro a w ⟨hF,hS⟩
  refine n_sq ?_
  rcases bcase (t_1) with hc3 | hc3
  ·have hr:=cond_f hc3 hr
   refine q_cond_f hF rfl hc3 (q_skipc (n_sq (q_seq (q_seq (q_region (q_x (v:=(strV p_s)) hF hS (ex_move rfl) rfl rfl fun a hF=>q_x (v:=(iV (goLen p_s))) hF hS (ex_strLen Try.underlying9 rfl) rfl rfl fun a hF=>q_x (v:=(iV 0)) hF hS (ex_move rfl) rfl rfl fun a hF=>q_end (n_sq (q_block ?_))))))))
   obtain ⟨o4,hl4,hr⟩:=bindS hr
   refine q_loop (fun (t_2 : Int) a w=>Fr a 28 [(0,(strV p_s)),(13,(iV (goLen p_s))),(14,(iV t_2))]∧St [] w0 w m []) (fun (o : (Unit) ⊕ (Bool)) e a w=>o = .inl ()∧e = .exit 0∧Fr a 28 []∧St [] w0 w m []) hl4 ⟨hF.sub ⟨rfl,rfl,rfl,trivial⟩,hS⟩ ?_ ?_
   ·clear hF hS
    rintro t_2 a w st ⟨hF,hS⟩ hb4
    unfold impl_isWord_l1 at hb4
    refine q_seq (q_region (q_x (v:=(.bool (decide (t_2 < (goLen p_s))))) hF hS (ex_ibin rfl rfl rfl) rfl rfl fun a hF=>q_end (n_sq (q_seq ?_))))
    rcases bcase (decide (t_2 < (goLen p_s))) with hc5 | hc5
    ·have hb4:=cond_f hc5 hb4
     refine q_cond_f hF rfl hc5 (q_exit (x_sq ?_))
     obtain rfl:=someI hb4
     exact ⟨nofun,.inl ⟨rfl,rfl,hF.sub trivial,hS⟩⟩
    ·have hb4:=cond_t hc5 hb4
     refine q_cond_t hF rfl hc5 (q_skipc (n_sq (q_seq (q_block (q_seq (q_region (q_x (v:=(iV t_2)) hF hS (ex_move rfl) rfl rfl fun a hF=>q_x (v:=(iV t_2)) hF hS (ex_assign rfl) rfl rfl fun a hF=>q_end (n_sq (q_seq ?_)))))))))
     obtain ⟨t_5,hj6,hb4⟩:=bindS hb4
     refine q_join (fun a w=>Fr a 28 [(0,(strV p_s)),(13,(iV (goLen p_s))),(14,(iV t_2)),(26,(.bool t_5))]∧St [] w0 w m []) ?_ ?_
     ·refine q_region (q_x (v:=(strV p_s)) hF hS (ex_move rfl) rfl rfl fun a hF=>q_x (v:=(iV t_2)) hF hS (ex_move rfl) rfl rfl fun a hF=>?_)
      obtain ⟨t_3,ht_3,hj6⟩:=bindS hj6
      refine q_x (v:=(.int .u8 t_3)) hF hS (ex_strIdx Try.underlying9 rfl rfl ht_3) rfl rfl fun a hF=>q_x (v:=(.bool (decide (t_3 < 97)))) hF hS (ex_ibin rfl rfl rfl) rfl rfl fun a hF=>q_x (v:=(.bool (decide (t_3 < 97)))) hF hS (ex_move rfl) rfl rfl fun a hF=>?_
      rcases bcase (decide (t_3 < 97)) with hc7 | hc7
      ·have hj6:=cond_f hc7 hj6
       refine q_xg (v:=(strV p_s)) hF hS (ex_move rfl) (wanted_t hF rfl rfl rfl hc7) rfl fun a hF=>q_xg (v:=(iV t_2)) hF hS (ex_move rfl) (wanted_t hF rfl rfl rfl hc7) rfl fun a hF=>?_
       obtain ⟨t_4,ht_4,hj6⟩:=bindS hj6
       refine q_xg (v:=(.int .u8 t_4)) hF hS (ex_strIdx Try.underlying9 rfl rfl ht_4) (wanted_t hF rfl rfl rfl hc7) rfl fun a hF=>q_xg (v:=(.bool (decide (122 < t_4)))) hF hS (ex_ibin rfl rfl rfl) (wanted_t hF rfl rfl rfl hc7) rfl fun a hF=>q_x (v:=(.bool (decide (122 < t_4)))) hF hS (ex_pick_f rfl rfl hc7) rfl rfl fun a hF=>q_end (n_jn ?_)
       obtain rfl:=someI hj6
       exact ⟨hF.sub ⟨rfl,rfl,rfl,rfl,trivial⟩,hS⟩
      ·have hj6:=cond_t hc7 hj6
       refine q_skip hF (wanted_f hF rfl rfl rfl hc7 rfl) rfl fun a hF=>q_skip hF (wanted_f hF rfl rfl rfl hc7 rfl) rfl fun a hF=>q_skip hF (wanted_f hF rfl rfl rfl hc7 rfl) rfl fun a hF=>q_skip hF (wanted_f hF rfl rfl rfl hc7 rfl) rfl fun a hF=>q_x (v:=(.bool true)) hF hS (ex_pick_t rfl rfl hc7) rfl rfl fun a hF=>q_end (n_jn ?_)
       obtain rfl:=someI hj6
       exact ⟨hF.sub ⟨rfl,rfl,rfl,rfl,trivial⟩,hS⟩
     ·rintro a w ⟨hF,hS⟩
      refine n_sq ?_
      rcases bcase (t_5) with hc8 | hc8
      ·have hb4:=cond_f hc8 hb4
       refine q_cond_f hF rfl hc8 (q_skipc (n_ib (n_sq (q_region (q_x (v:=(iV (w64 (t_2 + 1)))) hF hS (ex_ibin rfl rfl rfl) rfl rfl fun a hF=>q_x (v:=(iV (w64 (t_2 + 1)))) hF hS (ex_move rfl) rfl rfl fun a hF=>q_end ?_)))))
       obtain rfl:=someI hb4
       exact ⟨rfl,hF.sub ⟨rfl,rfl,rfl,trivial⟩,hS⟩
      ·have hb4:=cond_t hc8 hb4
       refine q_cond_t hF rfl hc8 (q_seq (q_region (q_x (v:=(.bool false)) hF hS (ex_assign rfl) rfl rfl fun a hF=>q_end (n_sq (q_ret (r_ib (r_sq ?_)))))))
       obtain rfl:=someI hb4
       refine ⟨nofun,.inr fun ho=>?_⟩
       subst ho
       refine r_ib (r_sq ?_)
       obtain rfl:=someI hr
       exact ret_of hF hS rfl (.tmp rfl .nil) rfl
   ·rintro e a w ⟨rfl,rfl,hF,hS⟩
    refine x_ib (n_sq ?_)
    refine q_seq (q_region (q_x (v:=(.bool true)) hF hS (ex_assign rfl) rfl rfl fun a hF=>q_end (n_sq (q_ret ?_))))
    obtain rfl:=someI hr
    exact ret_of hF hS rfl (.tmp rfl .nil) rfl
  ·have hr:=cond_t hc3 hr
   refine q_cond_t hF rfl hc3 (q_seq (q_region (q_x (v:=(.bool false)) hF hS (ex_assign rfl) rfl rfl fun a hF=>q_end (n_sq (q_ret (r_sq ?_))))))
   obtain rfl:=someI hr
   exact ret_of hF hS rfl (.tmp rfl .nil) rfl

theorem c_impl_IsSchema (p_s : List impl_Variable) (r : Bool) (hr : impl_IsSchema p_s = some r) (w0 : World) (m : Mem) (hv : Vis m w0) (s1 : Sl) (h1 : Rd m s1 p_s) :
  Ret Try.prog 33 [s1.v] w0 (fun v _=>v = (.bool r)):=by
 unfold impl_IsSchema at hr
 refine ret_start Try.func33 rfl 51 rfl rfl m hv fun a hF hS=>q_seq (q_region (q_x (v:=(.bool false)) hF hS (ex_assign rfl) rfl rfl fun a hF=>q_end (n_sq (q_seq (q_seq ?_)))))
 obtain ⟨t_2,hj1,hr⟩:=bindS hr
 refine q_join (fun a w=>Fr a 51 [(0,s1.v),(14,(.bool t_2))]∧St [] w0 w m []) ?_ ?_
 ·refine q_region (q_x (v:=s1.v) hF hS (ex_move rfl) rfl rfl fun a hF=>q_x (v:=(iV (goLen p_s))) hF hS (ex_len Try.underlying23 rfl h1.len) rfl rfl fun a hF=>q_x (v:=(.bool (decide ((goLen p_s) < 1)))) hF hS (ex_ibin rfl rfl rfl) rfl rfl fun a hF=>q_x (v:=(.bool (decide ((goLen p_s) < 1)))) hF hS (ex_move rfl) rfl rfl fun a hF=>?_)
  rcases bcase (decide ((goLen p_s) < 1)) with hc2 | hc2
  ·have hj1:=cond_f hc2 hj1
   refine q_xg (v:=s1.v) hF hS (ex_move rfl) (wanted_t hF rfl rfl rfl hc2) rfl fun a hF=>q_xg (v:=(iV (goLen p_s))) hF hS (ex_len Try.underlying23 rfl h1.len) (wanted_t hF rfl rfl rfl hc2) rfl fun a hF=>q_xg (v:=(.bool (decide (6 < (goLen p_s))))) hF hS (ex_ibin rfl rfl rfl) (wanted_t hF rfl rfl rfl hc2) rfl fun a hF=>q_x (v:=(.bool (decide (6 < (goLen p_s))))) hF hS (ex_pick_f rfl rfl hc2) rfl rfl fun a hF=>q_end (n_jn ?_)
   obtain rfl:=someI hj1
   exact ⟨hF.sub ⟨rfl,rfl,trivial⟩,hS⟩
  ·have hj1:=cond_t hc2 hj1
   refine q_skip hF (wanted_f hF rfl rfl rfl hc2 rfl) rfl fun a hF=>q_skip hF (wanted_f hF rfl rfl rfl hc2 rfl) rfl fun a hF=>q_skip hF (wanted_f hF rfl rfl rfl hc2 rfl) rfl fun a hF=>q_x (v:=(.bool true)) hF hS (ex_pick_t rfl rfl hc2) rfl rfl fun a hF=>q_end (n_jn ?_)
   obtain rfl:=someI hj1
   exact ⟨hF.sub ⟨rfl,rfl,trivial⟩,hS⟩
 ·rintro a w ⟨hF,hS⟩
  refine n_sq ?_
  rcases bcase (t_2) with hc3 | hc3
  ·have hr:=cond_f hc3 hr
   refine q_cond_f hF rfl hc3 (q_skipc (n_sq (q_seq (q_seq (q_region (q_x (v:=s1.v) hF hS (ex_move rfl) rfl rfl fun a hF=>q_x (v:=(iV (goLen p_s))) hF hS (ex_len Try.underlying23 rfl h1.len) rfl rfl fun a hF=>q_x (v:=(iV 0)) hF hS (ex_move rfl) rfl rfl fun a hF=>q_end (n_sq (q_block ?_))))))))
   obtain ⟨o4,hl4,hr⟩:=bindS hr
   refine q_loop (fun (t_3 : Int) a w=>Fr a 51 [(0,s1.v),(15,s1.v),(16,(iV (goLen p_s))),(17,(iV t_3))]∧St [] w0 w m []) (fun (o : (Unit) ⊕ (Bool)) e a w=>o = .inl ()∧e = .exit 0∧Fr a 51 []∧St [] w0 w m []) hl4 ⟨hF.sub ⟨rfl,rfl,rfl,rfl,trivial⟩,hS⟩ ?_ ?_
   ·clear hF hS
    rintro t_3 a w st ⟨hF,hS⟩ hb4
    unfold impl_IsSchema_l1 at hb4
    refine q_seq (q_region (q_x (v:=(.bool (decide (t_3 < (goLen p_s))))) hF hS (ex_ibin rfl rfl rfl) rfl rfl fun a hF=>q_end (n_sq (q_seq ?_))))
    rcases bcase (decide (t_3 < (goLen p_s))) with hc5 | hc5
    ·have hb4:=cond_f hc5 hb4
     refine q_cond_f hF rfl hc5 (q_exit (x_sq ?_))
     obtain rfl:=someI hb4
     exact ⟨nofun,.inl ⟨rfl,rfl,hF.sub trivial,hS⟩⟩
    ·have hb4:=cond_t hc5 hb4
     refine q_cond_t hF rfl hc5 (q_skipc (n_sq (q_seq (q_block (q_seq (q_region (q_x (v:=(iV t_3)) hF hS (ex_move rfl) rfl rfl fun a hF=>?_)))))))
     obtain ⟨e_4,he_4,hb4⟩:=bindS hb4
     obtain ⟨vs5,at5,d5⟩:=h1.at he_4 2 rfl
     obtain rfl : vs5 = [(strV e_4.Name),(iV e_4.Levels)]:=d5
     refine q_x (v:=(elP s1 (t_3.toNat * 2))) hF hS (ex_indexAddr Try.underlying23 sz85 rfl rfl (h1.idx he_4)) rfl rfl fun a hF=>q_x (v:=(.agg #[(strV e_4.Name),(iV e_4.Levels)])) hF hS (ex_loadEA (us:=[(strV e_4.Name),(iV e_4.Levels)]) 0 Try.underlying85 rfl sz85 rfl ((at5).at) rfl rfl rfl) rfl rfl fun a hF=>q_alloc (cs:=[(strV ([] : List UInt8)),(iV 0)]) hF hS rfl rfl rfl fun a w b6 hF hS=>q_x (v:=(iV t_3)) hF hS (ex_assign rfl) rfl rfl fun a hF=>q_store (vs:=[(strV e_4.Name),(iV e_4.Levels)]) (cs':=[(strV e_4.Name),(iV e_4.Levels)]) 0 0 hF hS sz85 rfl rfl rfl rfl rfl rfl rfl rfl fun a w hF hS=>q_end (n_sq (q_seq (q_seq ?_)))
     obtain ⟨t_8,hj6,hb4⟩:=bindS hb4
     refine q_join (fun a w=>Fr a 51 [(0,s1.v),(3,(iV t_3)),(4,(.pointer (some ⟨b6,0,none⟩))),(15,s1.v),(16,(iV (goLen p_s))),(17,(iV t_3)),(35,(.bool t_8))]∧St [] w0 w m [[⟨b6,[(strV e_4.Name),(iV e_4.Levels)],85⟩]]) ?_ ?_
     ·refine q_region (q_x (v:=(.pointer (some ⟨b6,0,none⟩))) hF hS (ex_fieldAddr Try.underlying85 rfl sz9 rfl rfl) rfl rfl fun a hF=>q_x (v:=(strV e_4.Name)) hF hS (ex_load1 0 0 Try.underlying9 rfl rfl rfl rfl) rfl rfl fun a hF=>?_)
      obtain ⟨t_7,ht_7,hj6⟩:=bindS hj6
      refine q_call (vs:=[(strV e_4.Name)]) hF hS Try.func74 (by kernel_rfl) rfl rfl rfl (c_impl_isWord e_4.Name t_7 ht_7 _ m hS.vis) ?_
      rintro a w _ rfl hF hS
      refine q_x (v:=(.bool (!t_7))) hF hS (ex_not rfl) rfl rfl fun a hF=>q_x (v:=(.bool (!t_7))) hF hS (ex_move rfl) rfl rfl fun a hF=>?_
      rcases bcase (!t_7) with hc7 | hc7
      ·have hj6:=cond_f hc7 hj6
       refine q_xg (v:=(.pointer (some ⟨b6,1,none⟩))) hF hS (ex_fieldAddr Try.underlying85 rfl sz3 rfl rfl) (wanted_t hF rfl rfl rfl hc7) rfl fun a hF=>q_xg (v:=(iV e_4.Levels)) hF hS (ex_load1 0 0 Try.underlying3 rfl rfl rfl rfl) (wanted_t hF rfl rfl rfl hc7) rfl fun a hF=>q_xg (v:=(.bool (decide (e_4.Levels < 2)))) hF hS (ex_ibin rfl rfl rfl) (wanted_t hF rfl rfl rfl hc7) rfl fun a hF=>q_x (v:=(.bool (decide (e_4.Levels < 2)))) hF hS (ex_pick_f rfl rfl hc7) rfl rfl fun a hF=>q_x (v:=(.bool (decide (e_4.Levels < 2)))) hF hS (ex_move rfl) rfl rfl fun a hF=>?_
       rcases bcase (decide (e_4.Levels < 2)) with hc8 | hc8
       ·have hj6:=cond_f hc8 hj6
        refine q_xg (v:=(.pointer (some ⟨b6,1,none⟩))) hF hS (ex_fieldAddr Try.underlying85 rfl sz3 rfl rfl) (wanted_t hF rfl rfl rfl hc8) rfl fun a hF=>q_xg (v:=(iV e_4.Levels)) hF hS (ex_load1 0 0 Try.underlying3 rfl rfl rfl rfl) (wanted_t hF rfl rfl rfl hc8) rfl fun a hF=>q_xg (v:=(.bool (decide (8 < e_4.Levels)))) hF hS (ex_ibin rfl rfl rfl) (wanted_t hF rfl rfl rfl hc8) rfl fun a hF=>q_x (v:=(.bool (decide (8 < e_4.Levels)))) hF hS (ex_pick_f rfl rfl hc8) rfl rfl fun a hF=>q_end (n_jn ?_)
        obtain rfl:=someI hj6
        exact ⟨hF.sub ⟨rfl,rfl,rfl,rfl,rfl,rfl,rfl,trivial⟩,hS⟩
       ·have hj6:=cond_t hc8 hj6
        refine q_skip hF (wanted_f hF rfl rfl rfl hc8 rfl) rfl fun a hF=>q_skip hF (wanted_f hF rfl rfl rfl hc8 rfl) rfl fun a hF=>q_skip hF (wanted_f hF rfl rfl rfl hc8 rfl) rfl fun a hF=>q_x (v:=(.bool true)) hF hS (ex_pick_t rfl rfl hc8) rfl rfl fun a hF=>q_end (n_jn ?_)
        obtain rfl:=someI hj6
        exact ⟨hF.sub ⟨rfl,rfl,rfl,rfl,rfl,rfl,rfl,trivial⟩,hS⟩
      ·have hj6:=cond_t hc7 hj6
       refine q_skip hF (wanted_f hF rfl rfl rfl hc7 rfl) rfl fun a hF=>q_skip hF (wanted_f hF rfl rfl rfl hc7 rfl) rfl fun a hF=>q_skip hF (wanted_f hF rfl rfl rfl hc7 rfl) rfl fun a hF=>q_x (v:=(.bool true)) hF hS (ex_pick_t rfl rfl hc7) rfl rfl fun a hF=>q_x (v:=(.bool true)) hF hS (ex_move rfl) rfl rfl fun a hF=>q_skip hF (wanted_f hF rfl rfl rfl rfl rfl) rfl fun a hF=>q_skip hF (wanted_f hF rfl rfl rfl rfl rfl) rfl fun a hF=>q_skip hF (wanted_f hF rfl rfl rfl rfl rfl) rfl fun a hF=>q_x (v:=(.bool true)) hF hS (ex_pick_t rfl rfl rfl) rfl rfl fun a hF=>q_end (n_jn ?_)
       obtain rfl:=someI hj6
       exact ⟨hF.sub ⟨rfl,rfl,rfl,rfl,rfl,rfl,rfl,trivial⟩,hS⟩
     ·rintro a w ⟨hF,hS⟩
      refine n_sq ?_
      rcases bcase (t_8) with hc9 | hc9
      ·have hb4:=cond_f hc9 hb4
       refine q_cond_f hF rfl hc9 (q_skipc (n_sq (q_seq (q_region (q_x (v:=s1.v) hF hS (ex_move rfl) rfl rfl fun a hF=>q_x (v:=(iV t_3)) hF hS (ex_move rfl) rfl rfl fun a hF=>?_)))))
       obtain ⟨l_9,hl_9,hb4⟩:=bindS hb4
       have h10 : Rd m (subS s1 2 (0 : Int).toNat t_3.toNat s1.cap) l_9:=h1.sub' hl_9 2 rfl
       refine q_x (v:=(subS s1 2 (0 : Int).toNat t_3.toNat s1.cap).v) hF hS (ex_slice Try.underlying23 sz85 rfl rfl rfl (.inl ⟨rfl,rfl⟩) (.inr ⟨_,rfl⟩) (h1.subok hl_9)) rfl rfl fun a hF=>q_x (v:=(iV (goLen l_9))) hF hS (ex_len Try.underlying23 rfl h10.len) rfl rfl fun a hF=>q_x (v:=(iV 0)) hF hS (ex_move rfl) rfl rfl fun a hF=>q_end (n_sq (q_block ?_))
       obtain ⟨o10,hl10,hb4⟩:=bindS hb4
       refine q_loop (fun (t_11 : Int) a w=>Fr a 51 [(0,s1.v),(4,(.pointer (some ⟨b6,0,none⟩))),(15,s1.v),(16,(iV (goLen p_s))),(17,(iV t_3)),(38,(subS s1 2 (0 : Int).toNat t_3.toNat s1.cap).v),(39,(iV (goLen l_9))),(40,(iV t_11))]∧St [] w0 w m [[⟨b6,[(strV e_4.Name),(iV e_4.Levels)],85⟩]]) (fun (o : (Unit) ⊕ (Stp (Int) ((Unit) ⊕ (Bool)))) e a w=>o = .inl ()∧e = .exit 2∧Fr a 51 [(0,s1.v),(15,s1.v),(16,(iV (goLen p_s))),(17,(iV t_3))]∧St [] w0 w m []) hl10 ⟨hF.sub ⟨rfl,rfl,rfl,rfl,rfl,rfl,rfl,rfl,trivial⟩,hS⟩ ?_ ?_
       ·clear hF hS
        rintro t_11 a w st ⟨hF,hS⟩ hb10
        unfold impl_IsSchema_l2 at hb10
        refine q_seq (q_region (q_x (v:=(.bool (decide (t_11 < (goLen l_9))))) hF hS (ex_ibin rfl rfl rfl) rfl rfl fun a hF=>q_end (n_sq (q_seq ?_))))
        rcases bcase (decide (t_11 < (goLen l_9))) with hc11 | hc11
        ·have hb10:=cond_f hc11 hb10
         refine q_cond_f hF rfl hc11 (q_exit (x_sq ?_))
         obtain rfl:=someI hb10
         exact ⟨nofun,.inl ⟨rfl,rfl,hF.sub ⟨rfl,rfl,rfl,rfl,trivial⟩,hS.mask [false]⟩⟩
        ·have hb10:=cond_t hc11 hb10
         refine q_cond_t hF rfl hc11 (q_skipc (n_sq (q_seq (q_block (q_seq (q_region ?_))))))
         obtain ⟨e_12,he_12,hb10⟩:=bindS hb10
         obtain ⟨vs13,at13,d13⟩:=h10.at he_12 2 rfl
         obtain rfl : vs13 = [(strV e_12.Name),(iV e_12.Levels)]:=d13
         refine q_x (v:=(elP (subS s1 2 (0 : Int).toNat t_3.toNat s1.cap) (t_11.toNat * 2))) hF hS (ex_indexAddr Try.underlying23 sz85 rfl rfl (h10.idx he_12)) rfl rfl fun a hF=>q_x (v:=(.agg #[(strV e_12.Name),(iV e_12.Levels)])) hF hS (ex_loadEA (us:=[(strV e_12.Name),(iV e_12.Levels)]) 0 Try.underlying85 rfl sz85 rfl ((at13).at) rfl rfl rfl) rfl rfl fun a hF=>q_alloc (cs:=[(strV ([] : List UInt8)),(iV 0)]) hF hS rfl rfl rfl fun a w b14 hF hS=>q_store (vs:=[(strV e_12.Name),(iV e_12.Levels)]) (cs':=[(strV e_12.Name),(iV e_12.Levels)]) 0 0 hF hS sz85 rfl rfl rfl rfl rfl rfl rfl rfl fun a w hF hS=>q_end (n_sq (q_seq (q_region (q_x (v:=(.pointer (some ⟨b14,0,none⟩))) hF hS (ex_fieldAddr Try.underlying85 rfl sz9 rfl rfl) rfl rfl fun a hF=>q_x (v:=(strV e_12.Name)) hF hS (ex_load1 0 0 Try.underlying9 rfl rfl rfl rfl) rfl rfl fun a hF=>q_x (v:=(.pointer (some ⟨b6,0,none⟩))) hF hS (ex_fieldAddr Try.underlying85 rfl sz9 rfl rfl) rfl rfl fun a hF=>q_x (v:=(strV e_4.Name)) hF hS (ex_load1 1 0 Try.underlying9 rfl rfl rfl rfl) rfl rfl fun a hF=>q_x (v:=(.bool (e_12.Name == e_4.Name))) hF hS (ex_strEq rfl rfl) rfl rfl fun a hF=>q_end (n_sq ?_)))))
         rcases bcase (e_12.Name == e_4.Name) with hc12 | hc12
         ·have hb10:=cond_f hc12 hb10
          refine q_cond_f hF rfl hc12 (q_skipc (n_ib (n_sq (q_region (q_x (v:=(iV (w64 (t_11 + 1)))) hF hS (ex_ibin rfl rfl rfl) rfl rfl fun a hF=>q_x (v:=(iV (w64 (t_11 + 1)))) hF hS (ex_move rfl) rfl rfl fun a hF=>q_end ?_)))))
          obtain rfl:=someI hb10
          exact ⟨rfl,hF.sub ⟨rfl,rfl,rfl,rfl,rfl,rfl,rfl,rfl,trivial⟩,hS.mask [false,true]⟩
         ·have hb10:=cond_t hc12 hb10
          refine q_cond_t hF rfl hc12 (q_seq (q_region (q_x (v:=(.bool false)) hF hS (ex_assign rfl) rfl rfl fun a hF=>q_end (n_sq (q_ret (r_ib (r_sq ?_)))))))
          obtain rfl:=someI hb10
          refine ⟨nofun,.inr fun ho=>?_⟩
          subst ho
          refine r_ib (r_ib (r_sq ?_))
          obtain rfl:=someI hb4
          refine ⟨nofun,.inr fun ho=>?_⟩
          subst ho
          refine r_ib (r_sq ?_)
          obtain rfl:=someI hr
          exact ret_of hF hS rfl (.tmp rfl .nil) rfl
       ·rintro e a w ⟨rfl,rfl,hF,hS⟩
        refine x_ib (n_ib (n_sq ?_))
        refine q_region (q_x (v:=(iV (w64 (t_3 + 1)))) hF hS (ex_ibin rfl rfl rfl) rfl rfl fun a hF=>q_x (v:=(iV (w64 (t_3 + 1)))) hF hS (ex_move rfl) rfl rfl fun a hF=>q_end ?_)
        obtain rfl:=someI hb4
        exact ⟨rfl,hF.sub ⟨rfl,rfl,rfl,rfl,trivial⟩,hS⟩
      ·have hb4:=cond_t hc9 hb4
       refine q_cond_t hF rfl hc9 (q_seq (q_region (q_x (v:=(.bool false)) hF hS (ex_assign rfl) rfl rfl fun a hF=>q_end (n_sq (q_ret (r_sq (r_ib (r_sq ?_))))))))
       obtain rfl:=someI hb4
       refine ⟨nofun,.inr fun ho=>?_⟩
       subst ho
       refine r_ib (r_sq ?_)
       obtain rfl:=someI hr
       exact ret_of hF hS rfl (.tmp rfl .nil) rfl
   ·rintro e a w ⟨rfl,rfl,hF,hS⟩
    refine x_ib (n_sq ?_)
    refine q_seq (q_region (q_x (v:=(.bool true)) hF hS (ex_assign rfl) rfl rfl fun a hF=>q_end (n_sq (q_ret ?_))))
    obtain rfl:=someI hr
    exact ret_of hF hS rfl (.tmp rfl .nil) rfl
  ·have hr:=cond_t hc3 hr
   refine q_cond_t hF rfl hc3 (q_seq (q_region (q_x (v:=(.bool false)) hF hS (ex_assign rfl) rfl rfl fun a hF=>q_end (n_sq (q_ret (r_sq ?_))))))
   obtain rfl:=someI hr
   exact ret_of hF hS rfl (.tmp rfl .nil) rfl

theorem c_impl_groupCount (p_s : List impl_Variable) (p_g : impl_Grouping) (r : Int) (hr : impl_groupCount p_s p_g = some r) (w0 : World) (m : Mem) (hv : Vis m w0) (s1 : Sl) (h1 : Rd m s1 p_s) (s2 : Sl) (h2 : Rd m s2 p_g.Groups) :
  Ret Try.prog 34 [s1.v,(.agg #[(iV p_g.Var),s2.v])] w0 (fun v _=>v = (iV r)):=by
 unfold impl_groupCount at hr
 refine ret_start Try.func34 rfl 66 rfl rfl m hv fun a hF hS=>q_seq (q_region (q_box (cs:=[(iV p_g.Var),s2.v]) hF hS rfl rfl rfl fun a w b3 hF hS=>q_x (v:=(iV 0)) hF hS (ex_assign rfl) rfl rfl fun a hF=>q_end (n_sq (q_seq (q_seq ?_)))))
 obtain ⟨t_6,hj1,hr⟩:=bindS hr
 refine q_join (fun a w=>Fr a 66 [(3,(.pointer (some ⟨b3,0,none⟩))),(32,(.bool t_6))]∧St [] w0 w m [[⟨b3,[(iV p_g.Var),s2.v],26⟩]]) ?_ ?_
 ·refine e_region ⟨[],[]⟩ mixed fun w' hw'=>?_
  have hS:=hS.below hw'
  refine e_p (v:=(.pointer (some ⟨b3,0,none⟩))) 0 hF rfl (ex_fieldAddr Try.underlying26 rfl sz3 rfl rfl) rfl rfl (by kernel_rfl) (by kernel_rfl) (by kernel_rfl) fun a hF=>e_x (v:=(iV p_g.Var)) 1 hF hS rfl (ex_load1 0 0 Try.underlying3 rfl rfl rfl rfl) rfl rfl (by kernel_rfl) (by kernel_rfl) (by kernel_rfl) (by kernel_rfl) fun a hF=>e_p (v:=(.bool (decide (p_g.Var < 0)))) 2 hF rfl (ex_ibin rfl rfl rfl) rfl rfl (by kernel_rfl) (by kernel_rfl) (by kernel_rfl) fun a hF=>e_p (v:=(.bool (decide (p_g.Var < 0)))) 3 hF rfl (ex_move rfl) rfl rfl (by kernel_rfl) (by kernel_rfl) (by kernel_rfl) fun a hF=>?_
  rcases bcase (decide (p_g.Var < 0)) with hc2 | hc2
  ·have hj1:=cond_f hc2 hj1
   refine e_pg (v:=(.pointer (some ⟨b3,0,none⟩))) 4 hF rfl (ex_fieldAddr Try.underlying26 rfl sz3 rfl rfl) (wanted_t hF rfl rfl rfl hc2) rfl (by kernel_rfl) (by kernel_rfl) (by kernel_rfl) fun a hF=>e_xg (v:=(iV p_g.Var)) 5 hF hS rfl (ex_load1 0 0 Try.underlying3 rfl rfl rfl rfl) (wanted_t hF rfl rfl rfl hc2) rfl (by kernel_rfl) (by kernel_rfl) (by kernel_rfl) (by kernel_rfl) fun a hF=>e_pg (v:=s1.v) 6 hF rfl (ex_move rfl) (wanted_t hF rfl rfl rfl hc2) rfl (by kernel_rfl) (by kernel_rfl) (by kernel_rfl) fun a hF=>e_pg (v:=(iV (goLen p_s))) 7 hF rfl (ex_len Try.underlying23 rfl h1.len) (wanted_t hF rfl rfl rfl hc2) rfl (by kernel_rfl) (by kernel_rfl) (by kernel_rfl) fun a hF=>e_pg (v:=(.bool (decide ((goLen p_s) ≤ p_g.Var)))) 8 hF rfl (ex_ibin rfl rfl rfl) (wanted_t hF rfl rfl rfl hc2) rfl (by kernel_rfl) (by kernel_rfl) (by kernel_rfl) fun a hF=>e_p (v:=(.bool (decide ((goLen p_s) ≤ p_g.Var)))) 9 hF rfl (ex_pick_f rfl rfl hc2) rfl rfl (by kernel_rfl) (by kernel_rfl) (by kernel_rfl) fun a hF=>e_p (v:=(.bool (decide ((goLen p_s) ≤ p_g.Var)))) 10 hF rfl (ex_move rfl) rfl rfl (by kernel_rfl) (by kernel_rfl) (by kernel_rfl) fun a hF=>?_
   rcases bcase (decide ((goLen p_s) ≤ p_g.Var)) with hc3 | hc3
   ·have hj1:=cond_f hc3 hj1
    refine e_pg (v:=(.pointer (some ⟨b3,1,none⟩))) 11 hF rfl (ex_fieldAddr Try.underlying26 rfl sz24 rfl rfl) (wanted_t hF rfl rfl rfl hc3) rfl (by kernel_rfl) (by kernel_rfl) (by kernel_rfl) fun a hF=>e_xg (v:=s2.v) 12 hF hS rfl (ex_load1 0 0 Try.underlying24 rfl rfl rfl rfl) (wanted_t hF rfl rfl rfl hc3) rfl (by kernel_rfl) (by kernel_rfl) (by kernel_rfl) (by kernel_rfl) fun a hF=>e_pg (v:=(iV (goLen p_g.Groups))) 13 hF rfl (ex_len Try.underlying24 rfl h2.len) (wanted_t hF rfl rfl rfl hc3) rfl (by kernel_rfl) (by kernel_rfl) (by kernel_rfl) fun a hF=>e_pg (v:=s1.v) 14 hF rfl (ex_move rfl) (wanted_t hF rfl rfl rfl hc3) rfl (by kernel_rfl) (by kernel_rfl) (by kernel_rfl) fun a hF=>e_pg (v:=(.pointer (some ⟨b3,0,none⟩))) 15 hF rfl (ex_fieldAddr Try.underlying26 rfl sz3 rfl rfl) (wanted_t hF rfl rfl rfl hc3) rfl (by kernel_rfl) (by kernel_rfl) (by kernel_rfl) fun a hF=>e_xg (v:=(iV p_g.Var)) 16 hF hS rfl (ex_load1 0 0 Try.underlying3 rfl rfl rfl rfl) (wanted_t hF rfl rfl rfl hc3) rfl (by kernel_rfl) (by kernel_rfl) (by kernel_rfl) (by kernel_rfl) fun a hF=>?_
    obtain ⟨e_4,he_4,hj1⟩:=bindS hj1
    obtain ⟨vs5,at5,d5⟩:=h1.at he_4 2 rfl
    obtain rfl : vs5 = [(strV e_4.Name),(iV e_4.Levels)]:=d5
    refine e_pg (v:=(elP s1 (p_g.Var.toNat * 2))) 17 hF rfl (ex_indexAddr Try.underlying23 sz85 rfl rfl (h1.idx he_4)) (wanted_t hF rfl rfl rfl hc3) rfl (by kernel_rfl) (by kernel_rfl) (by kernel_rfl) fun a hF=>e_pg (v:=(elP s1 (p_g.Var.toNat * 2 + 1))) 18 hF rfl (ex_fieldAddrE Try.underlying85 rfl sz3 rfl (h1.idx he_4) rfl) (wanted_t hF rfl rfl rfl hc3) rfl (by kernel_rfl) (by kernel_rfl) (by kernel_rfl) fun a hF=>e_xg (v:=(iV e_4.Levels)) 19 hF hS rfl (ex_loadE1 1 Try.underlying3 rfl rfl ((at5).at) rfl rfl) (wanted_t hF rfl rfl rfl hc3) rfl (by kernel_rfl) (by kernel_rfl) (by kernel_rfl) (by kernel_rfl) fun a hF=>e_pg (v:=(.bool ((goLen p_g.Groups) != e_4.Levels))) 20 hF rfl (ex_ibin rfl rfl rfl) (wanted_t hF rfl rfl rfl hc3) rfl (by kernel_rfl) (by kernel_rfl) (by kernel_rfl) fun a hF=>e_p (v:=(.bool ((goLen p_g.Groups) != e_4.Levels))) 21 hF rfl (ex_pick_f rfl rfl hc3) rfl rfl (by kernel_rfl) (by kernel_rfl) (by kernel_rfl) fun a hF=>e_end (by kernel_rfl) (n_jn ?_) _
    obtain rfl:=someI hj1
    exact ⟨hF.sub ⟨rfl,rfl,trivial⟩,hS⟩
   ·have hj1:=cond_t hc3 hj1
    refine e_skipP 11 hF rfl (wanted_f hF rfl rfl rfl hc3 rfl) rfl (by kernel_rfl) (by kernel_rfl) (by kernel_rfl) fun a hF=>e_skipP 12 hF rfl (wanted_f hF rfl rfl rfl hc3 rfl) rfl (by kernel_rfl) (by kernel_rfl) (by kernel_rfl) fun a hF=>e_skipP 13 hF rfl (wanted_f hF rfl rfl rfl hc3 rfl) rfl (by kernel_rfl) (by kernel_rfl) (by kernel_rfl) fun a hF=>e_skipP 14 hF rfl (wanted_f hF rfl rfl rfl hc3 rfl) rfl (by kernel_rfl) (by kernel_rfl) (by kernel_rfl) fun a hF=>e_skipP 15 hF rfl (wanted_f hF rfl rfl rfl hc3 rfl) rfl (by kernel_rfl) (by kernel_rfl) (by kernel_rfl) fun a hF=>e_skipP 16 hF rfl (wanted_f hF rfl rfl rfl hc3 rfl) rfl (by kernel_rfl) (by kernel_rfl) (by kernel_rfl) fun a hF=>e_skipP 17 hF rfl (wanted_f hF rfl rfl rfl hc3 rfl) rfl (by kernel_rfl) (by kernel_rfl) (by kernel_rfl) fun a hF=>e_skipP 18 hF rfl (wanted_f hF rfl rfl rfl hc3 rfl) rfl (by kernel_rfl) (by kernel_rfl) (by kernel_rfl) fun a hF=>e_skipP 19 hF rfl (wanted_f hF rfl rfl rfl hc3 rfl) rfl (by kernel_rfl) (by kernel_rfl) (by kernel_rfl) fun a hF=>e_skipP 20 hF rfl (wanted_f hF rfl rfl rfl hc3 rfl) rfl (by kernel_rfl) (by kernel_rfl) (by kernel_rfl) fun a hF=>e_p (v:=(.bool true)) 21 hF rfl (ex_pick_t rfl rfl hc3) rfl rfl (by kernel_rfl) (by kernel_rfl) (by kernel_rfl) fun a hF=>e_end (by kernel_rfl) (n_jn ?_) _
    obtain rfl:=someI hj1
    exact ⟨hF.sub ⟨rfl,rfl,trivial⟩,hS⟩
  ·have hj1:=cond_t hc2 hj1
   refine e_skipP 4 hF rfl (wanted_f hF rfl rfl rfl hc2 rfl) rfl (by kernel_rfl) (by kernel_rfl) (by kernel_rfl) fun a hF=>e_skipP 5 hF rfl (wanted_f hF rfl rfl rfl hc2 rfl) rfl (by kernel_rfl) (by kernel_rfl) (by kernel_rfl) fun a hF=>e_skipP 6 hF rfl (wanted_f hF rfl rfl rfl hc2 rfl) rfl (by kernel_rfl) (by kernel_rfl) (by kernel_rfl) fun a hF=>e_skipP 7 hF rfl (wanted_f hF rfl rfl rfl hc2 rfl) rfl (by kernel_rfl) (by kernel_rfl) (by kernel_rfl) fun a hF=>e_skipP 8 hF rfl (wanted_f hF rfl rfl rfl hc2 rfl) rfl (by kernel_rfl) (by kernel_rfl) (by kernel_rfl) fun a hF=>e_p (v:=(.bool true)) 9 hF rfl (ex_pick_t rfl rfl hc2) rfl rfl (by kernel_rfl) (by kernel_rfl) (by kernel_rfl) fun a hF=>e_p (v:=(.bool true)) 10 hF rfl (ex_move rfl) rfl rfl (by kernel_rfl) (by kernel_rfl) (by kernel_rfl) fun a hF=>e_skipP 11 hF rfl (wanted_f hF rfl rfl rfl rfl rfl) rfl (by kernel_rfl) (by kernel_rfl) (by kernel_rfl) fun a hF=>e_skipP 12 hF rfl (wanted_f hF rfl rfl rfl rfl rfl) rfl (by kernel_rfl) (by kernel_rfl) (by kernel_rfl) fun a hF=>e_skipP 13 hF rfl (wanted_f hF rfl rfl rfl rfl rfl) rfl (by kernel_rfl) (by kernel_rfl) (by kernel_rfl) fun a hF=>e_skipP 14 hF rfl (wanted_f hF rfl rfl rfl rfl rfl) rfl (by kernel_rfl) (by kernel_rfl) (by kernel_rfl) fun a hF=>e_skipP 15 hF rfl (wanted_f hF rfl rfl rfl rfl rfl) rfl (by kernel_rfl) (by kernel_rfl) (by kernel_rfl) fun a hF=>e_skipP 16 hF rfl (wanted_f hF rfl rfl rfl rfl rfl) rfl (by kernel_rfl) (by kernel_rfl) (by kernel_rfl) fun a hF=>e_skipP 17 hF rfl (wanted_f hF rfl rfl rfl rfl rfl) rfl (by kernel_rfl) (by kernel_rfl) (by kernel_rfl) fun a hF=>e_skipP 18 hF rfl (wanted_f hF rfl rfl rfl rfl rfl) rfl (by kernel_rfl) (by kernel_rfl) (by kernel_rfl) fun a hF=>e_skipP 19 hF rfl (wanted_f hF rfl rfl rfl rfl rfl) rfl (by kernel_rfl) (by kernel_rfl) (by kernel_rfl) fun a hF=>e_skipP 20 hF rfl (wanted_f hF rfl rfl rfl rfl rfl) rfl (by kernel_rfl) (by kernel_rfl) (by kernel_rfl) fun a hF=>e_p (v:=(.bool true)) 21 hF rfl (ex_pick_t rfl rfl rfl) rfl rfl (by kernel_rfl) (by kernel_rfl) (by kernel_rfl) fun a hF=>e_end (by kernel_rfl) (n_jn ?_) _
   obtain rfl:=someI hj1
   exact ⟨hF.sub ⟨rfl,rfl,trivial⟩,hS⟩
 ·rintro a w ⟨hF,hS⟩
  refine n_sq ?_
  rcases bcase (t_6) with hc4 | hc4
  ·have hr:=cond_f hc4 hr
   refine q_cond_f hF rfl hc4 (q_skipc (n_sq (q_seq (q_region (q_alloc (cs:=[(.bool false),(.bool false),(.bool false),(.bool false),(.bool false),(.bool false),(.bool false),(.bool false)]) hF hS rfl rfl rfl fun a w b7 hF hS=>q_end (n_sq (q_seq (q_region (q_x (v:=(iV 0)) hF hS (ex_assign rfl) rfl rfl fun a hF=>q_end (n_sq (q_seq (q_seq (q_region (q_x (v:=(.pointer (some ⟨b3,1,none⟩))) hF hS (ex_fieldAddr Try.underlying26 rfl sz24 rfl rfl) rfl rfl fun a hF=>q_x (v:=s2.v) hF hS (ex_load1 1 0 Try.underlying24 rfl rfl rfl rfl) rfl rfl fun a hF=>q_x (v:=(iV (goLen p_g.Groups))) hF hS (ex_len Try.underlying24 rfl h2.len) rfl rfl fun a hF=>q_x (v:=(iV 0)) hF hS (ex_move rfl) rfl rfl fun a hF=>q_end (n_sq (q_block ?_))))))))))))))))
   obtain ⟨o5,hl5,hr⟩:=bindS hr
   refine q_loop (fun (s : Int × Int × (Bool × Bool × Bool × Bool × Bool × Bool × Bool × Bool)) a w=>∃ k_8,∃ t_9,∃ used_10,s = (k_8,t_9,used_10)∧Fr a 66 [(5,(.pointer (some ⟨b7,0,none⟩))),(6,(iV k_8)),(34,s2.v),(35,(iV (goLen p_g.Groups))),(36,(iV t_9))]∧St [] w0 w m [[⟨b7,[(.bool used_10.1),(.bool used_10.2.1),(.bool used_10.2.2.1),(.bool used_10.2.2.2.1),(.bool used_10.2.2.2.2.1),(.bool used_10.2.2.2.2.2.1),(.bool used_10.2.2.2.2.2.2.1),(.bool used_10.2.2.2.2.2.2.2)],102⟩]]) (fun (o : (Int × (Bool × Bool × Bool × Bool × Bool × Bool × Bool × Bool)) ⊕ (Int)) e a w=>∃ k_16,∃ used_17,o = .inl (k_16,used_17)∧e = .exit 0∧Fr a 66 [(5,(.pointer (some ⟨b7,0,none⟩))),(6,(iV k_16))]∧St [] w0 w m [[⟨b7,[(.bool used_17.1),(.bool used_17.2.1),(.bool used_17.2.2.1),(.bool used_17.2.2.2.1),(.bool used_17.2.2.2.2.1),(.bool used_17.2.2.2.2.2.1),(.bool used_17.2.2.2.2.2.2.1),(.bool used_17.2.2.2.2.2.2.2)],102⟩]]) hl5 ⟨_,_,_,rfl,hF.sub ⟨rfl,rfl,rfl,rfl,rfl,trivial⟩,hS.mask [true,false]⟩ ?_ ?_
   ·clear hF hS
    rintro s a w st ⟨k_8,t_9,used_10,rfl,hF,hS⟩ hb5
    unfold impl_groupCount_l1 at hb5
    refine q_seq (q_region (q_x (v:=(.bool (decide (t_9 < (goLen p_g.Groups))))) hF hS (ex_ibin rfl rfl rfl) rfl rfl fun a hF=>q_end (n_sq (q_seq ?_))))
    rcases bcase (decide (t_9 < (goLen p_g.Groups))) with hc6 | hc6
    ·have hb5:=cond_f hc6 hb5
     refine q_cond_f hF rfl hc6 (q_exit (x_sq ?_))
     obtain rfl:=someI hb5
     exact ⟨nofun,.inl ⟨_,_,rfl,rfl,hF.sub ⟨rfl,rfl,trivial⟩,hS⟩⟩
    ·have hb5:=cond_t hc6 hb5
     refine q_cond_t hF rfl hc6 (q_skipc (n_sq (q_seq (q_block (q_seq (q_region ?_))))))
     obtain ⟨e_11,he_11,hb5⟩:=bindS hb5
     obtain ⟨vs12,at12,d12⟩:=h2.at he_11 1 rfl
     obtain rfl : vs12 = [(iV e_11)]:=d12
     refine q_x (v:=(elP s2 (t_9.toNat * 1))) hF hS (ex_indexAddr Try.underlying24 sz3 rfl rfl (h2.idx he_11)) rfl rfl fun a hF=>q_x (v:=(iV e_11)) hF hS (ex_loadE1 0 Try.underlying3 rfl rfl ((at12).at) rfl rfl) rfl rfl fun a hF=>q_x (v:=(iV e_11)) hF hS (ex_assign rfl) rfl rfl fun a hF=>q_end (n_sq (q_seq (q_seq ?_)))
     obtain ⟨t_13,hj7,hb5⟩:=bindS hb5
     refine q_join (fun a w=>Fr a 66 [(5,(.pointer (some ⟨b7,0,none⟩))),(6,(iV k_8)),(8,(iV e_11)),(34,s2.v),(35,(iV (goLen p_g.Groups))),(36,(iV t_9)),(45,(.bool t_13))]∧St [] w0 w m [[⟨b7,[(.bool used_10.1),(.bool used_10.2.1),(.bool used_10.2.2.1),(.bool used_10.2.2.2.1),(.bool used_10.2.2.2.2.1),(.bool used_10.2.2.2.2.2.1),(.bool used_10.2.2.2.2.2.2.1),(.bool used_10.2.2.2.2.2.2.2)],102⟩]]) ?_ ?_
     ·refine q_region (q_x (v:=(iV e_11)) hF hS (ex_move rfl) rfl rfl fun a hF=>q_x (v:=(.bool (decide (e_11 < 0)))) hF hS (ex_ibin rfl rfl rfl) rfl rfl fun a hF=>q_x (v:=(.bool (decide (e_11 < 0)))) hF hS (ex_move rfl) rfl rfl fun a hF=>?_)
      rcases bcase (decide (e_11 < 0)) with hc8 | hc8
      ·have hj7:=cond_f hc8 hj7
       refine q_xg (v:=(iV e_11)) hF hS (ex_move rfl) (wanted_t hF rfl rfl rfl hc8) rfl fun a hF=>q_xg (v:=(.bool (decide (8 ≤ e_11)))) hF hS (ex_ibin rfl rfl rfl) (wanted_t hF rfl rfl rfl hc8) rfl fun a hF=>q_x (v:=(.bool (decide (8 ≤ e_11)))) hF hS (ex_pick_f rfl rfl hc8) rfl rfl fun a hF=>q_end (n_jn ?_)
       obtain rfl:=someI hj7
       exact ⟨hF.sub ⟨rfl,rfl,rfl,rfl,rfl,rfl,rfl,trivial⟩,hS⟩
      ·have hj7:=cond_t hc8 hj7
       refine q_skip hF (wanted_f hF rfl rfl rfl hc8 rfl) rfl fun a hF=>q_skip hF (wanted_f hF rfl rfl rfl hc8 rfl) rfl fun a hF=>q_x (v:=(.bool true)) hF hS (ex_pick_t rfl rfl hc8) rfl rfl fun a hF=>q_end (n_jn ?_)
       obtain rfl:=someI hj7
       exact ⟨hF.sub ⟨rfl,rfl,rfl,rfl,rfl,rfl,rfl,trivial⟩,hS⟩
     ·rintro a w ⟨hF,hS⟩
      refine n_sq ?_
      rcases bcase (t_13) with hc9 | hc9
      ·have hb5:=cond_f hc9 hb5
       refine q_cond_f hF rfl hc9 (q_skipc (n_sq (q_seq (q_region (q_x (v:=(iV e_11)) hF hS (ex_move rfl) rfl rfl fun a hF=>?_)))))
       obtain ⟨u_14,hu_14,hb5⟩:=bindS hb5
       refine q_x (v:=(.pointer (some ⟨b7,e_11.toNat,none⟩))) hF hS (ex_indexAddrD Try.underlying102 sz4 rfl rfl hu_14) rfl rfl fun a hF=>?_
       obtain ⟨l_15,hl_15,hb5⟩:=bindS hb5
       refine q_store (vs:=[(.bool true)]) (cs':=[(.bool (l_15.getD 0 (false : Bool))),(.bool (l_15.getD 1 (false : Bool))),(.bool (l_15.getD 2 (false : Bool))),(.bool (l_15.getD 3 (false : Bool))),(.bool (l_15.getD 4 (false : Bool))),(.bool (l_15.getD 5 (false : Bool))),(.bool (l_15.getD 6 (false : Bool))),(.bool (l_15.getD 7 (false : Bool)))]) 0 0 hF hS sz4 rfl rfl rfl rfl rfl rfl (goIx_ble hu_14) (goSet_cs (enc:=fun (e : Bool)=>(.bool e)) (false : Bool) hu_14 rfl hl_15) fun a w hF hS=>q_end (n_sq (q_region (q_x (v:=(iV k_8)) hF hS (ex_move rfl) rfl rfl fun a hF=>q_x (v:=(iV e_11)) hF hS (ex_move rfl) rfl rfl fun a hF=>q_x (v:=(iV (w64 (e_11 + 1)))) hF hS (ex_ibin rfl rfl rfl) rfl rfl fun a hF=>q_x (v:=(iV (max k_8 (w64 (e_11 + 1))))) hF hS (ex_max rfl rfl) rfl rfl fun a hF=>q_x (v:=(iV (max k_8 (w64 (e_11 + 1))))) hF hS (ex_assign rfl) rfl rfl fun a hF=>q_end (n_ib (n_sq (q_region (q_x (v:=(iV (w64 (t_9 + 1)))) hF hS (ex_ibin rfl rfl rfl) rfl rfl fun a hF=>q_x (v:=(iV (w64 (t_9 + 1)))) hF hS (ex_move rfl) rfl rfl fun a hF=>q_end ?_)))))))
       obtain rfl:=someI hb5
       exact ⟨rfl,_,_,_,rfl,hF.sub ⟨rfl,rfl,rfl,rfl,rfl,trivial⟩,hS⟩
      ·have hb5:=cond_t hc9 hb5
       refine q_cond_t hF rfl hc9 (q_seq (q_region (q_x (v:=(iV 0)) hF hS (ex_assign rfl) rfl rfl fun a hF=>q_end (n_sq (q_ret (r_sq (r_ib (r_sq ?_))))))))
       obtain rfl:=someI hb5
       refine ⟨nofun,.inr fun ho=>?_⟩
       subst ho
       refine r_ib (r_sq ?_)
       obtain rfl:=someI hr
       exact ret_of hF hS rfl (.tmp rfl .nil) rfl
   ·rintro e a w ⟨k_16,used_17,rfl,rfl,hF,hS⟩
    refine x_ib (n_sq ?_)
    refine q_seq (q_seq (q_region (q_x (v:=(iV k_16)) hF hS (ex_move rfl) rfl rfl fun a hF=>?_)))
    obtain ⟨m18,hm18,hS,hz18⟩:=hS.freeze
    obtain ⟨l_19,hl_19,hr⟩:=bindS hr
    have h18 : Rd m18 (⟨some ⟨b7,0,none⟩,k_16.toNat,8⟩ : Sl) l_19:=rd_arr (enc:=fun (e : Bool)=>(.bool e)) (l:=([used_17.1,used_17.2.1,used_17.2.2.1,used_17.2.2.2.1,used_17.2.2.2.2.1,used_17.2.2.2.2.2.1,used_17.2.2.2.2.2.2.1,used_17.2.2.2.2.2.2.2] : List Bool)) rfl (fun _=>rfl) (hz18 _ (List.mem_singleton.2 rfl)) rfl (by decide) hl_19
    refine q_x (v:=(⟨some ⟨b7,0,none⟩,k_16.toNat,8⟩ : Sl).v) hF hS (ex_sliceA Try.underlying102 sz4 rfl rfl rfl hl_19) rfl rfl fun a hF=>q_x (v:=(iV (goLen l_19))) hF hS (ex_len Try.underlying103 rfl h18.len) rfl rfl fun a hF=>q_x (v:=(iV 0)) hF hS (ex_move rfl) rfl rfl fun a hF=>q_end (n_sq (q_block ?_))
    obtain ⟨o10,hl10,hr⟩:=bindS hr
    refine q_loop (fun (t_20 : Int) a w=>Fr a 66 [(6,(iV k_16)),(54,(⟨some ⟨b7,0,none⟩,k_16.toNat,8⟩ : Sl).v),(55,(iV (goLen l_19))),(56,(iV t_20))]∧St [] w0 w m18 []) (fun (o : (Unit) ⊕ (Int)) e a w=>o = .inl ()∧e = .exit 2∧Fr a 66 [(6,(iV k_16))]∧St [] w0 w m18 []) hl10 ⟨hF.sub ⟨rfl,rfl,rfl,rfl,trivial⟩,hS⟩ ?_ ?_
    ·clear hF hS
     rintro t_20 a w st ⟨hF,hS⟩ hb10
     unfold impl_groupCount_l2 at hb10
     refine q_seq (q_region (q_x (v:=(.bool (decide (t_20 < (goLen l_19))))) hF hS (ex_ibin rfl rfl rfl) rfl rfl fun a hF=>q_end (n_sq (q_seq ?_))))
     rcases bcase (decide (t_20 < (goLen l_19))) with hc11 | hc11
     ·have hb10:=cond_f hc11 hb10
      refine q_cond_f hF rfl hc11 (q_exit (x_sq ?_))
      obtain rfl:=someI hb10
      exact ⟨nofun,.inl ⟨rfl,rfl,hF.sub ⟨rfl,trivial⟩,hS⟩⟩
     ·have hb10:=cond_t hc11 hb10
      refine q_cond_t hF rfl hc11 (q_skipc (n_sq (q_seq (q_block (q_seq (q_region ?_))))))
      obtain ⟨e_21,he_21,hb10⟩:=bindS hb10
      obtain ⟨vs22,at22,d22⟩:=h18.at he_21 1 rfl
      obtain rfl : vs22 = [(.bool e_21)]:=d22
      refine q_x (v:=(elP (⟨some ⟨b7,0,none⟩,k_16.toNat,8⟩ : Sl) (t_20.toNat * 1))) hF hS (ex_indexAddr Try.underlying103 sz4 rfl rfl (h18.idx he_21)) rfl rfl fun a hF=>q_x (v:=(.bool e_21)) hF hS (ex_loadE1 0 Try.underlying4 rfl rfl ((at22).at) rfl rfl) rfl rfl fun a hF=>q_x (v:=(.bool e_21)) hF hS (ex_assign rfl) rfl rfl fun a hF=>q_end (n_sq (q_seq (q_region (q_x (v:=(.bool e_21)) hF hS (ex_move rfl) rfl rfl fun a hF=>q_x (v:=(.bool (!e_21))) hF hS (ex_not rfl) rfl rfl fun a hF=>q_end (n_sq ?_)))))
      rcases bcase (!e_21) with hc12 | hc12
      ·have hb10:=cond_f hc12 hb10
       refine q_cond_f hF rfl hc12 (q_skipc (n_ib (n_sq (q_region (q_x (v:=(iV (w64 (t_20 + 1)))) hF hS (ex_ibin rfl rfl rfl) rfl rfl fun a hF=>q_x (v:=(iV (w64 (t_20 + 1)))) hF hS (ex_move rfl) rfl rfl fun a hF=>q_end ?_)))))
       obtain rfl:=someI hb10
       exact ⟨rfl,hF.sub ⟨rfl,rfl,rfl,rfl,trivial⟩,hS⟩
      ·have hb10:=cond_t hc12 hb10
       refine q_cond_t hF rfl hc12 (q_seq (q_region (q_x (v:=(iV 0)) hF hS (ex_assign rfl) rfl rfl fun a hF=>q_end (n_sq (q_ret (r_ib (r_sq ?_)))))))
       obtain rfl:=someI hb10
       refine ⟨nofun,.inr fun ho=>?_⟩
       subst ho
       refine r_ib (r_sq ?_)
       obtain rfl:=someI hr
       exact ret_of hF hS rfl (.tmp rfl .nil) rfl
    ·rintro e a w ⟨rfl,rfl,hF,hS⟩
     refine x_ib (n_sq ?_)
     refine q_seq (q_seq (q_region (q_x (v:=(iV k_16)) hF hS (ex_move rfl) rfl rfl fun a hF=>q_x (v:=(.bool (decide (k_16 < 2)))) hF hS (ex_ibin rfl rfl rfl) rfl rfl fun a hF=>q_end (n_sq ?_))))
     rcases bcase (decide (k_16 < 2)) with hc13 | hc13
     ·have hr:=cond_f hc13 hr
      refine q_cond_f hF rfl hc13 (q_skipc (n_sq (q_seq (q_region (q_x (v:=(iV k_16)) hF hS (ex_move rfl) rfl rfl fun a hF=>q_x (v:=(iV k_16)) hF hS (ex_assign rfl) rfl rfl fun a hF=>q_end (n_sq (q_ret ?_)))))))
      obtain rfl:=someI hr
      exact ret_of hF hS rfl (.tmp rfl .nil) rfl
     ·have hr:=cond_t hc13 hr
      refine q_cond_t hF rfl hc13 (q_seq (q_region (q_x (v:=(iV 0)) hF hS (ex_assign rfl) rfl rfl fun a hF=>q_end (n_sq (q_ret (r_sq ?_))))))
      obtain rfl:=someI hr
      exact ret_of hF hS rfl (.tmp rfl .nil) rfl
  ·have hr:=cond_t hc4 hr
   refine q_cond_t hF rfl hc4 (q_seq (q_region (q_x (v:=(iV 0)) hF hS (ex_assign rfl) rfl rfl fun a hF=>q_end (n_sq (q_ret (r_sq ?_))))))
   obtain rfl:=someI hr
   exact ret_of hF hS rfl (.tmp rfl .nil) rfl

theorem c_impl_areValues (p_s : List impl_Variable) (p_values : List Int) (r : Bool) (hr : impl_areValues p_s p_values = some r) (w0 : World) (m : Mem) (hv : Vis m w0) (s1 : Sl) (h1 : Rd m s1 p_s) (s2 : Sl) (h2 : Rd m s2 p_values) :
  Ret Try.prog 47 [s1.v,s2.v] w0 (fun v _=>v = (.bool r)):=by
 unfold impl_areValues at hr
 refine ret_start Try.func47 rfl 31 rfl rfl m hv fun a hF hS=>q_seq (q_region (q_x (v:=(.bool false)) hF hS (ex_assign rfl) rfl rfl fun a hF=>q_end (n_sq (q_seq (q_seq (q_region (q_x (v:=s2.v) hF hS (ex_move rfl) rfl rfl fun a hF=>q_x (v:=(iV (goLen p_values))) hF hS (ex_len Try.underlying24 rfl h2.len) rfl rfl fun a hF=>q_x (v:=s1.v) hF hS (ex_move rfl) rfl rfl fun a hF=>q_x (v:=(iV (goLen p_s))) hF hS (ex_len Try.underlying23 rfl h1.len) rfl rfl fun a hF=>q_x (v:=(.bool ((goLen p_values) != (goLen p_s)))) hF hS (ex_ibin rfl rfl rfl) rfl rfl fun a hF=>q_end (n_sq ?_))))))))
 rcases bcase ((goLen p_values) != (goLen p_s)) with hc1 | hc1
 ·have hr:=cond_f hc1 hr
  refine q_cond_f hF rfl hc1 (q_skipc (n_sq (q_seq (q_seq (q_region (q_x (v:=s2.v) hF hS (ex_move rfl) rfl rfl fun a hF=>q_x (v:=(iV (goLen p_values))) hF hS (ex_len Try.underlying24 rfl h2.len) rfl rfl fun a hF=>q_x (v:=(iV 0)) hF hS (ex_move rfl) rfl rfl fun a hF=>q_end (n_sq (q_block ?_))))))))
  obtain ⟨o2,hl2,hr⟩:=bindS hr
  refine q_loop (fun (t_3 : Int) a w=>Fr a 31 [(0,s1.v),(12,s2.v),(13,(iV (goLen p_values))),(14,(iV t_3))]∧St [] w0 w m []) (fun (o : (Unit) ⊕ (Bool)) e a w=>o = .inl ()∧e = .exit 0∧Fr a 31 []∧St [] w0 w m []) hl2 ⟨hF.sub ⟨rfl,rfl,rfl,rfl,trivial⟩,hS⟩ ?_ ?_
  ·clear hF hS
   rintro t_3 a w st ⟨hF,hS⟩ hb2
   unfold impl_areValues_l1 at hb2
   refine q_seq (q_region (q_x (v:=(.bool (decide (t_3 < (goLen p_values))))) hF hS (ex_ibin rfl rfl rfl) rfl rfl fun a hF=>q_end (n_sq (q_seq ?_))))
   rcases bcase (decide (t_3 < (goLen p_values))) with hc3 | hc3
   ·have hb2:=cond_f hc3 hb2
    refine q_cond_f hF rfl hc3 (q_exit (x_sq ?_))
    obtain rfl:=someI hb2
    exact ⟨nofun,.inl ⟨rfl,rfl,hF.sub trivial,hS⟩⟩
   ·have hb2:=cond_t hc3 hb2
    refine q_cond_t hF rfl hc3 (q_skipc (n_sq (q_seq (q_block (q_seq (q_region (q_x (v:=(iV t_3)) hF hS (ex_move rfl) rfl rfl fun a hF=>?_)))))))
    obtain ⟨e_4,he_4,hb2⟩:=bindS hb2
    obtain ⟨vs5,at5,d5⟩:=h2.at he_4 1 rfl
    obtain rfl : vs5 = [(iV e_4)]:=d5
    refine q_x (v:=(elP s2 (t_3.toNat * 1))) hF hS (ex_indexAddr Try.underlying24 sz3 rfl rfl (h2.idx he_4)) rfl rfl fun a hF=>q_x (v:=(iV e_4)) hF hS (ex_loadE1 0 Try.underlying3 rfl rfl ((at5).at) rfl rfl) rfl rfl fun a hF=>q_x (v:=(iV t_3)) hF hS (ex_assign rfl) rfl rfl fun a hF=>q_x (v:=(iV e_4)) hF hS (ex_assign rfl) rfl rfl fun a hF=>q_end (n_sq (q_seq ?_))
    obtain ⟨t_8,hj4,hb2⟩:=bindS hb2
    refine q_join (fun a w=>Fr a 31 [(0,s1.v),(12,s2.v),(13,(iV (goLen p_values))),(14,(iV t_3)),(29,(.bool t_8))]∧St [] w0 w m []) ?_ ?_
    ·refine q_region (q_x (v:=(iV e_4)) hF hS (ex_move rfl) rfl rfl fun a hF=>q_x (v:=(.bool (decide (e_4 < 0)))) hF hS (ex_ibin rfl rfl rfl) rfl rfl fun a hF=>q_x (v:=(.bool (decide (e_4 < 0)))) hF hS (ex_move rfl) rfl rfl fun a hF=>?_)
     rcases bcase (decide (e_4 < 0)) with hc5 | hc5
     ·have hj4:=cond_f hc5 hj4
      refine q_xg (v:=(iV e_4)) hF hS (ex_move rfl) (wanted_t hF rfl rfl rfl hc5) rfl fun a hF=>q_xg (v:=s1.v) hF hS (ex_move rfl) (wanted_t hF rfl rfl rfl hc5) rfl fun a hF=>q_xg (v:=(iV t_3)) hF hS (ex_move rfl) (wanted_t hF rfl rfl rfl hc5) rfl fun a hF=>?_
      obtain ⟨e_6,he_6,hj4⟩:=bindS hj4
      obtain ⟨vs7,at7,d7⟩:=h1.at he_6 2 rfl
      obtain rfl : vs7 = [(strV e_6.Name),(iV e_6.Levels)]:=d7
      refine q_xg (v:=(elP s1 (t_3.toNat * 2))) hF hS (ex_indexAddr Try.underlying23 sz85 rfl rfl (h1.idx he_6)) (wanted_t hF rfl rfl rfl hc5) rfl fun a hF=>q_xg (v:=(elP s1 (t_3.toNat * 2 + 1))) hF hS (ex_fieldAddrE Try.underlying85 rfl sz3 rfl (h1.idx he_6) rfl) (wanted_t hF rfl rfl rfl hc5) rfl fun a hF=>q_xg (v:=(iV e_6.Levels)) hF hS (ex_loadE1 1 Try.underlying3 rfl rfl ((at7).at) rfl rfl) (wanted_t hF rfl rfl rfl hc5) rfl fun a hF=>q_xg (v:=(.bool (decide (e_6.Levels ≤ e_4)))) hF hS (ex_ibin rfl rfl rfl) (wanted_t hF rfl rfl rfl hc5) rfl fun a hF=>q_x (v:=(.bool (decide (e_6.Levels ≤ e_4)))) hF hS (ex_pick_f rfl rfl hc5) rfl rfl fun a hF=>q_end (n_jn ?_)
      obtain rfl:=someI hj4
      exact ⟨hF.sub ⟨rfl,rfl,rfl,rfl,rfl,trivial⟩,hS⟩
     ·have hj4:=cond_t hc5 hj4
      refine q_skip hF (wanted_f hF rfl rfl rfl hc5 rfl) rfl fun a hF=>q_skip hF (wanted_f hF rfl rfl rfl hc5 rfl) rfl fun a hF=>q_skip hF (wanted_f hF rfl rfl rfl hc5 rfl) rfl fun a hF=>q_skip hF (wanted_f hF rfl rfl rfl hc5 rfl) rfl fun a hF=>q_skip hF (wanted_f hF rfl rfl rfl hc5 rfl) rfl fun a hF=>q_skip hF (wanted_f hF rfl rfl rfl hc5 rfl) rfl fun a hF=>q_skip hF (wanted_f hF rfl rfl rfl hc5 rfl) rfl fun a hF=>q_x (v:=(.bool true)) hF hS (ex_pick_t rfl rfl hc5) rfl rfl fun a hF=>q_end (n_jn ?_)
      obtain rfl:=someI hj4
      exact ⟨hF.sub ⟨rfl,rfl,rfl,rfl,rfl,trivial⟩,hS⟩
    ·rintro a w ⟨hF,hS⟩
     refine n_sq ?_
     rcases bcase (t_8) with hc6 | hc6
     ·have hb2:=cond_f hc6 hb2
      refine q_cond_f hF rfl hc6 (q_skipc (n_ib (n_sq (q_region (q_x (v:=(iV (w64 (t_3 + 1)))) hF hS (ex_ibin rfl rfl rfl) rfl rfl fun a hF=>q_x (v:=(iV (w64 (t_3 + 1)))) hF hS (ex_move rfl) rfl rfl fun a hF=>q_end ?_)))))
      obtain rfl:=someI hb2
      exact ⟨rfl,hF.sub ⟨rfl,rfl,rfl,rfl,trivial⟩,hS⟩
     ·have hb2:=cond_t hc6 hb2
      refine q_cond_t hF rfl hc6 (q_seq (q_region (q_x (v:=(.bool false)) hF hS (ex_assign rfl) rfl rfl fun a hF=>q_end (n_sq (q_ret (r_ib (r_sq ?_)))))))
      obtain rfl:=someI hb2
      refine ⟨nofun,.inr fun ho=>?_⟩
      subst ho
      refine r_ib (r_sq ?_)
      obtain rfl:=someI hr
      exact ret_of hF hS rfl (.tmp rfl .nil) rfl
  ·rintro e a w ⟨rfl,rfl,hF,hS⟩
   refine x_ib (n_sq ?_)
   refine q_seq (q_region (q_x (v:=(.bool true)) hF hS (ex_assign rfl) rfl rfl fun a hF=>q_end (n_sq (q_ret ?_))))
   obtain rfl:=someI hr
   exact ret_of hF hS rfl (.tmp rfl .nil) rfl
 ·have hr:=cond_t hc1 hr
  refine q_cond_t hF rfl hc1 (q_seq (q_region (q_x (v:=(.bool false)) hF hS (ex_assign rfl) rfl rfl fun a hF=>q_end (n_sq (q_ret (r_sq ?_))))))
  obtain rfl:=someI hr
  exact ret_of hF hS rfl (.tmp rfl .nil) rfl

theorem c_impl_isRecord (p_s : List impl_Variable) (p_r : impl_Record) (r : Bool) (hr : impl_isRecord p_s p_r = some r) (w0 : World) (m : Mem) (hv : Vis m w0) (s1 : Sl) (h1 : Rd m s1 p_s) (s2 : Sl) (h2 : Rd m s2 p_r.Values) :
  Ret Try.prog 46 [s1.v,(.agg #[(iV p_r.Area),(iV p_r.House),s2.v])] w0 (fun v _=>v = (.bool r)):=by
 unfold impl_isRecord at hr
 refine ret_start Try.func46 rfl 29 rfl rfl m hv fun a hF hS=>q_seq (q_region (q_box (cs:=[(iV p_r.Area),(iV p_r.House),s2.v]) hF hS rfl rfl rfl fun a w b3 hF hS=>q_x (v:=(.bool false)) hF hS (ex_assign rfl) rfl rfl fun a hF=>q_end (n_sq (q_seq ?_))))
 obtain ⟨t_5,hj1,hr⟩:=bindS hr
 refine q_join (fun a w=>Fr a 29 [(4,(.bool t_5))]∧St [] w0 w m []) ?_ ?_
 ·refine q_region (q_x (v:=(.pointer (some ⟨b3,0,none⟩))) hF hS (ex_fieldAddr Try.underlying36 rfl sz3 rfl rfl) rfl rfl fun a hF=>q_x (v:=(iV p_r.Area)) hF hS (ex_load1 0 0 Try.underlying3 rfl rfl rfl rfl) rfl rfl fun a hF=>q_x (v:=(.bool (decide (0 ≤ p_r.Area)))) hF hS (ex_ibin rfl rfl rfl) rfl rfl fun a hF=>q_x (v:=(.bool (decide (0 ≤ p_r.Area)))) hF hS (ex_move rfl) rfl rfl fun a hF=>?_)
  rcases bcase (decide (0 ≤ p_r.Area)) with hc2 | hc2
  ·have hj1:=cond_f hc2 hj1
   refine q_skip hF (wanted_f hF rfl rfl rfl hc2 rfl) rfl fun a hF=>q_skip hF (wanted_f hF rfl rfl rfl hc2 rfl) rfl fun a hF=>q_skip hF (wanted_f hF rfl rfl rfl hc2 rfl) rfl fun a hF=>q_x (v:=(.bool false)) hF hS (ex_pick_f rfl rfl hc2) rfl rfl fun a hF=>q_x (v:=(.bool false)) hF hS (ex_move rfl) rfl rfl fun a hF=>q_skip hF (wanted_f hF rfl rfl rfl rfl rfl) rfl fun a hF=>q_skip hF (wanted_f hF rfl rfl rfl rfl rfl) rfl fun a hF=>q_skip hF (wanted_f hF rfl rfl rfl rfl rfl) rfl fun a hF=>q_x (v:=(.bool false)) hF hS (ex_pick_f rfl rfl rfl) rfl rfl fun a hF=>q_x (v:=(.bool false)) hF hS (ex_move rfl) rfl rfl fun a hF=>q_skip hF (wanted_f hF rfl rfl rfl rfl rfl) rfl fun a hF=>q_skip hF (wanted_f hF rfl rfl rfl rfl rfl) rfl fun a hF=>q_skip hF (wanted_f hF rfl rfl rfl rfl rfl) rfl fun a hF=>q_x (v:=(.bool false)) hF hS (ex_pick_f rfl rfl rfl) rfl rfl fun a hF=>q_x (v:=(.bool false)) hF hS (ex_move rfl) rfl rfl fun a hF=>q_skip hF (wanted_f hF rfl rfl rfl rfl rfl) rfl fun a hF=>q_skip hF (wanted_f hF rfl rfl rfl rfl rfl) rfl fun a hF=>q_skip hF (wanted_f hF rfl rfl rfl rfl rfl) rfl fun a hF=>q_skip hF (wanted_f hF rfl rfl rfl rfl rfl) rfl fun a hF=>q_x (v:=(.bool false)) hF hS (ex_pick_f rfl rfl rfl) rfl rfl fun a hF=>q_x (v:=(.bool false)) hF hS (ex_assign rfl) rfl rfl fun a hF=>q_end (n_jn ?_)
   obtain rfl:=someI hj1
   exact ⟨hF.sub ⟨rfl,trivial⟩,hS.mask [false]⟩
  ·have hj1:=cond_t hc2 hj1
   refine q_xg (v:=(.pointer (some ⟨b3,0,none⟩))) hF hS (ex_fieldAddr Try.underlying36 rfl sz3 rfl rfl) (wanted_t hF rfl rfl rfl hc2) rfl fun a hF=>q_xg (v:=(iV p_r.Area)) hF hS (ex_load1 0 0 Try.underlying3 rfl rfl rfl rfl) (wanted_t hF rfl rfl rfl hc2) rfl fun a hF=>q_xg (v:=(.bool (decide (p_r.Area ≤ 29)))) hF hS (ex_ibin rfl rfl rfl) (wanted_t hF rfl rfl rfl hc2) rfl fun a hF=>q_x (v:=(.bool (decide (p_r.Area ≤ 29)))) hF hS (ex_pick_t rfl rfl hc2) rfl rfl fun a hF=>q_x (v:=(.bool (decide (p_r.Area ≤ 29)))) hF hS (ex_move rfl) rfl rfl fun a hF=>?_
   rcases bcase (decide (p_r.Area ≤ 29)) with hc3 | hc3
   ·have hj1:=cond_f hc3 hj1
    refine q_skip hF (wanted_f hF rfl rfl rfl hc3 rfl) rfl fun a hF=>q_skip hF (wanted_f hF rfl rfl rfl hc3 rfl) rfl fun a hF=>q_skip hF (wanted_f hF rfl rfl rfl hc3 rfl) rfl fun a hF=>q_x (v:=(.bool false)) hF hS (ex_pick_f rfl rfl hc3) rfl rfl fun a hF=>q_x (v:=(.bool false)) hF hS (ex_move rfl) rfl rfl fun a hF=>q_skip hF (wanted_f hF rfl rfl rfl rfl rfl) rfl fun a hF=>q_skip hF (wanted_f hF rfl rfl rfl rfl rfl) rfl fun a hF=>q_skip hF (wanted_f hF rfl rfl rfl rfl rfl) rfl fun a hF=>q_x (v:=(.bool false)) hF hS (ex_pick_f rfl rfl rfl) rfl rfl fun a hF=>q_x (v:=(.bool false)) hF hS (ex_move rfl) rfl rfl fun a hF=>q_skip hF (wanted_f hF rfl rfl rfl rfl rfl) rfl fun a hF=>q_skip hF (wanted_f hF rfl rfl rfl rfl rfl) rfl fun a hF=>q_skip hF (wanted_f hF rfl rfl rfl rfl rfl) rfl fun a hF=>q_skip hF (wanted_f hF rfl rfl rfl rfl rfl) rfl fun a hF=>q_x (v:=(.bool false)) hF hS (ex_pick_f rfl rfl rfl) rfl rfl fun a hF=>q_x (v:=(.bool false)) hF hS (ex_assign rfl) rfl rfl fun a hF=>q_end (n_jn ?_)
    obtain rfl:=someI hj1
    exact ⟨hF.sub ⟨rfl,trivial⟩,hS.mask [false]⟩
   ·have hj1:=cond_t hc3 hj1
    refine q_xg (v:=(.pointer (some ⟨b3,1,none⟩))) hF hS (ex_fieldAddr Try.underlying36 rfl sz3 rfl rfl) (wanted_t hF rfl rfl rfl hc3) rfl fun a hF=>q_xg (v:=(iV p_r.House)) hF hS (ex_load1 0 0 Try.underlying3 rfl rfl rfl rfl) (wanted_t hF rfl rfl rfl hc3) rfl fun a hF=>q_xg (v:=(.bool (decide (0 ≤ p_r.House)))) hF hS (ex_ibin rfl rfl rfl) (wanted_t hF rfl rfl rfl hc3) rfl fun a hF=>q_x (v:=(.bool (decide (0 ≤ p_r.House)))) hF hS (ex_pick_t rfl rfl hc3) rfl rfl fun a hF=>q_x (v:=(.bool (decide (0 ≤ p_r.House)))) hF hS (ex_move rfl) rfl rfl fun a hF=>?_
    rcases bcase (decide (0 ≤ p_r.House)) with hc4 | hc4
    ·have hj1:=cond_f hc4 hj1
     refine q_skip hF (wanted_f hF rfl rfl rfl hc4 rfl) rfl fun a hF=>q_skip hF (wanted_f hF rfl rfl rfl hc4 rfl) rfl fun a hF=>q_skip hF (wanted_f hF rfl rfl rfl hc4 rfl) rfl fun a hF=>q_x (v:=(.bool false)) hF hS (ex_pick_f rfl rfl hc4) rfl rfl fun a hF=>q_x (v:=(.bool false)) hF hS (ex_move rfl) rfl rfl fun a hF=>q_skip hF (wanted_f hF rfl rfl rfl rfl rfl) rfl fun a hF=>q_skip hF (wanted_f hF rfl rfl rfl rfl rfl) rfl fun a hF=>q_skip hF (wanted_f hF rfl rfl rfl rfl rfl) rfl fun a hF=>q_skip hF (wanted_f hF rfl rfl rfl rfl rfl) rfl fun a hF=>q_x (v:=(.bool false)) hF hS (ex_pick_f rfl rfl rfl) rfl rfl fun a hF=>q_x (v:=(.bool false)) hF hS (ex_assign rfl) rfl rfl fun a hF=>q_end (n_jn ?_)
     obtain rfl:=someI hj1
     exact ⟨hF.sub ⟨rfl,trivial⟩,hS.mask [false]⟩
    ·have hj1:=cond_t hc4 hj1
     refine q_xg (v:=(.pointer (some ⟨b3,1,none⟩))) hF hS (ex_fieldAddr Try.underlying36 rfl sz3 rfl rfl) (wanted_t hF rfl rfl rfl hc4) rfl fun a hF=>q_xg (v:=(iV p_r.House)) hF hS (ex_load1 0 0 Try.underlying3 rfl rfl rfl rfl) (wanted_t hF rfl rfl rfl hc4) rfl fun a hF=>q_xg (v:=(.bool (decide (p_r.House ≤ 999)))) hF hS (ex_ibin rfl rfl rfl) (wanted_t hF rfl rfl rfl hc4) rfl fun a hF=>q_x (v:=(.bool (decide (p_r.House ≤ 999)))) hF hS (ex_pick_t rfl rfl hc4) rfl rfl fun a hF=>q_x (v:=(.bool (decide (p_r.House ≤ 999)))) hF hS (ex_move rfl) rfl rfl fun a hF=>?_
     rcases bcase (decide (p_r.House ≤ 999)) with hc5 | hc5
     ·have hj1:=cond_f hc5 hj1
      refine q_skip hF (wanted_f hF rfl rfl rfl hc5 rfl) rfl fun a hF=>q_skip hF (wanted_f hF rfl rfl rfl hc5 rfl) rfl fun a hF=>q_skip hF (wanted_f hF rfl rfl rfl hc5 rfl) rfl fun a hF=>q_skip hF (wanted_f hF rfl rfl rfl hc5 rfl) rfl fun a hF=>q_x (v:=(.bool false)) hF hS (ex_pick_f rfl rfl hc5) rfl rfl fun a hF=>q_x (v:=(.bool false)) hF hS (ex_assign rfl) rfl rfl fun a hF=>q_end (n_jn ?_)
      obtain rfl:=someI hj1
      exact ⟨hF.sub ⟨rfl,trivial⟩,hS.mask [false]⟩
     ·have hj1:=cond_t hc5 hj1
      refine q_xg (v:=s1.v) hF hS (ex_move rfl) (wanted_t hF rfl rfl rfl hc5) rfl fun a hF=>q_xg (v:=(.pointer (some ⟨b3,2,none⟩))) hF hS (ex_fieldAddr Try.underlying36 rfl sz24 rfl rfl) (wanted_t hF rfl rfl rfl hc5) rfl fun a hF=>q_xg (v:=s2.v) hF hS (ex_load1 0 0 Try.underlying24 rfl rfl rfl rfl) (wanted_t hF rfl rfl rfl hc5) rfl fun a hF=>?_
      obtain ⟨t_4,ht_4,hj1⟩:=bindS hj1
      refine q_callg (vs:=[s1.v,s2.v]) hF hS (wanted_t hF rfl rfl rfl hc5) Try.func47 (by kernel_rfl) rfl rfl rfl (c_impl_areValues p_s p_r.Values t_4 ht_4 _ m hS.vis s1 h1 s2 h2) ?_
      rintro a w _ rfl hF hS
      refine q_x (v:=(.bool t_4)) hF hS (ex_pick_t rfl rfl hc5) rfl rfl fun a hF=>q_x (v:=(.bool t_4)) hF hS (ex_assign rfl) rfl rfl fun a hF=>q_end (n_jn ?_)
      obtain rfl:=someI hj1
      exact ⟨hF.sub ⟨rfl,trivial⟩,hS.mask [false]⟩
 ·rintro a w ⟨hF,hS⟩
  refine n_sq (q_ret ?_)
  obtain rfl:=someI hr
  exact ret_of hF hS rfl (.tmp rfl .nil) rfl

theorem c_impl_isData (p_s : List impl_Variable) (p_l : List impl_Record) (r : Bool) (hr : impl_isData p_s p_l = some r) (w0 : World) (m : Mem) (hv : Vis m w0) (s1 : Sl) (h1 : Rd m s1 p_s) (s2 : Sl) (h2 : Rd m s2 p_l) :
  Ret Try.prog 35 [s1.v,s2.v] w0 (fun v _=>v = (.bool r)):=by
 unfold impl_isData at hr
 refine ret_start Try.func35 rfl 21 rfl rfl m hv fun a hF hS=>q_seq (q_region (q_x (v:=(.bool false)) hF hS (ex_assign rfl) rfl rfl fun a hF=>q_end (n_sq (q_seq (q_seq (q_region (q_x (v:=s2.v) hF hS (ex_move rfl) rfl rfl fun a hF=>q_x (v:=(iV (goLen p_l))) hF hS (ex_len Try.underlying27 rfl h2.len) rfl rfl fun a hF=>q_x (v:=(.bool (decide (40 < (goLen p_l))))) hF hS (ex_ibin rfl rfl rfl) rfl rfl fun a hF=>q_end (n_sq ?_))))))))
 rcases bcase (decide (40 < (goLen p_l))) with hc1 | hc1
 ·have hr:=cond_f hc1 hr
  refine q_cond_f hF rfl hc1 (q_skipc (n_sq (q_seq (q_seq (q_region (q_x (v:=s2.v) hF hS (ex_move rfl) rfl rfl fun a hF=>q_x (v:=(iV (goLen p_l))) hF hS (ex_len Try.underlying27 rfl h2.len) rfl rfl fun a hF=>q_x (v:=(iV 0)) hF hS (ex_move rfl) rfl rfl fun a hF=>q_end (n_sq (q_block ?_))))))))
  obtain ⟨o2,hl2,hr⟩:=bindS hr
  refine q_loop (fun (t_3 : Int) a w=>Fr a 21 [(0,s1.v),(10,s2.v),(11,(iV (goLen p_l))),(12,(iV t_3))]∧St [] w0 w m []) (fun (o : (Unit) ⊕ (Bool)) e a w=>o = .inl ()∧e = .exit 0∧Fr a 21 []∧St [] w0 w m []) hl2 ⟨hF.sub ⟨rfl,rfl,rfl,rfl,trivial⟩,hS⟩ ?_ ?_
  ·clear hF hS
   rintro t_3 a w st ⟨hF,hS⟩ hb2
   unfold impl_isData_l1 at hb2
   refine q_seq (q_region (q_x (v:=(.bool (decide (t_3 < (goLen p_l))))) hF hS (ex_ibin rfl rfl rfl) rfl rfl fun a hF=>q_end (n_sq (q_seq ?_))))
   rcases bcase (decide (t_3 < (goLen p_l))) with hc3 | hc3
   ·have hb2:=cond_f hc3 hb2
    refine q_cond_f hF rfl hc3 (q_exit (x_sq ?_))
    obtain rfl:=someI hb2
    exact ⟨nofun,.inl ⟨rfl,rfl,hF.sub trivial,hS⟩⟩
   ·have hb2:=cond_t hc3 hb2
    refine q_cond_t hF rfl hc3 (q_skipc (n_sq (q_seq (q_block (q_seq (q_region ?_))))))
    obtain ⟨e_4,he_4,hb2⟩:=bindS hb2
    obtain ⟨vs5,at5,d5⟩:=h2.at he_4 3 rfl
    obtain ⟨s6,rfl,h6⟩ : ∃ s6 : Sl,vs5 = [(iV e_4.Area),(iV e_4.House),s6.v]∧Rd m s6 e_4.Values:=d5
    refine q_x (v:=(elP s2 (t_3.toNat * 3))) hF hS (ex_indexAddr Try.underlying27 sz36 rfl rfl (h2.idx he_4)) rfl rfl fun a hF=>q_x (v:=(.agg #[(iV e_4.Area),(iV e_4.House),s6.v])) hF hS (ex_loadEA (us:=[(iV e_4.Area),(iV e_4.House),s6.v]) 0 Try.underlying36 rfl sz36 rfl ((at5).at) rfl rfl rfl) rfl rfl fun a hF=>q_alloc (cs:=[(iV 0),(iV 0),nilS.v]) hF hS rfl rfl rfl fun a w b7 hF hS=>q_store (vs:=[(iV e_4.Area),(iV e_4.House),s6.v]) (cs':=[(iV e_4.Area),(iV e_4.House),s6.v]) 0 0 hF hS sz36 rfl rfl rfl rfl rfl rfl rfl rfl fun a w hF hS=>q_end (n_sq (q_seq (q_region (q_x (v:=s1.v) hF hS (ex_move rfl) rfl rfl fun a hF=>q_x (v:=(.agg #[(iV e_4.Area),(iV e_4.House),s6.v])) hF hS (ex_loadA (vs:=[(iV e_4.Area),(iV e_4.House),s6.v]) 0 0 Try.underlying36 rfl sz36 rfl rfl rfl rfl) rfl rfl fun a hF=>?_))))
    obtain ⟨t_8,ht_8,hb2⟩:=bindS hb2
    refine q_call (vs:=[s1.v,(.agg #[(iV e_4.Area),(iV e_4.House),s6.v])]) hF hS Try.func46 (by kernel_rfl) rfl rfl rfl (c_impl_isRecord p_s e_4 t_8 ht_8 _ m hS.vis s1 h1 s6 h6) ?_
    rintro a w _ rfl hF hS
    refine q_x (v:=(.bool (!t_8))) hF hS (ex_not rfl) rfl rfl fun a hF=>q_end (n_sq ?_)
    rcases bcase (!t_8) with hc4 | hc4
    ·have hb2:=cond_f hc4 hb2
     refine q_cond_f hF rfl hc4 (q_skipc (n_ib (n_sq (q_region (q_x (v:=(iV (w64 (t_3 + 1)))) hF hS (ex_ibin rfl rfl rfl) rfl rfl fun a hF=>q_x (v:=(iV (w64 (t_3 + 1)))) hF hS (ex_move rfl) rfl rfl fun a hF=>q_end ?_)))))
     obtain rfl:=someI hb2
     exact ⟨rfl,hF.sub ⟨rfl,rfl,rfl,rfl,trivial⟩,hS.mask [false]⟩
    ·have hb2:=cond_t hc4 hb2
     refine q_cond_t hF rfl hc4 (q_seq (q_region (q_x (v:=(.bool false)) hF hS (ex_assign rfl) rfl rfl fun a hF=>q_end (n_sq (q_ret (r_ib (r_sq ?_)))))))
     obtain rfl:=someI hb2
     refine ⟨nofun,.inr fun ho=>?_⟩
     subst ho
     refine r_ib (r_sq ?_)
     obtain rfl:=someI hr
     exact ret_of hF hS rfl (.tmp rfl .nil) rfl
  ·rintro e a w ⟨rfl,rfl,hF,hS⟩
   refine x_ib (n_sq ?_)
   refine q_seq (q_region (q_x (v:=(.bool true)) hF hS (ex_assign rfl) rfl rfl fun a hF=>q_end (n_sq (q_ret ?_))))
   obtain rfl:=someI hr
   exact ret_of hF hS rfl (.tmp rfl .nil) rfl
 ·have hr:=cond_t hc1 hr
  refine q_cond_t hF rfl hc1 (q_seq (q_region (q_x (v:=(.bool false)) hF hS (ex_assign rfl) rfl rfl fun a hF=>q_end (n_sq (q_ret (r_sq ?_))))))
  obtain rfl:=someI hr
  exact ret_of hF hS rfl (.tmp rfl .nil) rfl

theorem c_slices_Clone_int_int (p_s : List Int) (r : (List Int)) (hr : slices_Clone_int_int p_s = some r) (w0 : World) (m : Mem) (hv : Vis m w0) (s1 : Sl) (h1 : Rd m s1 p_s) :
  Ret Try.prog 48 [s1.v] w0 (fun v w=>∃ (q0' : Piece) (s0' : Sl),v = s0'.v∧St [] w0 w m [q0']∧OwnL m 3 q0' s0' r):=by
 unfold slices_Clone_int_int at hr
 refine ret_start Try.func48 rfl 8 rfl rfl m hv fun a hF hS=>q_seq (q_region (q_x (v:=nilS.v) hF hS (ex_assign rfl) rfl rfl fun a hF=>q_end (n_sq (q_seq (q_seq (q_region (q_x (v:=s1.v) hF hS (ex_move rfl) rfl rfl fun a hF=>q_x (v:=(.bool s1.p.isNone)) hF hS (ex_eqNil Try.underlying24 rfl rfl) rfl rfl fun a hF=>q_end (n_sq ?_))))))))
 rcases bcase (s1.p.isNone) with hc1 | hc1
 ·refine q_cond_f hF rfl hc1 (q_skipc (n_sq (q_seq (q_region (q_do rfl fun _ hK=>wp_build0 (α:=Int) hF hS Try.underlying24 inf3 rfl fun a w q2 s2 hF hS h2 _=>hK _ _ (q_x (v:=s1.v) hF hS (ex_move rfl) rfl rfl fun a hF=>?_))))))
  obtain ⟨l_3,hl_3,hr⟩:=bindS hr
  refine q_do rfl fun _ hK=>wp_append hF hS h2 Try.underlying24 inf3 rfl rfl rfl rfl (h1.vw hS.vis) rfl (by decide) hl_3 rfl fun a w q4 s4 hF hS h4=>hK _ _ (q_x (v:=s4.v) hF hS (ex_assign rfl) rfl rfl fun a hF=>q_end (n_sq (q_ret ?_)))
  obtain rfl:=someI hr
  exact ret_of hF hS rfl (.tmp rfl .nil) ⟨q4,s4,rfl,hS.sel [0] (by decide),h4⟩
 ·have hnhc1:=h1.nilE hc1
  have hr : (some ([] : List Int)) = some r:=by rw [hnhc1] at hr; exact hr
  refine q_cond_t hF rfl hc1 (q_seq (q_region (q_x (v:=nilS.v) hF hS (ex_assign rfl) rfl rfl fun a hF=>q_end (n_sq (q_ret (r_sq ?_))))))
  obtain rfl:=someI hr
  exact ret_of hF hS rfl (.tmp rfl .nil) ⟨[],nilS,rfl,hS.sel [0] (by decide),(OwnL.nil (α:=Int) m 3)⟩

theorem c_impl_copyRecord (p_r : impl_Record) (r : impl_Record) (hr : impl_copyRecord p_r = some r) (w0 : World) (m : Mem) (hv : Vis m w0) (s1 : Sl) (h1 : Rd m s1 p_r.Values) :
  Ret Try.prog 75 [(.agg #[(iV p_r.Area),(iV p_r.House),s1.v])] w0 (fun v w=>∃ (q0' : Piece) (s0' : Sl),v = (.agg #[(iV r.Area),(iV r.House),s0'.v])∧St [] w0 w m [q0']∧OwnL m 3 q0' s0' r.Values):=by
 unfold impl_copyRecord at hr
 refine ret_start Try.func75 rfl 8 rfl rfl m hv fun a hF hS=>q_seq (q_region (q_box (cs:=[(iV p_r.Area),(iV p_r.House),s1.v]) hF hS rfl rfl rfl fun a w b2 hF hS=>q_alloc (cs:=[(iV 0),(iV 0),nilS.v]) hF hS rfl rfl rfl fun a w b3 hF hS=>q_end (n_sq (q_seq (q_region (q_x (v:=(.pointer (some ⟨b2,2,none⟩))) hF hS (ex_fieldAddr Try.underlying36 rfl sz24 rfl rfl) rfl rfl fun a hF=>q_x (v:=s1.v) hF hS (ex_load1 1 0 Try.underlying24 rfl rfl rfl rfl) rfl rfl fun a hF=>?_))))))
 obtain ⟨t_4,ht_4,hr⟩:=bindS hr
 refine q_call (vs:=[s1.v]) hF hS Try.func48 (by kernel_rfl) rfl rfl rfl (c_slices_Clone_int_int p_r.Values t_4 ht_4 _ m hS.vis s1 h1) ?_
 rintro a w _ ⟨q6,s6,rfl,hR5,h6⟩ hF hS2
 have hS : St _ _ _ _ [q6,[⟨b3,[(iV 0),(iV 0),nilS.v],36⟩],[⟨b2,[(iV p_r.Area),(iV p_r.House),s1.v],36⟩]]:=hS.joinF hR5
 refine q_x (v:=(.pointer (some ⟨b2,2,none⟩))) hF hS (ex_fieldAddr Try.underlying36 rfl sz24 rfl rfl) rfl rfl fun a hF=>q_store (vs:=[s6.v]) (cs':=[(iV p_r.Area),(iV p_r.House),s6.v]) 2 0 hF hS sz24 rfl rfl rfl rfl rfl rfl rfl rfl fun a w hF hS=>q_end (n_sq (q_seq (q_region (q_x (v:=(.agg #[(iV p_r.Area),(iV p_r.House),s6.v])) hF hS (ex_loadA (vs:=[(iV p_r.Area),(iV p_r.House),s6.v]) 2 0 Try.underlying36 rfl sz36 rfl rfl rfl rfl) rfl rfl fun a hF=>q_store (vs:=[(iV p_r.Area),(iV p_r.House),s6.v]) (cs':=[(iV p_r.Area),(iV p_r.House),s6.v]) 1 0 hF hS sz36 rfl rfl rfl rfl rfl rfl rfl rfl fun a w hF hS=>q_end (n_sq (q_ret ?_))))))
 obtain rfl:=someI hr
 exact ret_of hF hS rfl (.cellA (us:=[(iV p_r.Area),(iV p_r.House),s6.v]) 1 0 Try.underlying36 rfl sz36 rfl rfl rfl rfl .nil) ⟨q6,s6,rfl,hS.sel [0] (by decide),h6⟩

theorem c_impl_copyRecords (p_l : List impl_Record) (r : (List impl_Record)) (hr : impl_copyRecords p_l = some r) (w0 : World) (m : Mem) (hv : Vis m w0) (s1 : Sl) (h1 : Rd m s1 p_l) :
  Ret Try.prog 36 [s1.v] w0 (fun v w=>∃ (m' : Mem) (q0' : Piece) (s0' : Sl),v = s0'.v∧MLe [] w0.heap.size m m'∧St [] w0 w m' [q0']∧OwnL m' 36 q0' s0' r):=by
 unfold impl_copyRecords at hr
 refine ret_start Try.func36 rfl 23 rfl rfl m hv fun a hF hS=>q_seq (q_region (q_x (v:=nilS.v) hF hS (ex_assign rfl) rfl rfl fun a hF=>q_end (n_sq (q_seq (q_region (q_x (v:=s1.v) hF hS (ex_move rfl) rfl rfl fun a hF=>q_x (v:=(iV (goLen p_l))) hF hS (ex_len Try.underlying27 rfl h1.len) rfl rfl fun a hF=>?_))))))
 obtain ⟨l_2,hl_2,hr⟩:=bindS hr
 refine q_do rfl fun _ hK=>wp_make (z:=((impl_Record.mk 0 0 ([] : List Int)) : impl_Record)) hF hS Try.underlying27 inf36 rfl rfl rfl rfl ⟨nilS,rfl,(Rd.nil0 (α:=Int) m)⟩ (by decide) hl_2 rfl fun a w q3 s3 hF hS h3 _=>hK _ _ (q_x (v:=s3.v) hF hS (ex_assign rfl) rfl rfl fun a hF=>q_end (n_sq (q_seq (q_seq (q_region (q_x (v:=s1.v) hF hS (ex_move rfl) rfl rfl fun a hF=>q_x (v:=(iV (goLen p_l))) hF hS (ex_len Try.underlying27 rfl h1.len) rfl rfl fun a hF=>q_x (v:=(iV 0)) hF hS (ex_move rfl) rfl rfl fun a hF=>q_end (n_sq (q_block ?_))))))))
 obtain ⟨c_20,hl1,hr⟩:=bindS hr
 refine q_loop (fun (s : (List impl_Record) × Int) a w=>∃ (m7 : Mem),∃ (q5 : Piece),∃ c_4,∃ t_6,s = (c_4,t_6)∧Fr a 23 [(3,s3.v),(9,s1.v),(10,(iV (goLen p_l))),(11,(iV t_6))]∧St [] w0 w m7 [q5]∧MLe [] w0.heap.size m m7∧OwnL m7 36 q5 s3 c_4) (fun (c_20 : (List impl_Record)) e a w=>∃ (m22 : Mem),∃ (q21 : Piece),e = .exit 0∧Fr a 23 [(3,s3.v)]∧St [] w0 w m22 [q21]∧MLe [] w0.heap.size m m22∧OwnL m22 36 q21 s3 c_20) hl1 ⟨m,q3,_,_,rfl,hF.sub ⟨rfl,rfl,rfl,rfl,trivial⟩,hS,(MLe.refl _ _),h3⟩ ?_ ?_
 ·clear hF hS
  rintro s a w st ⟨m7,q5,c_4,t_6,rfl,hF,hS,hm7,h5⟩ hb1
  unfold impl_copyRecords_l1 at hb1
  refine q_seq (q_region (q_x (v:=(.bool (decide (t_6 < (goLen p_l))))) hF hS (ex_ibin rfl rfl rfl) rfl rfl fun a hF=>q_end (n_sq (q_seq ?_))))
  rcases bcase (decide (t_6 < (goLen p_l))) with hc2 | hc2
  ·have hb1:=cond_f hc2 hb1
   refine q_cond_f hF rfl hc2 (q_exit (x_sq ?_))
   obtain rfl:=someI hb1
   exact ⟨nofun,.inl ⟨m7,q5,rfl,hF.sub ⟨rfl,trivial⟩,hS,hm7,h5⟩⟩
  ·have hb1:=cond_t hc2 hb1
   refine q_cond_t hF rfl hc2 (q_skipc (n_sq (q_seq (q_block (q_seq (q_region (q_x (v:=(iV t_6)) hF hS (ex_move rfl) rfl rfl fun a hF=>?_)))))))
   obtain ⟨e_8,he_8,hb1⟩:=bindS hb1
   obtain ⟨vs9,at9,d9⟩:=(h1.mono hm7.le).at he_8 3 rfl
   obtain ⟨s10,rfl,h10⟩ : ∃ s10 : Sl,vs9 = [(iV e_8.Area),(iV e_8.House),s10.v]∧Rd m7 s10 e_8.Values:=d9
   refine q_x (v:=(elP s1 (t_6.toNat * 3))) hF hS (ex_indexAddr Try.underlying27 sz36 rfl rfl ((h1.mono hm7.le).idx he_8)) rfl rfl fun a hF=>q_x (v:=(.agg #[(iV e_8.Area),(iV e_8.House),s10.v])) hF hS (ex_loadEA (us:=[(iV e_8.Area),(iV e_8.House),s10.v]) 0 Try.underlying36 rfl sz36 rfl ((at9).at) rfl rfl rfl) rfl rfl fun a hF=>q_alloc (cs:=[(iV 0),(iV 0),nilS.v]) hF hS rfl rfl rfl fun a w b11 hF hS=>q_x (v:=(iV t_6)) hF hS (ex_assign rfl) rfl rfl fun a hF=>q_store (vs:=[(iV e_8.Area),(iV e_8.House),s10.v]) (cs':=[(iV e_8.Area),(iV e_8.House),s10.v]) 0 0 hF hS sz36 rfl rfl rfl rfl rfl rfl rfl rfl fun a w hF hS=>q_end (n_sq (q_region (q_x (v:=s3.v) hF hS (ex_move rfl) rfl rfl fun a hF=>q_x (v:=(iV t_6)) hF hS (ex_move rfl) rfl rfl fun a hF=>q_x (v:=(.agg #[(iV e_8.Area),(iV e_8.House),s10.v])) hF hS (ex_loadA (vs:=[(iV e_8.Area),(iV e_8.House),s10.v]) 0 0 Try.underlying36 rfl sz36 rfl rfl rfl rfl) rfl rfl fun a hF=>?_)))
   obtain ⟨t_12,ht_12,hb1⟩:=bindS hb1
   refine q_call (vs:=[(.agg #[(iV e_8.Area),(iV e_8.House),s10.v])]) hF hS Try.func75 (by kernel_rfl) rfl rfl rfl (c_impl_copyRecord e_8 t_12 ht_12 _ m7 hS.vis s10 h10) ?_
   rintro a w _ ⟨q14,s14,rfl,hR13,h14⟩ hF hS2
   have hS : St _ _ _ _ [q14,[⟨b11,[(iV e_8.Area),(iV e_8.House),s10.v],36⟩],q5]:=hS.joinF hR13
   obtain ⟨e_15,he_15,hb1⟩:=bindS hb1
   obtain ⟨vs16,at16,d16⟩:=h5.at he_15 3 rfl
   obtain ⟨s17,rfl,h17⟩ : ∃ s17 : Sl,vs16 = [(iV e_15.Area),(iV e_15.House),s17.v]∧Rd m7 s17 e_15.Values:=d16
   refine q_x (v:=(elP s3 (t_6.toNat * 3))) hF hS (ex_indexAddr Try.underlying27 sz36 rfl rfl (h5.idx he_15)) rfl rfl fun a hF=>?_
   obtain ⟨m18,hm18,hS,hz18⟩:=hS.freeze
   have h18:=h14.froz hm18.le hz18
   have hS : St _ _ _ _ [q5,[⟨b11,[(iV e_8.Area),(iV e_8.House),s10.v],36⟩]]:=hS.sel [1,0] (by decide)
   refine q_do rfl fun _ hK=>wp_storeE (e':=t_12) (us:=[(iV t_12.Area),(iV t_12.House),s14.v]) (vs:=[(iV e_15.Area),(iV e_15.House),s17.v]) 0 hF hS (h5.mono hm18.le) sz36 rfl rfl rfl rfl rfl rfl rfl he_15 at16 rfl rfl ⟨s14,rfl,h18⟩ fun w q19 hS h19=>hK _ _ (q_end (n_ib (n_sq (q_region (q_x (v:=(iV (w64 (t_6 + 1)))) hF hS (ex_ibin rfl rfl rfl) rfl rfl fun a hF=>q_x (v:=(iV (w64 (t_6 + 1)))) hF hS (ex_move rfl) rfl rfl fun a hF=>q_end ?_)))))
   obtain rfl:=someI hb1
   exact ⟨rfl,m18,q19,_,_,rfl,hF.sub ⟨rfl,rfl,rfl,rfl,trivial⟩,hS.mask [true,false],(hm7.trans hm18),h19⟩
 ·rintro e a w ⟨m22,q21,rfl,hF,hS,hm22,h21⟩
  refine x_ib (n_sq ?_)
  refine q_seq (q_region (q_x (v:=s3.v) hF hS (ex_move rfl) rfl rfl fun a hF=>q_x (v:=s3.v) hF hS (ex_assign rfl) rfl rfl fun a hF=>q_end (n_sq (q_ret ?_))))
  obtain rfl:=someI hr
  exact ret_of hF hS rfl (.tmp rfl .nil) ⟨m22,q21,s3,rfl,hm22,hS.sel [0] (by decide),h21⟩

/-raw-/
/-- a record whose values stand elsewhere: its head -/
structure Hd where
  Area : Int
  House : Int
  V : Sl

instance : Rep Hd where
  wd := 3
  rd _ cs x := cs = [(.int .i64 x.Area), (.int .i64 x.House), x.V.v]
  mono _ h := h
  len h := by subst h; rfl
  one h := by subst h; rfl

instance : Flat Hd := ⟨fun h => h⟩

/-- the heads hs and the rows qs are the records l -/
structure Bag (m : Mem) (hs : List Hd) (qs : List Piece) (l : List impl_Record) : Prop where
  l1 : hs.length = l.length
  l2 : qs.length = l.length
  el : ∀ (i : Nat) (h : Hd) (p : Piece) (x : impl_Record), hs[i]? = some h → qs[i]? = some p → l[i]? = some x → h.Area = x.Area ∧ h.House = x.House ∧ OwnL m 3 p h.V x.Values

theorem goMake_rep {α β : Type} {b : Nat} {n : Int} {z : α} {l : List α} (z' : β) (h : goMake b n z = some l) : ∃ k, l = List.replicate k z ∧ goMake b n z' = some (List.replicate k z') := by
  unfold goMake at h ⊢
  cases hb : (decide (0 ≤ n) && decide ((b : Int) * n ≤ 281474976710656) && decide (n ≤ 9223372036854775807)) with
  | false => simp_all
  | true => simp_all

theorem Bag.start (m : Mem) (k : Nat) : Bag m (List.replicate k ⟨0, 0, nilS⟩) (List.replicate k []) (List.replicate k ⟨0, 0, []⟩) := by
  refine ⟨by simp, by simp, fun i h p x h1 h2 h3 => ?_⟩
  rw [List.getElem?_replicate] at h1 h2 h3
  split at h1
  · simp_all
    obtain rfl := h1
    obtain rfl := h2
    obtain rfl := h3
    exact ⟨rfl, rfl, OwnL.nil m 3⟩
  · cases h1

theorem flat_nil (k : Nat) : (List.replicate k ([] : Piece)).flatten = [] := by simp

theorem Bag.at {m : Mem} {hs : List Hd} {qs : List Piece} {l : List impl_Record} {i : Int} {x : impl_Record} (hB : Bag m hs qs l) (hx : goAt l i = some x) :
    ∃ h p, goAt hs i = some h ∧ qs[i.toNat]? = some p ∧ h.Area = x.Area ∧ h.House = x.House ∧ OwnL m 3 p h.V x.Values := by
  obtain ⟨h0, h1⟩ := goAt_some hx
  have hlt := (List.getElem?_eq_some_iff.1 h1).1
  obtain ⟨h, hh⟩ := getElem?_of_lt (l := hs) (i := i.toNat) (by rw [hB.l1]; exact hlt)
  obtain ⟨p, hp⟩ := getElem?_of_lt (l := qs) (i := i.toNat) (by rw [hB.l2]; exact hlt)
  refine ⟨h, p, ?_, hp, hB.el _ _ _ _ hh hp h1⟩
  unfold goAt
  rw [decide_eq_true h0]
  exact hh

theorem Bag.put {m : Mem} {hs : List Hd} {qs : List Piece} {l : List impl_Record} {i : Int} {x x' : impl_Record} {h' : Hd} {p' : Piece} (hB : Bag m hs qs l) (hx : goAt l i = some x)
    (he : h'.Area = x'.Area ∧ h'.House = x'.House ∧ OwnL m 3 p' h'.V x'.Values) : Bag m (hs.set i.toNat h') (qs.set i.toNat p') (goSet l i x') := by
  obtain ⟨h0, h1⟩ := goAt_some hx
  have hlt := (List.getElem?_eq_some_iff.1 h1).1
  refine ⟨by simp [hB.l1], by simp [hB.l2], fun j h p y e1 e2 e3 => ?_⟩
  by_cases hj : j = i.toNat
  · subst hj
    rw [List.getElem?_set_self (by rw [hB.l1]; exact hlt)] at e1
    rw [List.getElem?_set_self (by rw [hB.l2]; exact hlt)] at e2
    rw [List.getElem?_set_self hlt] at e3
    obtain rfl := Option.some.inj e1
    obtain rfl := Option.some.inj e2
    obtain rfl := Option.some.inj e3
    exact he
  · rw [List.getElem?_set_ne (by omega)] at e1 e2 e3
    exact hB.el j h p y e1 e2 e3

theorem Bag.close {m m' : Mem} {hs : List Hd} {qs : List Piece} {l : List impl_Record} {q : Piece} {s : Sl} (hB : Bag m hs qs l) (ho : OwnL m 36 q s hs) (hm : Mem.le m m') (hq : ∀ o ∈ qs.flatten, m' o.b = some o.cs) : OwnL m' 36 q s l := by
  refine ⟨by rw [← hB.l1]; exact ho.len, ho.cap, ho.max, ho.blk.imp id fun ⟨b, cs, h1, h2, h3, h4⟩ => ⟨b, cs, h1, h2, h3, fun i hi => ?_⟩⟩
  have hi2 : i < hs.length := by rw [hB.l1]; exact hi
  obtain ⟨p, hp⟩ := getElem?_of_lt (l := qs) (i := i) (by rw [hB.l2]; exact hi)
  obtain ⟨e1, e2, e3⟩ := hB.el i hs[i] p l[i] (by simp [hi2]) hp (by simp [hi])
  have h5 : slab cs (i * 3) 3 = [(.int .i64 hs[i].Area), (.int .i64 hs[i].House), hs[i].V.v] := h4 i hi2
  refine ⟨hs[i].V, ?_, e3.froz hm fun o hoo => hq o (List.mem_flatten.2 ⟨p, List.mem_of_getElem? hp, hoo⟩)⟩
  show slab cs (i * 3) 3 = _
  rw [h5, e1, e2]

theorem putB {X : List Nat} {w0 w : World} {m : Mem} {O : List Piece} {q p p' : Piece} {qs : List Piece} {k : Nat} (hS : St X w0 w m (q :: p' :: qs.flatten :: O)) (h : qs[k]? = some p) : St X w0 w m (q :: (qs.set k p').flatten :: O) := by
  refine hS.permF (R := p) ?_
  have hp := flatten_set_perm (p' := p') h
  simp only [List.flatten_cons]
  rw [List.append_assoc]
  refine List.Perm.append_left q ?_
  have h2 : (((qs.set k p').flatten ++ O.flatten) ++ p).Perm (((qs.set k p').flatten ++ p) ++ O.flatten) := by
    rw [List.append_assoc, List.append_assoc]
    exact List.Perm.append_left _ List.perm_append_comm
  refine h2.trans ?_
  refine (List.Perm.append_right _ hp).trans ?_
  rw [List.append_assoc]

theorem takeB {X : List Nat} {w0 w : World} {m : Mem} {O : List Piece} {q p : Piece} {qs : List Piece} {k : Nat} (hS : St X w0 w m (q :: qs.flatten :: O)) (h : qs[k]? = some p) : St X w0 w m (q :: p :: (qs.set k []).flatten :: O) := by
  refine hS.permF (R := []) ?_
  have hp := flatten_set_perm (p' := []) h
  simp only [List.flatten_cons, List.append_nil]
  refine List.Perm.append_left q ?_
  rw [← List.append_assoc]
  refine List.Perm.append_right _ ?_
  exact List.perm_append_comm.trans (by simpa using hp)

theorem d_copyRecords (p_l : List impl_Record) (r : (List impl_Record)) (hr : impl_copyRecords p_l = some r) (w0 : World) (m : Mem) (hv : Vis m w0) (s1 : Sl) (h1 : Rd m s1 p_l) :
  Ret Try.prog 36 [s1.v] w0 (fun v w => ∃ (q0' : Piece) (s0' : Sl) (hs : List Hd) (qs : List Piece), v = s0'.v ∧ St [] w0 w m [q0', qs.flatten] ∧ OwnL m 36 q0' s0' hs ∧ Bag m hs qs r) := by
  unfold impl_copyRecords at hr
  refine ret_start Try.func36 rfl 23 rfl rfl m hv fun a hF hS => q_seq (q_region (q_x (v := nilS.v) hF hS (ex_assign rfl) rfl rfl fun a hF => q_end (n_sq (q_seq (q_region (q_x (v := s1.v) hF hS (ex_move rfl) rfl rfl fun a hF => q_x (v := (iV (goLen p_l))) hF hS (ex_len Try.underlying27 rfl h1.len) rfl rfl fun a hF => ?_))))))
  obtain ⟨l_2, hl_2, hr⟩ := bindS hr
  obtain ⟨kk, rfl, hl2⟩ := goMake_rep (⟨0, 0, nilS⟩ : Hd) hl_2
  refine q_do rfl fun _ hK => wp_make (z := (⟨0, 0, nilS⟩ : Hd)) hF hS Try.underlying27 inf36 rfl rfl rfl rfl rfl (by decide) hl2 rfl fun a w q3 s3 hF hS h3 _ => hK _ _ (q_x (v := s3.v) hF hS (ex_assign rfl) rfl rfl fun a hF => q_end (n_sq (q_seq (q_seq (q_region (q_x (v := s1.v) hF hS (ex_move rfl) rfl rfl fun a hF => q_x (v := (iV (goLen p_l))) hF hS (ex_len Try.underlying27 rfl h1.len) rfl rfl fun a hF => q_x (v := (iV 0)) hF hS (ex_move rfl) rfl rfl fun a hF => q_end (n_sq (q_block ?_))))))))
  have hS := hS.nilP
  have hS : St [] w0 w m [q3, (List.replicate kk ([] : Piece)).flatten] := by
    rw [flat_nil]
    exact hS.sel [1, 0] (by decide)
  obtain ⟨c_20, hl1, hr⟩ := bindS hr
  refine q_loop (fun (s : (List impl_Record) × Int) a w => ∃ (q5 : Piece) (hs : List Hd) (qs : List Piece), ∃ c_4, ∃ t_6, s = (c_4, t_6) ∧ Fr a 23 [(3, s3.v), (9, s1.v), (10, (iV (goLen p_l))), (11, (iV t_6))] ∧ St [] w0 w m [q5, qs.flatten] ∧ OwnL m 36 q5 s3 hs ∧ Bag m hs qs c_4) (fun (c_20 : (List impl_Record)) e a w => ∃ (q21 : Piece) (hs : List Hd) (qs : List Piece), e = .exit 0 ∧ Fr a 23 [(3, s3.v)] ∧ St [] w0 w m [q21, qs.flatten] ∧ OwnL m 36 q21 s3 hs ∧ Bag m hs qs c_20) hl1 ⟨q3, _, _, _, _, rfl, hF.sub ⟨rfl, rfl, rfl, rfl, trivial⟩, hS, h3, Bag.start m kk⟩ ?_ ?_
  · clear hF hS
    rintro s a w st ⟨q5, hs, qs, c_4, t_6, rfl, hF, hS, h5, hB⟩ hb1
    unfold impl_copyRecords_l1 at hb1
    refine q_seq (q_region (q_x (v := (.bool (decide (t_6 < (goLen p_l))))) hF hS (ex_ibin rfl rfl rfl) rfl rfl fun a hF => q_end (n_sq (q_seq ?_))))
    rcases bcase (decide (t_6 < (goLen p_l))) with hc2 | hc2
    · have hb1 := cond_f hc2 hb1
      refine q_cond_f hF rfl hc2 (q_exit (x_sq ?_))
      obtain rfl := someI hb1
      exact ⟨nofun, .inl ⟨q5, hs, qs, rfl, hF.sub ⟨rfl, trivial⟩, hS, h5, hB⟩⟩
    · have hb1 := cond_t hc2 hb1
      refine q_cond_t hF rfl hc2 (q_skipc (n_sq (q_seq (q_block (q_seq (q_region (q_x (v := (iV t_6)) hF hS (ex_move rfl) rfl rfl fun a hF => ?_)))))))
      obtain ⟨e_8, he_8, hb1⟩ := bindS hb1
      obtain ⟨vs9, at9, d9⟩ := h1.at he_8 3 rfl
      obtain ⟨s10, rfl, h10⟩ : ∃ s10 : Sl, vs9 = [(iV e_8.Area), (iV e_8.House), s10.v] ∧ Rd m s10 e_8.Values := d9
      refine q_x (v := (elP s1 (t_6.toNat * 3))) hF hS (ex_indexAddr Try.underlying27 sz36 rfl rfl (h1.idx he_8)) rfl rfl fun a hF => q_x (v := (.agg #[(iV e_8.Area), (iV e_8.House), s10.v])) hF hS (ex_loadEA (us := [(iV e_8.Area), (iV e_8.House), s10.v]) 0 Try.underlying36 rfl sz36 rfl ((at9).at) rfl rfl rfl) rfl rfl fun a hF => q_alloc (cs := [(iV 0), (iV 0), nilS.v]) hF hS rfl rfl rfl fun a w b11 hF hS => q_x (v := (iV t_6)) hF hS (ex_assign rfl) rfl rfl fun a hF => q_store (vs := [(iV e_8.Area), (iV e_8.House), s10.v]) (cs' := [(iV e_8.Area), (iV e_8.House), s10.v]) 0 0 hF hS sz36 rfl rfl rfl rfl rfl rfl rfl rfl fun a w hF hS => q_end (n_sq (q_region (q_x (v := s3.v) hF hS (ex_move rfl) rfl rfl fun a hF => q_x (v := (iV t_6)) hF hS (ex_move rfl) rfl rfl fun a hF => q_x (v := (.agg #[(iV e_8.Area), (iV e_8.House), s10.v])) hF hS (ex_loadA (vs := [(iV e_8.Area), (iV e_8.House), s10.v]) 0 0 Try.underlying36 rfl sz36 rfl rfl rfl rfl) rfl rfl fun a hF => ?_)))
      obtain ⟨t_12, ht_12, hb1⟩ := bindS hb1
      refine q_call (vs := [(.agg #[(iV e_8.Area), (iV e_8.House), s10.v])]) hF hS Try.func75 (by kernel_rfl) rfl rfl rfl (c_impl_copyRecord e_8 t_12 ht_12 _ m hS.vis s10 h10) ?_
      rintro a w _ ⟨q14, s14, rfl, hR13, h14⟩ hF hS2
      have hS : St _ _ _ _ [q14, [⟨b11, [(iV e_8.Area), (iV e_8.House), s10.v], 36⟩], q5, qs.flatten] := hS.joinF hR13
      obtain ⟨e_15, he_15, hb1⟩ := bindS hb1
      obtain ⟨hd, pp, hh, hp, _, _, _⟩ := hB.at he_15
      obtain ⟨vs16, at16, d16⟩ := h5.at hh 3 rfl
      obtain rfl : vs16 = [(iV hd.Area), (iV hd.House), hd.V.v] := d16
      refine q_x (v := (elP s3 (t_6.toNat * 3))) hF hS (ex_indexAddr Try.underlying27 sz36 rfl rfl (h5.idx hh)) rfl rfl fun a hF => ?_
      have hS : St _ _ _ _ [q5, q14, [⟨b11, [(iV e_8.Area), (iV e_8.House), s10.v], 36⟩], qs.flatten] := hS.sel [2, 0, 1, 3] (by decide)
      refine q_do rfl fun _ hK => wp_storeE (e' := (Hd.mk t_12.Area t_12.House s14)) (us := [(iV t_12.Area), (iV t_12.House), s14.v]) (vs := [(iV hd.Area), (iV hd.House), hd.V.v]) 0 hF hS h5 sz36 rfl rfl rfl rfl rfl rfl rfl hh at16 rfl rfl rfl fun w q19 hS h19 => hK _ _ (q_end (n_ib (n_sq (q_region (q_x (v := (iV (w64 (t_6 + 1)))) hF hS (ex_ibin rfl rfl rfl) rfl rfl fun a hF => q_x (v := (iV (w64 (t_6 + 1)))) hF hS (ex_move rfl) rfl rfl fun a hF => q_end ?_)))))
      obtain rfl := someI hb1
      have hS : St _ _ _ _ [q19, q14, qs.flatten] := hS.mask [true, true, false, true]
      exact ⟨rfl, q19, _, qs.set t_6.toNat q14, _, _, rfl, hF.sub ⟨rfl, rfl, rfl, rfl, trivial⟩, putB hS hp, h19, hB.put he_15 ⟨rfl, rfl, h14⟩⟩
  · rintro e a w ⟨q21, hs, qs, rfl, hF, hS, h21, hB⟩
    refine x_ib (n_sq ?_)
    refine q_seq (q_region (q_x (v := s3.v) hF hS (ex_move rfl) rfl rfl fun a hF => q_x (v := s3.v) hF hS (ex_assign rfl) rfl rfl fun a hF => q_end (n_sq (q_ret ?_))))
    obtain rfl := someI hr
    exact ret_of hF hS rfl (.tmp rfl .nil) ⟨q21, s3, hs, qs, rfl, hS, h21, hB⟩

theorem Bag.inner {m : Mem} {hs : List Hd} {qs : List Piece} {l : List impl_Record} {i : Int} {x x' : impl_Record} {h : Hd} {p' : Piece} (hB : Bag m hs qs l) (hx : goAt l i = some x) (hh : goAt hs i = some h)
    (he : h.Area = x'.Area ∧ h.House = x'.House ∧ OwnL m 3 p' h.V x'.Values) : Bag m hs (qs.set i.toNat p') (goSet l i x') := by
  obtain ⟨h0, h1⟩ := goAt_some hx
  have h2 := (goAt_some hh).2
  have hlt := (List.getElem?_eq_some_iff.1 h1).1
  refine ⟨by simp [hB.l1], by simp [hB.l2], fun j h p y e1 e2 e3 => ?_⟩
  by_cases hj : j = i.toNat
  · subst hj
    rw [h2] at e1
    rw [List.getElem?_set_self (by rw [hB.l2]; exact hlt)] at e2
    rw [List.getElem?_set_self hlt] at e3
    obtain rfl := Option.some.inj e1
    obtain rfl := Option.some.inj e2
    obtain rfl := Option.some.inj e3
    exact he
  · rw [List.getElem?_set_ne (by omega)] at e2 e3
    exact hB.el j h p y e1 e2 e3

theorem c_impl_GroupData (p_s : List impl_Variable) (p_g : impl_Grouping) (p_l : List impl_Record) (r : (List impl_Record) × Bool) (hr : impl_GroupData p_s p_g p_l = some r) (w0 : World) (m : Mem) (hv : Vis m w0) (s1 : Sl) (h1 : Rd m s1 p_s) (s2 : Sl) (h2 : Rd m s2 p_g.Groups) (s3 : Sl) (h3 : Rd m s3 p_l) :
  Ret Try.prog 6 [s1.v, (.agg #[(iV p_g.Var), s2.v]), s3.v] w0 (fun v w => ∃ (m' : Mem) (q0' : Piece) (s0' : Sl), v = (.tuple #[s0'.v, (.bool r.2)]) ∧ MLe [] w0.heap.size m m' ∧ St [] w0 w m' [q0'] ∧ OwnL m' 36 q0' s0' r.1) := by
  unfold impl_GroupData at hr
  refine ret_start Try.func6 rfl 51 rfl rfl m hv fun a hF hS => q_seq (q_region (q_box (cs := [(iV p_g.Var), s2.v]) hF hS rfl rfl rfl fun a w b4 hF hS => q_x (v := nilS.v) hF hS (ex_assign rfl) rfl rfl fun a hF => q_x (v := (.bool false)) hF hS (ex_assign rfl) rfl rfl fun a hF => q_end (n_sq (q_seq (q_seq ?_)))))
  obtain ⟨t_8, hj1, hr⟩ := bindS hr
  refine q_join (fun a w => Fr a 51 [(2, s3.v), (4, (.pointer (some ⟨b4, 0, none⟩))), (25, (.bool t_8))] ∧ St [] w0 w m [[⟨b4, [(iV p_g.Var), s2.v], 26⟩]]) ?_ ?_
  · refine q_region (q_x (v := s1.v) hF hS (ex_move rfl) rfl rfl fun a hF => ?_)
    obtain ⟨t_5, ht_5, hj1⟩ := bindS hj1
    refine q_call (vs := [s1.v]) hF hS Try.func33 (by kernel_rfl) rfl rfl rfl (c_impl_IsSchema p_s t_5 ht_5 _ m hS.vis s1 h1) ?_
    rintro a w _ rfl hF hS
    refine q_x (v := (.bool (!t_5))) hF hS (ex_not rfl) rfl rfl fun a hF => q_x (v := (.bool (!t_5))) hF hS (ex_move rfl) rfl rfl fun a hF => ?_
    rcases bcase (!t_5) with hc2 | hc2
    · have hj1 := cond_f hc2 hj1
      refine q_xg (v := s1.v) hF hS (ex_move rfl) (wanted_t hF rfl rfl rfl hc2) rfl fun a hF => q_xg (v := (.agg #[(iV p_g.Var), s2.v])) hF hS (ex_loadA (vs := [(iV p_g.Var), s2.v]) 0 0 Try.underlying26 rfl sz26 rfl rfl rfl rfl) (wanted_t hF rfl rfl rfl hc2) rfl fun a hF => ?_
      obtain ⟨t_6, ht_6, hj1⟩ := bindS hj1
      refine q_callg (vs := [s1.v, (.agg #[(iV p_g.Var), s2.v])]) hF hS (wanted_t hF rfl rfl rfl hc2) Try.func34 (by kernel_rfl) rfl rfl rfl (c_impl_groupCount p_s p_g t_6 ht_6 _ m hS.vis s1 h1 s2 h2) ?_
      rintro a w _ rfl hF hS
      refine q_xg (v := (.bool (t_6 == 0))) hF hS (ex_ibin rfl rfl rfl) (wanted_t hF rfl rfl rfl hc2) rfl fun a hF => q_x (v := (.bool (t_6 == 0))) hF hS (ex_pick_f rfl rfl hc2) rfl rfl fun a hF => q_x (v := (.bool (t_6 == 0))) hF hS (ex_move rfl) rfl rfl fun a hF => ?_
      rcases bcase (t_6 == 0) with hc3 | hc3
      · have hj1 := cond_f hc3 hj1
        refine q_xg (v := s1.v) hF hS (ex_move rfl) (wanted_t hF rfl rfl rfl hc3) rfl fun a hF => q_xg (v := s3.v) hF hS (ex_move rfl) (wanted_t hF rfl rfl rfl hc3) rfl fun a hF => ?_
        obtain ⟨t_7, ht_7, hj1⟩ := bindS hj1
        refine q_callg (vs := [s1.v, s3.v]) hF hS (wanted_t hF rfl rfl rfl hc3) Try.func35 (by kernel_rfl) rfl rfl rfl (c_impl_isData p_s p_l t_7 ht_7 _ m hS.vis s1 h1 s3 h3) ?_
        rintro a w _ rfl hF hS
        refine q_xg (v := (.bool (!t_7))) hF hS (ex_not rfl) (wanted_t hF rfl rfl rfl hc3) rfl fun a hF => q_x (v := (.bool (!t_7))) hF hS (ex_pick_f rfl rfl hc3) rfl rfl fun a hF => q_end (n_jn ?_)
        obtain rfl := someI hj1
        exact ⟨hF.sub ⟨rfl, rfl, rfl, trivial⟩, hS⟩
      · have hj1 := cond_t hc3 hj1
        refine q_skip hF (wanted_f hF rfl rfl rfl hc3 rfl) rfl fun a hF => q_skip hF (wanted_f hF rfl rfl rfl hc3 rfl) rfl fun a hF => q_skip hF (wanted_f hF rfl rfl rfl hc3 rfl) rfl fun a hF => q_skip hF (wanted_f hF rfl rfl rfl hc3 rfl) rfl fun a hF => q_x (v := (.bool true)) hF hS (ex_pick_t rfl rfl hc3) rfl rfl fun a hF => q_end (n_jn ?_)
        obtain rfl := someI hj1
        exact ⟨hF.sub ⟨rfl, rfl, rfl, trivial⟩, hS⟩
    · have hj1 := cond_t hc2 hj1
      refine q_skip hF (wanted_f hF rfl rfl rfl hc2 rfl) rfl fun a hF => q_skip hF (wanted_f hF rfl rfl rfl hc2 rfl) rfl fun a hF => q_skip hF (wanted_f hF rfl rfl rfl hc2 rfl) rfl fun a hF => q_skip hF (wanted_f hF rfl rfl rfl hc2 rfl) rfl fun a hF => q_x (v := (.bool true)) hF hS (ex_pick_t rfl rfl hc2) rfl rfl fun a hF => q_x (v := (.bool true)) hF hS (ex_move rfl) rfl rfl fun a hF => q_skip hF (wanted_f hF rfl rfl rfl rfl rfl) rfl fun a hF => q_skip hF (wanted_f hF rfl rfl rfl rfl rfl) rfl fun a hF => q_skip hF (wanted_f hF rfl rfl rfl rfl rfl) rfl fun a hF => q_skip hF (wanted_f hF rfl rfl rfl rfl rfl) rfl fun a hF => q_x (v := (.bool true)) hF hS (ex_pick_t rfl rfl rfl) rfl rfl fun a hF => q_end (n_jn ?_)
      obtain rfl := someI hj1
      exact ⟨hF.sub ⟨rfl, rfl, rfl, trivial⟩, hS⟩
  · rintro a w ⟨hF, hS⟩
    refine n_sq ?_
    rcases bcase (t_8) with hc4 | hc4
    · have hr := cond_f hc4 hr
      refine q_cond_f hF rfl hc4 (q_skipc (n_sq (q_seq (q_region (q_x (v := s3.v) hF hS (ex_move rfl) rfl rfl fun a hF => ?_)))))
      obtain ⟨t_9, ht_9, hr⟩ := bindS hr
      refine q_call (vs := [s3.v]) hF hS Try.func36 (by kernel_rfl) rfl rfl rfl (d_copyRecords p_l t_9 ht_9 _ m hS.vis s3 h3) ?_
      rintro a w _ ⟨q9, s9, hs, qs, rfl, hR, h9, hB⟩ hF hS2
      have hS : St [] w0 w m [q9, qs.flatten, [⟨b4, [(iV p_g.Var), s2.v], 26⟩]] := hS.joinF hR
      refine q_x (v := s9.v) hF hS (ex_assign rfl) rfl rfl fun a hF => q_end (n_sq (q_seq (q_seq (q_region (q_x (v := s9.v) hF hS (ex_move rfl) rfl rfl fun a hF => q_x (v := (iV (goLen t_9))) hF hS (ex_len Try.underlying27 rfl (hB.l1.symm.trans h9.len)) rfl rfl fun a hF => q_x (v := (iV 0)) hF hS (ex_move rfl) rfl rfl fun a hF => q_end (n_sq (q_block ?_)))))))
      obtain ⟨out_31, hl4, hr⟩ := bindS hr
      refine q_loop (fun (s : (List impl_Record) × Int) a w => ∃ (q5 : Piece) (hs : List Hd) (qs : List Piece), ∃ out_8, ∃ t_10, s = (out_8, t_10) ∧ Fr a 51 [(4, (.pointer (some ⟨b4, 0, none⟩))), (8, s9.v), (28, s9.v), (29, (iV (goLen t_9))), (30, (iV t_10))] ∧ St [] w0 w m [q5, qs.flatten, [⟨b4, [(iV p_g.Var), s2.v], 26⟩]] ∧ OwnL m 36 q5 s9 hs ∧ Bag m hs qs out_8) (fun (out_31 : (List impl_Record)) e a w => ∃ (q5 : Piece) (hs : List Hd) (qs : List Piece), e = .exit 0 ∧ Fr a 51 [(8, s9.v)] ∧ St [] w0 w m [q5, qs.flatten] ∧ OwnL m 36 q5 s9 hs ∧ Bag m hs qs out_31) hl4 ⟨q9, hs, qs, _, _, rfl, hF.sub ⟨rfl, rfl, rfl, rfl, rfl, trivial⟩, hS, h9, hB⟩ ?_ ?_
      · clear hF hS
        rintro s a w st ⟨q5, hs, qs, out_8, t_10, rfl, hF, hS, h5, hB⟩ hb4
        unfold impl_GroupData_l1 at hb4
        refine q_seq (q_region (q_x (v := (.bool (decide (t_10 < (goLen t_9))))) hF hS (ex_ibin rfl rfl rfl) rfl rfl fun a hF => q_end (n_sq (q_seq ?_))))
        rcases bcase (decide (t_10 < (goLen t_9))) with hc5 | hc5
        · have hb4 := cond_f hc5 hb4
          refine q_cond_f hF rfl hc5 (q_exit (x_sq ?_))
          obtain rfl := someI hb4
          exact ⟨nofun, .inl ⟨q5, hs, qs, rfl, hF.sub ⟨rfl, trivial⟩, hS.mask [true, true, false], h5, hB⟩⟩
        · have hb4 := cond_t hc5 hb4
          refine q_cond_t hF rfl hc5 (q_skipc (n_sq (q_seq (q_block (q_seq (q_region ?_))))))
          obtain ⟨e_12, he_12, hb4⟩ := bindS hb4
          obtain ⟨hd, pp, hh, hp, e1, e2, e3⟩ := hB.at he_12
          obtain ⟨vs13, at13, d13⟩ := h5.at hh 3 rfl
          obtain rfl : vs13 = [(iV hd.Area), (iV hd.House), hd.V.v] := d13
          refine q_x (v := (elP s9 (t_10.toNat * 3))) hF hS (ex_indexAddr Try.underlying27 sz36 rfl rfl (h5.idx hh)) rfl rfl fun a hF => q_x (v := (.agg #[(iV hd.Area), (iV hd.House), hd.V.v])) hF hS (ex_loadEA (us := [(iV hd.Area), (iV hd.House), hd.V.v]) 0 Try.underlying36 rfl sz36 rfl (at13.at 0 rfl) rfl rfl rfl) rfl rfl fun a hF => q_alloc (cs := [(iV 0), (iV 0), nilS.v]) hF hS rfl rfl rfl fun a w b10 hF hS => q_store (vs := [(iV hd.Area), (iV hd.House), hd.V.v]) (cs' := [(iV hd.Area), (iV hd.House), hd.V.v]) 0 0 hF hS sz36 rfl rfl rfl rfl rfl rfl rfl rfl fun a w hF hS => q_end (n_sq ?_)
          have hS : St [] w0 w m [q5, qs.flatten, [⟨b10, [(iV hd.Area), (iV hd.House), hd.V.v], 36⟩], [⟨b4, [(iV p_g.Var), s2.v], 26⟩]] := hS.sel [1, 2, 0, 3] (by decide)
          have hS := takeB hS hp
          have hS : St [] w0 w m [pp, [⟨b10, [(iV hd.Area), (iV hd.House), hd.V.v], 36⟩], q5, (qs.set t_10.toNat []).flatten, [⟨b4, [(iV p_g.Var), s2.v], 26⟩]] := hS.sel [1, 3, 0, 2, 4] (by decide)
          refine e_region ⟨[15], [b10, b4]⟩ mixed fun w' hw' => ?_
          have hS := hS.below hw'
          refine e_p (v := (.pointer (some ⟨b10, 2, none⟩))) 0 hF rfl (ex_fieldAddr Try.underlying36 rfl sz24 rfl rfl) rfl rfl (by kernel_rfl) (by kernel_rfl) (by kernel_rfl) fun a hF => e_xb (v := hd.V.v) 1 1 hF hS (.head _) rfl rfl (ex_load1 0 0 Try.underlying24 rfl rfl rfl rfl) rfl rfl (by kernel_rfl) (by kernel_rfl) (by kernel_rfl) fun a hF => e_p (v := (.pointer (some ⟨b4, 0, none⟩))) 2 hF rfl (ex_fieldAddr Try.underlying26 rfl sz3 rfl rfl) rfl rfl (by kernel_rfl) (by kernel_rfl) (by kernel_rfl) fun a hF => e_xb (v := (iV p_g.Var)) 3 4 hF hS (.tail _ (.head _)) rfl rfl (ex_load1 0 0 Try.underlying3 rfl rfl rfl rfl) rfl rfl (by kernel_rfl) (by kernel_rfl) (by kernel_rfl) fun a hF => e_p (v := (.pointer (some ⟨b4, 1, none⟩))) 4 hF rfl (ex_fieldAddr Try.underlying26 rfl sz24 rfl rfl) rfl rfl (by kernel_rfl) (by kernel_rfl) (by kernel_rfl) fun a hF => e_xb (v := s2.v) 5 4 hF hS (.tail _ (.head _)) rfl rfl (ex_load1 0 0 Try.underlying24 rfl rfl rfl rfl) rfl rfl (by kernel_rfl) (by kernel_rfl) (by kernel_rfl) fun a hF => e_p (v := (.pointer (some ⟨b10, 2, none⟩))) 6 hF rfl (ex_fieldAddr Try.underlying36 rfl sz24 rfl rfl) rfl rfl (by kernel_rfl) (by kernel_rfl) (by kernel_rfl) fun a hF => e_xb (v := hd.V.v) 7 1 hF hS (.head _) rfl rfl (ex_load1 0 0 Try.underlying24 rfl rfl rfl rfl) rfl rfl (by kernel_rfl) (by kernel_rfl) (by kernel_rfl) fun a hF => e_p (v := (.pointer (some ⟨b4, 0, none⟩))) 8 hF rfl (ex_fieldAddr Try.underlying26 rfl sz3 rfl rfl) rfl rfl (by kernel_rfl) (by kernel_rfl) (by kernel_rfl) fun a hF => e_xb (v := (iV p_g.Var)) 9 4 hF hS (.tail _ (.head _)) rfl rfl (ex_load1 0 0 Try.underlying3 rfl rfl rfl rfl) rfl rfl (by kernel_rfl) (by kernel_rfl) (by kernel_rfl) fun a hF => ?_
          obtain ⟨e_20, he_20, hb4⟩ := bindS hb4
          obtain ⟨vs21, at21, d21⟩ := e3.at he_20 1 rfl
          obtain rfl : vs21 = [(iV e_20)] := d21
          refine e_p (v := (elP hd.V (p_g.Var.toNat * 1))) 10 hF rfl (ex_indexAddr Try.underlying24 sz3 rfl rfl (e3.idx he_20)) rfl rfl (by kernel_rfl) (by kernel_rfl) (by kernel_rfl) fun a hF => e_x (v := (iV e_20)) 11 hF hS rfl (ex_loadE1 0 Try.underlying3 rfl rfl (at21.at 0 rfl) rfl rfl) rfl rfl (by kernel_rfl) (by kernel_rfl) (by kernel_rfl) (by kernel_rfl) fun a hF => ?_
          obtain ⟨e_22, he_22, hb4⟩ := bindS hb4
          obtain ⟨vs23, at23, d23⟩ := h2.at he_22 1 rfl
          obtain rfl : vs23 = [(iV e_22)] := d23
          refine e_p (v := (elP s2 (e_20.toNat * 1))) 12 hF rfl (ex_indexAddr Try.underlying24 sz3 rfl rfl (h2.idx he_22)) rfl rfl (by kernel_rfl) (by kernel_rfl) (by kernel_rfl) fun a hF => e_x (v := (iV e_22)) 13 hF hS rfl (ex_loadE1 0 Try.underlying3 rfl rfl ((at23).at) rfl rfl) rfl rfl (by kernel_rfl) (by kernel_rfl) (by kernel_rfl) (by kernel_rfl) fun a hF => ?_
          refine e_p (v := (elP hd.V (p_g.Var.toNat * 1))) 14 hF rfl (ex_indexAddr Try.underlying24 sz3 rfl rfl (e3.idx he_20)) rfl rfl (by kernel_rfl) (by kernel_rfl) (by kernel_rfl) fun a hF => e_one 15 (by kernel_rfl) ?_
          have hSo := hS
          refine e_opl rfl rfl rfl fun _ hK => wp_storeE (e' := e_22) (us := [(iV e_22)]) (vs := [(iV e_20)]) 0 hF hS e3 sz3 rfl rfl rfl rfl rfl rfl rfl he_20 at21 rfl rfl rfl fun w q26 hS h26 => hK _ _ (⟨kpC hSo hS 1 1 rfl rfl (kpC hSo hS 4 4 rfl rfl kpN), ?_⟩)
          refine e_end (by kernel_rfl) (n_ib (n_sq (q_region (q_x (v := (iV (w64 (t_10 + 1)))) hF hS (ex_ibin rfl rfl rfl) rfl rfl fun a hF => q_x (v := (iV (w64 (t_10 + 1)))) hF hS (ex_move rfl) rfl rfl fun a hF => q_end ?_)))) _
          obtain rfl := someI hb4
          have hS : St [] w0 w m [q5, q26, (qs.set t_10.toNat []).flatten, [⟨b4, [(iV p_g.Var), s2.v], 26⟩]] := hS.sel [2, 0, 3, 4] (by decide)
          have hlt := (List.getElem?_eq_some_iff.1 hp).1
          have hS := putB (k := t_10.toNat) (p := []) hS (List.getElem?_set_self hlt)
          rw [List.set_set] at hS
          exact ⟨rfl, q5, hs, qs.set t_10.toNat q26, _, _, rfl, hF.sub ⟨rfl, rfl, rfl, rfl, rfl, trivial⟩, hS, h5, hB.inner he_12 hh ⟨e1, e2, h26⟩⟩
      · rintro e a w ⟨q5, hs, qs, rfl, hF, hS, h5, hB⟩
        refine x_ib (n_sq ?_)
        refine q_seq (q_region (q_x (v := s9.v) hF hS (ex_move rfl) rfl rfl fun a hF => q_x (v := s9.v) hF hS (ex_assign rfl) rfl rfl fun a hF => q_x (v := (.bool true)) hF hS (ex_assign rfl) rfl rfl fun a hF => q_end (n_sq (q_ret ?_))))
        obtain rfl := someI hr
        have hS : St [] w0 w m [qs.flatten, q5] := hS.sel [1, 0] (by decide)
        obtain ⟨m33, hm33, hS, hz33⟩ := hS.freeze
        exact ret_of hF hS rfl (.tmp rfl (.tmp rfl .nil)) ⟨m33, q5, s9, rfl, hm33, hS, hB.close h5 hm33.le hz33⟩
    · have hr := cond_t hc4 hr
      refine q_cond_t hF rfl hc4 (q_seq (q_region (q_x (v := nilS.v) hF hS (ex_assign rfl) rfl rfl fun a hF => q_x (v := (.bool false)) hF hS (ex_assign rfl) rfl rfl fun a hF => q_end (n_sq (q_ret (r_sq ?_))))))
      obtain rfl := someI hr
      exact ret_of hF hS rfl (.tmp rfl (.tmp rfl .nil)) ⟨m, [], nilS, rfl, (MLe.refl _ _), hS.sel [1] (by decide), (OwnL.nil (α := impl_Record) m 36)⟩

theorem c_spec_l1In (p_n : Int) (p_lo : Int) (p_hi : Int) (r : Bool) (hr : spec_l1In p_n p_lo p_hi = some r) (w0 : World) (m : Mem) (hv : Vis m w0) :
  Ret Try.prog 42 [(iV p_n),(iV p_lo),(iV p_hi)] w0 (fun v _=>v = (.bool r)):=by
 unfold spec_l1In at hr
 refine ret_start Try.func42 rfl 15 rfl rfl m hv fun a hF hS=>q_seq (q_region (q_x (v:=(.bool false)) hF hS (ex_assign rfl) rfl rfl fun a hF=>q_end (n_sq (q_seq ?_))))
 obtain ⟨t_1,hj1,hr⟩:=bindS hr
 refine q_join (fun a w=>Fr a 15 [(6,(.bool t_1))]∧St [] w0 w m []) ?_ ?_
 ·refine q_region (q_x (v:=(iV p_n)) hF hS (ex_move rfl) rfl rfl fun a hF=>q_x (v:=(iV p_lo)) hF hS (ex_move rfl) rfl rfl fun a hF=>q_x (v:=(.bool (decide (p_lo ≤ p_n)))) hF hS (ex_ibin rfl rfl rfl) rfl rfl fun a hF=>q_x (v:=(.bool (decide (p_lo ≤ p_n)))) hF hS (ex_move rfl) rfl rfl fun a hF=>?_)
  rcases bcase (decide (p_lo ≤ p_n)) with hc2 | hc2
  ·have hj1:=cond_f hc2 hj1
   refine q_skip hF (wanted_f hF rfl rfl rfl hc2 rfl) rfl fun a hF=>q_skip hF (wanted_f hF rfl rfl rfl hc2 rfl) rfl fun a hF=>q_skip hF (wanted_f hF rfl rfl rfl hc2 rfl) rfl fun a hF=>q_x (v:=(.bool false)) hF hS (ex_pick_f rfl rfl hc2) rfl rfl fun a hF=>q_x (v:=(.bool false)) hF hS (ex_assign rfl) rfl rfl fun a hF=>q_end (n_jn ?_)
   obtain rfl:=someI hj1
   exact ⟨hF.sub ⟨rfl,trivial⟩,hS⟩
  ·have hj1:=cond_t hc2 hj1
   refine q_xg (v:=(iV p_n)) hF hS (ex_move rfl) (wanted_t hF rfl rfl rfl hc2) rfl fun a hF=>q_xg (v:=(iV p_hi)) hF hS (ex_move rfl) (wanted_t hF rfl rfl rfl hc2) rfl fun a hF=>q_xg (v:=(.bool (decide (p_n ≤ p_hi)))) hF hS (ex_ibin rfl rfl rfl) (wanted_t hF rfl rfl rfl hc2) rfl fun a hF=>q_x (v:=(.bool (decide (p_n ≤ p_hi)))) hF hS (ex_pick_t rfl rfl hc2) rfl rfl fun a hF=>q_x (v:=(.bool (decide (p_n ≤ p_hi)))) hF hS (ex_assign rfl) rfl rfl fun a hF=>q_end (n_jn ?_)
   obtain rfl:=someI hj1
   exact ⟨hF.sub ⟨rfl,trivial⟩,hS⟩
 ·rintro a w ⟨hF,hS⟩
  refine n_sq (q_ret ?_)
  obtain rfl:=someI hr
  exact ret_of hF hS rfl (.tmp rfl .nil) rfl

end Go.Proofs.Ytebjhiflnemkhaa
