/- The walks of the functions: each returns what its plain function says. -/
import Derived.Test.YtgaeknajcakinaaDoorCDefs
import Derived.Test.YtgaeknajcakinaaDoorRows
import Derived.Test.YtgaeknajcakinaaDoorCItoa
namespace Go.Proofs.YtgaeknajcakinaaDoor
open Go.Gx Go.Gx.F Go.RowKit
set_option linter.all false
set_option maxRecDepth 10000

theorem mixed : Tryd.prog.follows .mixedOrders = true := by kernel_rfl
theorem inf3 : inf Tryd.prog 3 = some (1, 8, [(.int .i64 0)]) := by kernel_rfl
theorem inf5 : inf Tryd.prog 5 = some (1, 1, [(.int .u8 0)]) := by kernel_rfl
theorem inf9 : inf Tryd.prog 9 = some (1, 16, [(strV ([] : List UInt8))]) := by kernel_rfl
theorem inf101 : inf Tryd.prog 101 = some (2, 24, [(strV ([] : List UInt8)), (.int .i64 0)]) := by kernel_rfl
theorem sz3 : szOf Tryd.prog 3 = some 1 := by kernel_rfl
theorem sz4 : szOf Tryd.prog 4 = some 1 := by kernel_rfl
theorem sz5 : szOf Tryd.prog 5 = some 1 := by kernel_rfl
theorem sz9 : szOf Tryd.prog 9 = some 1 := by kernel_rfl
theorem sz22 : szOf Tryd.prog 22 = some 1 := by kernel_rfl
theorem sz42 : szOf Tryd.prog 42 = some 1 := by kernel_rfl
theorem sz46 : szOf Tryd.prog 46 = some 2 := by kernel_rfl
theorem sz74 : szOf Tryd.prog 74 = some 1 := by kernel_rfl
theorem sz101 : szOf Tryd.prog 101 = some 2 := by kernel_rfl

theorem c_spec_l1Cur_next (p_c : spec_l1Cur) (r : Int × spec_l1Cur) (hr : spec_l1Cur_next p_c = some r) (w0 : World) (m : Mem) (b_p_c : Nat) (s1 : Sl) (h1 : Rd m s1 p_c.code) (X : List Nat) (hS : St X w0 w0 m [[⟨b_p_c,[s1.v,(iV p_c.at_),(.int .u64 p_c.seed.v)],76⟩]]) :
  RetX Tryd.prog 107 [(.pointer (some ⟨b_p_c,0,none⟩))] w0 (fun v w=>v = (iV r.1)∧St X w0 w m [[⟨b_p_c,[s1.v,(iV r.2.at_),(.int .u64 r.2.seed.v)],76⟩]]∧r.2.code = p_c.code):=by
 unfold spec_l1Cur_next at hr
 refine ret_startX Tryd.func107 rfl 62 rfl rfl fun a hF=>q_seq (q_region (q_x (v:=(iV 0)) hF hS (ex_assign rfl) rfl rfl fun a hF=>q_end (n_sq (q_seq (q_region (q_x (v:=(iV 0)) hF hS (ex_assign rfl) rfl rfl fun a hF=>q_end (n_sq (q_seq (q_seq (e_region ⟨[],[]⟩ mixed fun w' hw'=>?_))))))))))
 have hS:=hS.below hw'
 refine e_p (v:=(.pointer (some ⟨b_p_c,0,none⟩))) 0 hF rfl (ex_move rfl) rfl rfl (by kernel_rfl) (by kernel_rfl) (by kernel_rfl) fun a hF=>e_p (v:=(.pointer (some ⟨b_p_c,0,none⟩))) 1 hF rfl (ex_nilCheck rfl) rfl rfl (by kernel_rfl) (by kernel_rfl) (by kernel_rfl) fun a hF=>e_p (v:=(.pointer (some ⟨b_p_c,1,none⟩))) 2 hF rfl (ex_fieldAddr Tryd.underlying76 rfl sz3 rfl rfl) rfl rfl (by kernel_rfl) (by kernel_rfl) (by kernel_rfl) fun a hF=>e_x (v:=(iV p_c.at_)) 3 hF hS rfl (ex_load1 0 0 Tryd.underlying3 rfl rfl rfl rfl) rfl rfl (by kernel_rfl) (by kernel_rfl) (by kernel_rfl) (by kernel_rfl) fun a hF=>e_p (v:=(.pointer (some ⟨b_p_c,0,none⟩))) 4 hF rfl (ex_move rfl) rfl rfl (by kernel_rfl) (by kernel_rfl) (by kernel_rfl) fun a hF=>e_p (v:=(.pointer (some ⟨b_p_c,0,none⟩))) 5 hF rfl (ex_nilCheck rfl) rfl rfl (by kernel_rfl) (by kernel_rfl) (by kernel_rfl) fun a hF=>e_p (v:=(.pointer (some ⟨b_p_c,0,none⟩))) 6 hF rfl (ex_fieldAddr Tryd.underlying76 rfl sz22 rfl rfl) rfl rfl (by kernel_rfl) (by kernel_rfl) (by kernel_rfl) fun a hF=>e_x (v:=s1.v) 7 hF hS rfl (ex_load1 0 0 Tryd.underlying22 rfl rfl rfl rfl) rfl rfl (by kernel_rfl) (by kernel_rfl) (by kernel_rfl) (by kernel_rfl) fun a hF=>e_p (v:=(iV (goLen p_c.code))) 8 hF rfl (ex_len Tryd.underlying22 rfl h1.len) rfl rfl (by kernel_rfl) (by kernel_rfl) (by kernel_rfl) fun a hF=>e_p (v:=(.bool (decide (p_c.at_ < (goLen p_c.code))))) 9 hF rfl (ex_ibin rfl rfl rfl) rfl rfl (by kernel_rfl) (by kernel_rfl) (by kernel_rfl) fun a hF=>e_end (by kernel_rfl) (n_sq ?_) _
 obtain ⟨b_4,hj1,hr⟩:=bindS hr
 refine q_join (fun a w=>Fr a 62 [(0,(.pointer (some ⟨b_p_c,0,none⟩))),(3,(iV b_4))]∧St X w0 w m [[⟨b_p_c,[s1.v,(iV p_c.at_),(.int .u64 p_c.seed.v)],76⟩]]) ?_ ?_
 ·rcases bcase (decide (p_c.at_ < (goLen p_c.code))) with hc2 | hc2
  ·have hj1:=cond_f hc2 hj1
   refine q_cond_f hF rfl hc2 (q_skipc (n_jn ?_))
   obtain rfl:=someI hj1
   exact ⟨hF.sub ⟨rfl,rfl,trivial⟩,hS⟩
  ·have hj1:=cond_t hc2 hj1
   refine q_cond_t hF rfl hc2 (e_region ⟨[],[]⟩ mixed fun w' hw'=>?_)
   have hS:=hS.below hw'
   refine e_p (v:=(.pointer (some ⟨b_p_c,0,none⟩))) 0 hF rfl (ex_move rfl) rfl rfl (by kernel_rfl) (by kernel_rfl) (by kernel_rfl) fun a hF=>e_p (v:=(.pointer (some ⟨b_p_c,0,none⟩))) 1 hF rfl (ex_nilCheck rfl) rfl rfl (by kernel_rfl) (by kernel_rfl) (by kernel_rfl) fun a hF=>e_p (v:=(.pointer (some ⟨b_p_c,0,none⟩))) 2 hF rfl (ex_fieldAddr Tryd.underlying76 rfl sz22 rfl rfl) rfl rfl (by kernel_rfl) (by kernel_rfl) (by kernel_rfl) fun a hF=>e_x (v:=s1.v) 3 hF hS rfl (ex_load1 0 0 Tryd.underlying22 rfl rfl rfl rfl) rfl rfl (by kernel_rfl) (by kernel_rfl) (by kernel_rfl) (by kernel_rfl) fun a hF=>e_p (v:=(.pointer (some ⟨b_p_c,0,none⟩))) 4 hF rfl (ex_move rfl) rfl rfl (by kernel_rfl) (by kernel_rfl) (by kernel_rfl) fun a hF=>e_p (v:=(.pointer (some ⟨b_p_c,0,none⟩))) 5 hF rfl (ex_nilCheck rfl) rfl rfl (by kernel_rfl) (by kernel_rfl) (by kernel_rfl) fun a hF=>e_p (v:=(.pointer (some ⟨b_p_c,1,none⟩))) 6 hF rfl (ex_fieldAddr Tryd.underlying76 rfl sz3 rfl rfl) rfl rfl (by kernel_rfl) (by kernel_rfl) (by kernel_rfl) fun a hF=>e_x (v:=(iV p_c.at_)) 7 hF hS rfl (ex_load1 0 0 Tryd.underlying3 rfl rfl rfl rfl) rfl rfl (by kernel_rfl) (by kernel_rfl) (by kernel_rfl) (by kernel_rfl) fun a hF=>?_
   obtain ⟨e_2,he_2,hj1⟩:=bindS hj1
   obtain ⟨vs3,at3,d3⟩:=h1.at he_2 1 rfl
   obtain rfl : vs3 = [(.int .u8 e_2.v)]:=d3
   refine e_p (v:=(elP s1 (p_c.at_.toNat * 1))) 8 hF rfl (ex_indexAddr Tryd.underlying22 sz5 rfl rfl (h1.idx he_2)) rfl rfl (by kernel_rfl) (by kernel_rfl) (by kernel_rfl) fun a hF=>e_x (v:=(.int .u8 e_2.v)) 9 hF hS rfl (ex_loadE1 0 Tryd.underlying5 rfl rfl ((at3).at) rfl rfl) rfl rfl (by kernel_rfl) (by kernel_rfl) (by kernel_rfl) (by kernel_rfl) fun a hF=>e_p (v:=(iV (w64 e_2.v))) 10 hF rfl (ex_conv Tryd.underlying5 Tryd.underlying3 rfl) rfl rfl (by kernel_rfl) (by kernel_rfl) (by kernel_rfl) fun a hF=>e_p (v:=(iV (w64 e_2.v))) 11 hF rfl (ex_assign rfl) rfl rfl (by kernel_rfl) (by kernel_rfl) (by kernel_rfl) fun a hF=>e_end (by kernel_rfl) (n_jn ?_) _
   obtain rfl:=someI hj1
   exact ⟨hF.sub ⟨rfl,rfl,trivial⟩,hS⟩
 ·rintro a w ⟨hF,hS⟩
  refine n_sq ?_
  refine q_seq (q_region (q_x (v:=(.pointer (some ⟨b_p_c,0,none⟩))) hF hS (ex_move rfl) rfl rfl fun a hF=>q_x (v:=(.pointer (some ⟨b_p_c,0,none⟩))) hF hS (ex_nilCheck rfl) rfl rfl fun a hF=>q_x (v:=(.pointer (some ⟨b_p_c,1,none⟩))) hF hS (ex_fieldAddr Tryd.underlying76 rfl sz3 rfl rfl) rfl rfl fun a hF=>q_x (v:=(iV p_c.at_)) hF hS (ex_load1 0 0 Tryd.underlying3 rfl rfl rfl rfl) rfl rfl fun a hF=>q_x (v:=(iV (w64 (p_c.at_ + 1)))) hF hS (ex_ibin rfl rfl rfl) rfl rfl fun a hF=>q_x (v:=(.pointer (some ⟨b_p_c,0,none⟩))) hF hS (ex_nilCheck rfl) rfl rfl fun a hF=>q_x (v:=(.pointer (some ⟨b_p_c,1,none⟩))) hF hS (ex_fieldAddr Tryd.underlying76 rfl sz3 rfl rfl) rfl rfl fun a hF=>q_store (vs:=[(iV (w64 (p_c.at_ + 1)))]) (cs':=[s1.v,(iV (w64 (p_c.at_ + 1))),(.int .u64 p_c.seed.v)]) 0 0 hF hS sz3 rfl rfl rfl rfl rfl rfl rfl rfl fun a w hF hS=>q_end (n_sq (q_seq (q_region (q_x (v:=(.pointer (some ⟨b_p_c,0,none⟩))) hF hS (ex_move rfl) rfl rfl fun a hF=>q_x (v:=(.pointer (some ⟨b_p_c,0,none⟩))) hF hS (ex_move rfl) rfl rfl fun a hF=>q_x (v:=(.pointer (some ⟨b_p_c,0,none⟩))) hF hS (ex_nilCheck rfl) rfl rfl fun a hF=>q_x (v:=(.pointer (some ⟨b_p_c,2,none⟩))) hF hS (ex_fieldAddr Tryd.underlying76 rfl sz74 rfl rfl) rfl rfl fun a hF=>q_x (v:=(.int .u64 p_c.seed.v)) hF hS (ex_load1 0 0 Tryd.underlying74 rfl rfl rfl rfl) rfl rfl fun a hF=>q_x (v:=(.int .u64 (IntKind.wrap .u64 (p_c.seed.v * 6364136223846793005)))) hF hS (ex_ibin rfl rfl rfl) rfl rfl fun a hF=>q_x (v:=(iV b_4)) hF hS (ex_move rfl) rfl rfl fun a hF=>q_x (v:=(.int .u64 (IntKind.wrap .u64 b_4))) hF hS (ex_conv Tryd.underlying3 Tryd.underlying74 rfl) rfl rfl fun a hF=>q_x (v:=(.int .u64 (IntKind.wrap .u64 ((IntKind.wrap .u64 (p_c.seed.v * 6364136223846793005)) + (IntKind.wrap .u64 b_4))))) hF hS (ex_ibin rfl rfl rfl) rfl rfl fun a hF=>q_x (v:=(.int .u64 (IntKind.wrap .u64 ((IntKind.wrap .u64 ((IntKind.wrap .u64 (p_c.seed.v * 6364136223846793005)) + (IntKind.wrap .u64 b_4))) + 1442695040888963407)))) hF hS (ex_ibin rfl rfl rfl) rfl rfl fun a hF=>q_x (v:=(.pointer (some ⟨b_p_c,0,none⟩))) hF hS (ex_nilCheck rfl) rfl rfl fun a hF=>q_x (v:=(.pointer (some ⟨b_p_c,2,none⟩))) hF hS (ex_fieldAddr Tryd.underlying76 rfl sz74 rfl rfl) rfl rfl fun a hF=>?_))))))
  refine q_store (vs:=[(.int .u64 (IntKind.wrap .u64 ((IntKind.wrap .u64 ((IntKind.wrap .u64 (p_c.seed.v * 6364136223846793005)) + (IntKind.wrap .u64 b_4))) + 1442695040888963407)))]) (cs':=[s1.v,(iV (w64 (p_c.at_ + 1))),(.int .u64 (IntKind.wrap .u64 ((IntKind.wrap .u64 ((IntKind.wrap .u64 (p_c.seed.v * 6364136223846793005)) + (IntKind.wrap .u64 b_4))) + 1442695040888963407)))]) 0 0 hF hS sz74 rfl rfl rfl rfl rfl rfl rfl rfl fun a w hF hS=>q_end (n_sq (q_seq (q_seq (e_region ⟨[],[]⟩ mixed fun w' hw'=>?_))))
  have hS:=hS.below hw'
  refine e_p (v:=(.pointer (some ⟨b_p_c,0,none⟩))) 0 hF rfl (ex_move rfl) rfl rfl (by kernel_rfl) (by kernel_rfl) (by kernel_rfl) fun a hF=>e_p (v:=(.pointer (some ⟨b_p_c,0,none⟩))) 1 hF rfl (ex_nilCheck rfl) rfl rfl (by kernel_rfl) (by kernel_rfl) (by kernel_rfl) fun a hF=>e_p (v:=(.pointer (some ⟨b_p_c,1,none⟩))) 2 hF rfl (ex_fieldAddr Tryd.underlying76 rfl sz3 rfl rfl) rfl rfl (by kernel_rfl) (by kernel_rfl) (by kernel_rfl) fun a hF=>e_x (v:=(iV (w64 (p_c.at_ + 1)))) 3 hF hS rfl (ex_load1 0 0 Tryd.underlying3 rfl rfl rfl rfl) rfl rfl (by kernel_rfl) (by kernel_rfl) (by kernel_rfl) (by kernel_rfl) fun a hF=>e_p (v:=(.pointer (some ⟨b_p_c,0,none⟩))) 4 hF rfl (ex_move rfl) rfl rfl (by kernel_rfl) (by kernel_rfl) (by kernel_rfl) fun a hF=>e_p (v:=(.pointer (some ⟨b_p_c,0,none⟩))) 5 hF rfl (ex_nilCheck rfl) rfl rfl (by kernel_rfl) (by kernel_rfl) (by kernel_rfl) fun a hF=>e_p (v:=(.pointer (some ⟨b_p_c,0,none⟩))) 6 hF rfl (ex_fieldAddr Tryd.underlying76 rfl sz22 rfl rfl) rfl rfl (by kernel_rfl) (by kernel_rfl) (by kernel_rfl) fun a hF=>e_x (v:=s1.v) 7 hF hS rfl (ex_load1 0 0 Tryd.underlying22 rfl rfl rfl rfl) rfl rfl (by kernel_rfl) (by kernel_rfl) (by kernel_rfl) (by kernel_rfl) fun a hF=>e_p (v:=(iV (goLen p_c.code))) 8 hF rfl (ex_len Tryd.underlying22 rfl h1.len) rfl rfl (by kernel_rfl) (by kernel_rfl) (by kernel_rfl) fun a hF=>e_p (v:=(.bool (decide ((w64 (p_c.at_ + 1)) ≤ (goLen p_c.code))))) 9 hF rfl (ex_ibin rfl rfl rfl) rfl rfl (by kernel_rfl) (by kernel_rfl) (by kernel_rfl) fun a hF=>e_end (by kernel_rfl) (n_sq ?_) _
  rcases bcase (decide ((w64 (p_c.at_ + 1)) ≤ (goLen p_c.code))) with hc3 | hc3
  ·have hr:=cond_f hc3 hr
   refine q_cond_f hF rfl hc3 (q_skipc (n_sq (q_seq (q_region (q_x (v:=(.pointer (some ⟨b_p_c,0,none⟩))) hF hS (ex_move rfl) rfl rfl fun a hF=>q_x (v:=(.pointer (some ⟨b_p_c,0,none⟩))) hF hS (ex_nilCheck rfl) rfl rfl fun a hF=>q_x (v:=(.pointer (some ⟨b_p_c,2,none⟩))) hF hS (ex_fieldAddr Tryd.underlying76 rfl sz74 rfl rfl) rfl rfl fun a hF=>q_x (v:=(.int .u64 (IntKind.wrap .u64 ((IntKind.wrap .u64 ((IntKind.wrap .u64 (p_c.seed.v * 6364136223846793005)) + (IntKind.wrap .u64 b_4))) + 1442695040888963407)))) hF hS (ex_load1 0 0 Tryd.underlying74 rfl rfl rfl rfl) rfl rfl fun a hF=>?_)))))
   obtain ⟨t_5,ht_5,hr⟩:=bindS hr
   refine q_x (v:=(.int .u64 t_5)) hF hS (ex_shr rfl rfl ht_5) rfl rfl fun a hF=>q_x (v:=(.int .u64 (goBits .and .u64 t_5 255))) hF hS (ex_bits rfl rfl rfl) rfl rfl fun a hF=>q_x (v:=(iV (w64 (goBits .and .u64 t_5 255)))) hF hS (ex_conv Tryd.underlying74 Tryd.underlying3 rfl) rfl rfl fun a hF=>q_x (v:=(iV (w64 (goBits .and .u64 t_5 255)))) hF hS (ex_assign rfl) rfl rfl fun a hF=>q_end (n_sq (q_ret ?_))
   obtain rfl:=someI hr
   exact ret_ofX hF hS rfl (.tmp rfl .nil) ⟨rfl,hS.sel [0] (by decide),rfl⟩
  ·have hr:=cond_t hc3 hr
   refine q_cond_t hF rfl hc3 (q_seq (q_region (q_x (v:=(iV b_4)) hF hS (ex_move rfl) rfl rfl fun a hF=>q_x (v:=(iV b_4)) hF hS (ex_assign rfl) rfl rfl fun a hF=>q_end (n_sq (q_ret (r_sq ?_))))))
   obtain rfl:=someI hr
   exact ret_ofX hF hS rfl (.tmp rfl .nil) ⟨rfl,hS.sel [0] (by decide),rfl⟩

theorem c_spec_l1Cur_pick (p_c : spec_l1Cur) (p_n : Int) (r : Int × spec_l1Cur) (hr : spec_l1Cur_pick p_c p_n = some r) (w0 : World) (m : Mem) (b_p_c : Nat) (s1 : Sl) (h1 : Rd m s1 p_c.code) (X : List Nat) (hS : St X w0 w0 m [[⟨b_p_c,[s1.v,(iV p_c.at_),(.int .u64 p_c.seed.v)],76⟩]]) :
  RetX Tryd.prog 52 [(.pointer (some ⟨b_p_c,0,none⟩)),(iV p_n)] w0 (fun v w=>v = (iV r.1)∧St X w0 w m [[⟨b_p_c,[s1.v,(iV r.2.at_),(.int .u64 r.2.seed.v)],76⟩]]∧r.2.code = p_c.code):=by
 unfold spec_l1Cur_pick at hr
 refine ret_startX Tryd.func52 rfl 20 rfl rfl fun a hF=>q_seq (q_region (q_x (v:=(iV 0)) hF hS (ex_assign rfl) rfl rfl fun a hF=>q_end (n_sq (q_seq (q_seq (q_region (q_x (v:=(iV p_n)) hF hS (ex_move rfl) rfl rfl fun a hF=>q_x (v:=(.bool (decide (p_n ≤ 1)))) hF hS (ex_ibin rfl rfl rfl) rfl rfl fun a hF=>q_end (n_sq ?_))))))))
 rcases bcase (decide (p_n ≤ 1)) with hc1 | hc1
 ·have hr:=cond_f hc1 hr
  refine q_cond_f hF rfl hc1 (q_skipc (n_sq (q_seq (q_region (q_x (v:=(.pointer (some ⟨b_p_c,0,none⟩))) hF hS (ex_move rfl) rfl rfl fun a hF=>?_)))))
  have hS2 : St _ _ _ _ ([[⟨b_p_c,[s1.v,(iV p_c.at_),(.int .u64 p_c.seed.v)],76⟩]]++[]):=hS
  have hE2:=hS2.enter
  obtain ⟨t_3,ht_3,hr⟩:=bindS hr
  refine q_do rfl fun _ hK=>wp_callX (vs:=[(.pointer (some ⟨b_p_c,0,none⟩))]) hF Tryd.func107 (by kernel_rfl) rfl rfl rfl (c_spec_l1Cur_next p_c t_3 ht_3 _ m b_p_c s1 h1 _ hE2) fun a w _ hR hF=>hK _ _ ?_
  obtain ⟨rfl,hR2,hk4⟩:=hR
  have hS : St _ _ _ _ [[⟨b_p_c,[s1.v,(iV t_3.2.at_),(.int .u64 t_3.2.seed.v)],76⟩]]:=hS2.leaveF hR2
  have h4 : Rd m s1 t_3.2.code:=by rw [hk4]; exact h1
  refine q_x (v:=(iV t_3.1)) hF hS (ex_assign rfl) rfl rfl fun a hF=>q_end (n_sq (q_seq (q_seq (q_region (q_x (v:=(iV p_n)) hF hS (ex_move rfl) rfl rfl fun a hF=>q_x (v:=(.bool (decide (200 < p_n)))) hF hS (ex_ibin rfl rfl rfl) rfl rfl fun a hF=>q_end (n_sq ?_))))))
  obtain ⟨j2,hj2,hr⟩:=bindS hr
  refine q_join (fun a w=>∃ x_8,∃ p_c_9,j2 = (x_8,p_c_9)∧Fr a 20 [(1,(iV p_n)),(5,(iV x_8))]∧St X w0 w m [[⟨b_p_c,[s1.v,(iV p_c_9.at_),(.int .u64 p_c_9.seed.v)],76⟩]]∧Rd m s1 p_c_9.code∧p_c_9.code = p_c.code) ?_ ?_
  ·rcases bcase (decide (200 < p_n)) with hc3 | hc3
   ·have hj2:=cond_f hc3 hj2
    refine q_cond_f hF rfl hc3 (q_skipc (n_jn ?_))
    obtain rfl:=someI hj2
    exact ⟨_,_,rfl,hF.sub ⟨rfl,rfl,trivial⟩,hS,h4,hk4⟩
   ·have hj2:=cond_t hc3 hj2
    refine q_cond_t hF rfl hc3 (q_region (q_x (v:=(iV t_3.1)) hF hS (ex_move rfl) rfl rfl fun a hF=>q_x (v:=(iV (w64 (t_3.1 * 256)))) hF hS (ex_ibin rfl rfl rfl) rfl rfl fun a hF=>q_x (v:=(.pointer (some ⟨b_p_c,0,none⟩))) hF hS (ex_move rfl) rfl rfl fun a hF=>?_))
    have hS5 : St _ _ _ _ ([[⟨b_p_c,[s1.v,(iV t_3.2.at_),(.int .u64 t_3.2.seed.v)],76⟩]]++[]):=hS
    have hE5:=hS5.enter
    obtain ⟨t_6,ht_6,hj2⟩:=bindS hj2
    refine q_do rfl fun _ hK=>wp_callX (vs:=[(.pointer (some ⟨b_p_c,0,none⟩))]) hF Tryd.func107 (by kernel_rfl) rfl rfl rfl (c_spec_l1Cur_next t_3.2 t_6 ht_6 _ m b_p_c s1 h4 _ hE5) fun a w _ hR hF=>hK _ _ ?_
    obtain ⟨rfl,hR5,hk7⟩:=hR
    have hS : St _ _ _ _ [[⟨b_p_c,[s1.v,(iV t_6.2.at_),(.int .u64 t_6.2.seed.v)],76⟩]]:=hS5.leaveF hR5
    have h7 : Rd m s1 t_6.2.code:=by rw [hk7]; exact h4
    refine q_x (v:=(iV (w64 ((w64 (t_3.1 * 256)) + t_6.1)))) hF hS (ex_ibin rfl rfl rfl) rfl rfl fun a hF=>q_x (v:=(iV (w64 ((w64 (t_3.1 * 256)) + t_6.1)))) hF hS (ex_assign rfl) rfl rfl fun a hF=>q_end (n_jn ?_)
    obtain rfl:=someI hj2
    exact ⟨_,_,rfl,hF.sub ⟨rfl,rfl,trivial⟩,hS,h7,(hk7.trans hk4)⟩
  ·rintro a w ⟨x_8,p_c_9,rfl,hF,hS,h10,h10k⟩
   refine n_sq ?_
   refine q_seq (q_region (q_x (v:=(iV x_8)) hF hS (ex_move rfl) rfl rfl fun a hF=>q_x (v:=(iV p_n)) hF hS (ex_move rfl) rfl rfl fun a hF=>?_))
   obtain ⟨t_11,ht_11,hr⟩:=bindS hr
   refine q_x (v:=(iV t_11)) hF hS (ex_rem rfl rfl ht_11) rfl rfl fun a hF=>q_x (v:=(iV t_11)) hF hS (ex_assign rfl) rfl rfl fun a hF=>q_end (n_sq (q_ret ?_))
   obtain rfl:=someI hr
   exact ret_ofX hF hS rfl (.tmp rfl .nil) ⟨rfl,hS.sel [0] (by decide),h10k⟩
 ·have hr:=cond_t hc1 hr
  refine q_cond_t hF rfl hc1 (q_seq (q_region (q_x (v:=(iV 0)) hF hS (ex_assign rfl) rfl rfl fun a hF=>q_end (n_sq (q_ret (r_sq ?_))))))
  obtain rfl:=someI hr
  exact ret_ofX hF hS rfl (.tmp rfl .nil) ⟨rfl,hS.sel [0] (by decide),rfl⟩

theorem c_spec_l1Cur_schema (p_c : spec_l1Cur) (r : (List impl_Variable) × spec_l1Cur) (hr : spec_l1Cur_schema p_c = some r) (w0 : World) (m : Mem) (b_p_c : Nat) (s1 : Sl) (h1 : Rd m s1 p_c.code) (X : List Nat) (hS : St X w0 w0 m [[⟨b_p_c,[s1.v,(iV p_c.at_),(.int .u64 p_c.seed.v)],76⟩]]) :
  RetX Tryd.prog 114 [(.pointer (some ⟨b_p_c,0,none⟩))] w0 (fun v w=>∃ (q0' : Piece) (s0' : Sl),v = s0'.v∧St X w0 w m [[⟨b_p_c,[s1.v,(iV r.2.at_),(.int .u64 r.2.seed.v)],76⟩],q0']∧OwnL m 101 q0' s0' r.1∧r.2.code = p_c.code):=by
 unfold spec_l1Cur_schema at hr
 refine ret_startX Tryd.func114 rfl 26 rfl rfl fun a hF=>q_seq (q_region (q_x (v:=nilS.v) hF hS (ex_assign rfl) rfl rfl fun a hF=>q_end (n_sq (q_seq (q_region (q_do rfl fun _ hK=>wp_buildSlice' (l:=([([115,101,120] : List UInt8),([97,103,101] : List UInt8),([106,111,98] : List UInt8),([104,111,109,101] : List UInt8),([115,105,122,101] : List UInt8),([108,97,110,103] : List UInt8)] : List (List UInt8))) (cells:=[(strV ([115,101,120] : List UInt8)),(strV ([97,103,101] : List UInt8)),(strV ([106,111,98] : List UInt8)),(strV ([104,111,109,101] : List UInt8)),(strV ([115,105,122,101] : List UInt8)),(strV ([108,97,110,103] : List UInt8))]) hF hS Tryd.underlying119 inf9 rfl rfl (by kernel_rfl) rfl rfl rfl ⟨rfl,rfl,rfl,rfl,rfl,rfl,rfl⟩ rfl rfl fun a w q2 s2 hF hS h2 _=>hK _ _ (q_x (v:=s2.v) hF hS (ex_assign rfl) rfl rfl fun a hF=>q_end (n_sq (q_seq (q_region (q_x (v:=nilS.v) hF hS (ex_assign rfl) rfl rfl fun a hF=>q_end (n_sq (q_seq (q_seq (q_region (q_x (v:=(iV 0)) hF hS (ex_assign rfl) rfl rfl fun a hF=>q_end (n_sq (q_block ?_))))))))))))))))))
 obtain ⟨o1,hl1,hr⟩:=bindS hr
 refine q_loop (fun (s : (List impl_Variable) × Int × spec_l1Cur) a w=>∃ (q4 : Piece),∃ (s4 : Sl),∃ out_3,∃ k_5,∃ p_c_6,s = (out_3,k_5,p_c_6)∧Fr a 26 [(0,(.pointer (some ⟨b_p_c,0,none⟩))),(3,s2.v),(4,s4.v),(5,(iV k_5))]∧St X w0 w m [q4,q2,[⟨b_p_c,[s1.v,(iV p_c_6.at_),(.int .u64 p_c_6.seed.v)],76⟩]]∧OwnL m 101 q4 s4 out_3∧Rd m s1 p_c_6.code∧p_c_6.code = p_c.code) (fun (o : (List impl_Variable) × spec_l1Cur) e a w=>∃ (q27 : Piece),∃ (s27 : Sl),∃ out_26,∃ p_c_28,o = (out_26,p_c_28)∧e = .exit 0∧Fr a 26 [(4,s27.v)]∧St X w0 w m [q27,[⟨b_p_c,[s1.v,(iV p_c_28.at_),(.int .u64 p_c_28.seed.v)],76⟩]]∧OwnL m 101 q27 s27 out_26∧Rd m s1 p_c_28.code∧p_c_28.code = p_c.code) hl1 ⟨[],nilS,_,_,_,rfl,hF.sub ⟨rfl,rfl,rfl,rfl,trivial⟩,hS.sel [2,0,1] (by decide),(OwnL.nil (α:=impl_Variable) m 101),h1,rfl⟩ ?_ ?_
 ·clear hF hS
  rintro s a w st ⟨q4,s4,out_3,k_5,p_c_6,rfl,hF,hS,h4,h7,h7k⟩ hb1
  unfold spec_l1Cur_schema_l1 at hb1
  refine q_seq (q_seq (q_region (q_x (v:=(iV k_5)) hF hS (ex_move rfl) rfl rfl fun a hF=>q_x (v:=(.pointer (some ⟨b_p_c,0,none⟩))) hF hS (ex_move rfl) rfl rfl fun a hF=>?_)))
  have hS : St _ _ _ _ [[⟨b_p_c,[s1.v,(iV p_c_6.at_),(.int .u64 p_c_6.seed.v)],76⟩],q4,q2]:=hS.sel [2,0,1] (by decide)
  have hS8 : St _ _ _ _ ([[⟨b_p_c,[s1.v,(iV p_c_6.at_),(.int .u64 p_c_6.seed.v)],76⟩]]++[q4,q2]):=hS
  have hE8:=hS8.enter
  obtain ⟨t_9,ht_9,hb1⟩:=bindS hb1
  refine q_do rfl fun _ hK=>wp_callX (vs:=[(.pointer (some ⟨b_p_c,0,none⟩)),(iV 3)]) hF Tryd.func52 (by kernel_rfl) rfl rfl rfl (c_spec_l1Cur_pick p_c_6 3 t_9 ht_9 _ m b_p_c s1 h7 _ hE8) fun a w _ hR hF=>hK _ _ ?_
  obtain ⟨rfl,hR8,hk10⟩:=hR
  have hS : St _ _ _ _ [[⟨b_p_c,[s1.v,(iV t_9.2.at_),(.int .u64 t_9.2.seed.v)],76⟩],q4,q2]:=hS8.leaveF hR8
  have h10 : Rd m s1 t_9.2.code:=by rw [hk10]; exact h7
  refine q_x (v:=(iV (w64 (1 + t_9.1)))) hF hS (ex_ibin rfl rfl rfl) rfl rfl fun a hF=>q_x (v:=(.bool (decide (k_5 < (w64 (1 + t_9.1)))))) hF hS (ex_ibin rfl rfl rfl) rfl rfl fun a hF=>q_end (n_sq ?_)
  rcases bcase (decide (k_5 < (w64 (1 + t_9.1)))) with hc2 | hc2
  ·have hb1:=cond_f hc2 hb1
   refine q_cond_f hF rfl hc2 (q_exit (x_sq ?_))
   obtain rfl:=someI hb1
   exact ⟨nofun,.inl ⟨q4,s4,_,_,rfl,rfl,hF.sub ⟨rfl,trivial⟩,hS.sel [1,0] (by decide),h4,h10,(hk10.trans h7k)⟩⟩
  ·have hb1:=cond_t hc2 hb1
   refine q_cond_t hF rfl hc2 (q_skipc (n_sq (q_seq (q_block ?_))))
   obtain ⟨j3,hj3,hb1⟩:=bindS hb1
   refine q_join (fun a w=>∃ (q23 : Piece),∃ (s23 : Sl),∃ out_22,∃ p_c_24,j3 = (out_22,p_c_24)∧Fr a 26 [(0,(.pointer (some ⟨b_p_c,0,none⟩))),(3,s2.v),(4,s23.v),(5,(iV k_5))]∧St X w0 w m [q2,q23,[⟨b_p_c,[s1.v,(iV p_c_24.at_),(.int .u64 p_c_24.seed.v)],76⟩]]∧OwnL m 101 q23 s23 out_22∧Rd m s1 p_c_24.code∧p_c_24.code = p_c.code) ?_ ?_
   ·refine e_region ⟨[6,10],[]⟩ mixed fun w' hw'=>?_
    have hS:=hS.below hw'
    refine e_p (v:=s4.v) 0 hF rfl (ex_move rfl) rfl rfl (by kernel_rfl) (by kernel_rfl) (by kernel_rfl) fun a hF=>e_p (v:=s2.v) 1 hF rfl (ex_move rfl) rfl rfl (by kernel_rfl) (by kernel_rfl) (by kernel_rfl) fun a hF=>e_p (v:=(iV k_5)) 2 hF rfl (ex_move rfl) rfl rfl (by kernel_rfl) (by kernel_rfl) (by kernel_rfl) fun a hF=>?_
    obtain ⟨e_11,he_11,hj3⟩:=bindS hj3
    obtain ⟨vs12,at12,d12⟩:=h2.at he_11 1 rfl
    obtain rfl : vs12 = [(strV e_11)]:=d12
    refine e_p (v:=(elP s2 (k_5.toNat * 1))) 3 hF rfl (ex_indexAddr Tryd.underlying119 sz9 rfl rfl (h2.idx he_11)) rfl rfl (by kernel_rfl) (by kernel_rfl) (by kernel_rfl) fun a hF=>e_p (v:=(.pointer (some ⟨b_p_c,0,none⟩))) 5 hF rfl (ex_move rfl) rfl rfl (by kernel_rfl) (by kernel_rfl) (by kernel_rfl) fun a hF=>?_
    obtain ⟨t_17,ht_17,hj3⟩:=bindS hj3
    obtain ⟨l_20,hl_20,hj3⟩:=bindS hj3
    refine e_all [4,6] (by kernel_rfl) rfl ⟨?_,?_,trivial⟩
    ·refine e_lx (v:=(strV e_11)) hF hS rfl (ex_loadE1 0 Tryd.underlying9 rfl rfl (at12.at 2 rfl) rfl rfl) rfl rfl fun a hF=>e_one 6 (by kernel_rfl) ?_
     have hS16 : St _ _ _ _ ([[⟨b_p_c,[s1.v,(iV t_9.2.at_),(.int .u64 t_9.2.seed.v)],76⟩]]++[q4,q2]):=hS
     have hE16:=hS16.enter
     refine e_opl rfl rfl rfl fun _ hK=>wp_callX (vs:=[(.pointer (some ⟨b_p_c,0,none⟩)),(iV 3)]) hF Tryd.func52 (by kernel_rfl) rfl rfl rfl (c_spec_l1Cur_pick t_9.2 3 t_17 ht_17 _ m b_p_c s1 h10 _ hE16) fun a w _ hR hF=>hK _ _ ?_
     obtain ⟨rfl,hR16,hk18⟩:=hR
     have hS : St _ _ _ _ [[⟨b_p_c,[s1.v,(iV t_17.2.at_),(.int .u64 t_17.2.seed.v)],76⟩],q4,q2]:=hS16.leaveF hR16
     have h18 : Rd m s1 t_17.2.code:=by rw [hk18]; exact h10
     refine ⟨kpN,?_⟩
     refine e_p (v:=(iV (w64 (2 + t_17.1)))) 7 hF rfl (ex_ibin rfl rfl rfl) rfl rfl (by kernel_rfl) (by kernel_rfl) (by kernel_rfl) fun a hF=>e_p (v:=(.agg #[(strV e_11),(iV (w64 (2 + t_17.1)))])) 8 hF rfl (ex_build (cells:=[(strV e_11),(iV (w64 (2 + t_17.1)))]) rfl (by kernel_rfl)) rfl rfl (by kernel_rfl) (by kernel_rfl) (by kernel_rfl) fun a hF=>e_one 9 (by kernel_rfl) (e_op rfl rfl fun _ hK=>wp_buildSlice' (l:=([(impl_Variable.mk e_11 (w64 (2 + t_17.1)))] : List impl_Variable)) (cells:=[(strV e_11),(iV (w64 (2 + t_17.1)))]) hF hS Tryd.underlying39 inf101 rfl rfl (by kernel_rfl) rfl rfl rfl ⟨rfl,rfl⟩ rfl rfl fun a w q19 s19 hF hS h19 hb=>hK _ _ hb (e_one 10 (by kernel_rfl) ?_))
     have hS : St _ _ _ _ [q4,q19,[⟨b_p_c,[s1.v,(iV t_17.2.at_),(.int .u64 t_17.2.seed.v)],76⟩],q2]:=hS.sel [2,0,1,3] (by decide)
     refine e_opl rfl rfl rfl fun _ hK=>wp_append hF hS h4 Tryd.underlying39 inf101 rfl rfl rfl rfl (h19.vw hS (j:=1) rfl) rfl (by decide) hl_20 rfl fun a w q21 s21 hF hS h21=>hK _ _ (⟨kpN,?_⟩)
     refine e_p (v:=s21.v) 11 hF rfl (ex_assign rfl) rfl rfl (by kernel_rfl) (by kernel_rfl) (by kernel_rfl) fun a hF=>e_end (by kernel_rfl) (n_jn ?_) _
     obtain rfl:=someI hj3
     exact ⟨q21,s21,_,_,rfl,hF.sub ⟨rfl,rfl,rfl,rfl,trivial⟩,hS.sel [3,0,2] (by decide),h21,h18,(hk18.trans (hk10.trans h7k))⟩
    ·have hS16 : St _ _ _ _ ([[⟨b_p_c,[s1.v,(iV t_9.2.at_),(.int .u64 t_9.2.seed.v)],76⟩]]++[q4,q2]):=hS
     have hE16:=hS16.enter
     refine e_opl rfl rfl rfl fun _ hK=>wp_callX (vs:=[(.pointer (some ⟨b_p_c,0,none⟩)),(iV 3)]) hF Tryd.func52 (by kernel_rfl) rfl rfl rfl (c_spec_l1Cur_pick t_9.2 3 t_17 ht_17 _ m b_p_c s1 h10 _ hE16) fun a w _ hR hF=>hK _ _ ?_
     obtain ⟨rfl,hR16,hk18⟩:=hR
     have hS : St _ _ _ _ [[⟨b_p_c,[s1.v,(iV t_17.2.at_),(.int .u64 t_17.2.seed.v)],76⟩],q4,q2]:=hS16.leaveF hR16
     have h18 : Rd m s1 t_17.2.code:=by rw [hk18]; exact h10
     refine ⟨kpN,?_⟩
     refine e_p (v:=(iV (w64 (2 + t_17.1)))) 7 hF rfl (ex_ibin rfl rfl rfl) rfl rfl (by kernel_rfl) (by kernel_rfl) (by kernel_rfl) fun a hF=>e_one 4 (by kernel_rfl) (e_lx (v:=(strV e_11)) hF hS rfl (ex_loadE1 0 Tryd.underlying9 rfl rfl (at12.at 2 rfl) rfl rfl) rfl rfl fun a hF=>e_p (v:=(.agg #[(strV e_11),(iV (w64 (2 + t_17.1)))])) 8 hF rfl (ex_build (cells:=[(strV e_11),(iV (w64 (2 + t_17.1)))]) rfl (by kernel_rfl)) rfl rfl (by kernel_rfl) (by kernel_rfl) (by kernel_rfl) fun a hF=>e_one 9 (by kernel_rfl) (e_op rfl rfl fun _ hK=>wp_buildSlice' (l:=([(impl_Variable.mk e_11 (w64 (2 + t_17.1)))] : List impl_Variable)) (cells:=[(strV e_11),(iV (w64 (2 + t_17.1)))]) hF hS Tryd.underlying39 inf101 rfl rfl (by kernel_rfl) rfl rfl rfl ⟨rfl,rfl⟩ rfl rfl fun a w q19 s19 hF hS h19 hb=>hK _ _ hb (e_one 10 (by kernel_rfl) ?_)))
     have hS : St _ _ _ _ [q4,q19,[⟨b_p_c,[s1.v,(iV t_17.2.at_),(.int .u64 t_17.2.seed.v)],76⟩],q2]:=hS.sel [2,0,1,3] (by decide)
     refine e_opl rfl rfl rfl fun _ hK=>wp_append hF hS h4 Tryd.underlying39 inf101 rfl rfl rfl rfl (h19.vw hS (j:=1) rfl) rfl (by decide) hl_20 rfl fun a w q21 s21 hF hS h21=>hK _ _ (⟨kpN,?_⟩)
     refine e_p (v:=s21.v) 11 hF rfl (ex_assign rfl) rfl rfl (by kernel_rfl) (by kernel_rfl) (by kernel_rfl) fun a hF=>e_end (by kernel_rfl) (n_jn ?_) _
     obtain rfl:=someI hj3
     exact ⟨q21,s21,_,_,rfl,hF.sub ⟨rfl,rfl,rfl,rfl,trivial⟩,hS.sel [3,0,2] (by decide),h21,h18,(hk18.trans (hk10.trans h7k))⟩
   ·rintro a w ⟨q23,s23,out_22,p_c_24,rfl,hF,hS,h23,h25,h25k⟩
    refine n_ib (n_sq ?_)
    refine q_region (q_x (v:=(iV k_5)) hF hS (ex_move rfl) rfl rfl fun a hF=>q_x (v:=(iV (w64 (k_5 + 1)))) hF hS (ex_ibin rfl rfl rfl) rfl rfl fun a hF=>q_x (v:=(iV (w64 (k_5 + 1)))) hF hS (ex_assign rfl) rfl rfl fun a hF=>q_end ?_)
    obtain rfl:=someI hb1
    exact ⟨rfl,q23,s23,_,_,_,rfl,hF.sub ⟨rfl,rfl,rfl,rfl,trivial⟩,hS.sel [1,0,2] (by decide),h23,h25,h25k⟩
 ·rintro e a w ⟨q27,s27,out_26,p_c_28,rfl,rfl,hF,hS,h27,h29,h29k⟩
  refine x_ib (n_sq ?_)
  refine q_seq (q_region (q_x (v:=s27.v) hF hS (ex_move rfl) rfl rfl fun a hF=>q_x (v:=s27.v) hF hS (ex_assign rfl) rfl rfl fun a hF=>q_end (n_sq (q_ret ?_))))
  obtain rfl:=someI hr
  exact ret_ofX hF hS rfl (.tmp rfl .nil) ⟨q27,s27,rfl,hS.sel [1,0] (by decide),h27,h29k⟩

theorem c_spec_l1Cur_among (p_c : spec_l1Cur) (p_list : List Int) (r : Int × spec_l1Cur) (hr : spec_l1Cur_among p_c p_list = some r) (w0 : World) (m : Mem) (b_p_c : Nat) (s1 : Sl) (h1 : Rd m s1 p_c.code) (s2 : Sl) (h2 : Rd m s2 p_list) (X : List Nat) (hS : St X w0 w0 m [[⟨b_p_c,[s1.v,(iV p_c.at_),(.int .u64 p_c.seed.v)],76⟩]]) :
  RetX Tryd.prog 60 [(.pointer (some ⟨b_p_c,0,none⟩)),s2.v] w0 (fun v w=>v = (iV r.1)∧St X w0 w m [[⟨b_p_c,[s1.v,(iV r.2.at_),(.int .u64 r.2.seed.v)],76⟩]]∧r.2.code = p_c.code):=by
 unfold spec_l1Cur_among at hr
 refine ret_startX Tryd.func60 rfl 12 rfl rfl fun a hF=>q_seq (q_region (q_x (v:=(iV 0)) hF hS (ex_assign rfl) rfl rfl fun a hF=>q_end (n_sq (q_seq (q_region (q_x (v:=s2.v) hF hS (ex_move rfl) rfl rfl fun a hF=>q_x (v:=(.pointer (some ⟨b_p_c,0,none⟩))) hF hS (ex_move rfl) rfl rfl fun a hF=>q_x (v:=s2.v) hF hS (ex_move rfl) rfl rfl fun a hF=>q_x (v:=(iV (goLen p_list))) hF hS (ex_len Tryd.underlying42 rfl h2.len) rfl rfl fun a hF=>?_))))))
 have hS3 : St _ _ _ _ ([[⟨b_p_c,[s1.v,(iV p_c.at_),(.int .u64 p_c.seed.v)],76⟩]]++[]):=hS
 have hE3:=hS3.enter
 obtain ⟨t_4,ht_4,hr⟩:=bindS hr
 refine q_do rfl fun _ hK=>wp_callX (vs:=[(.pointer (some ⟨b_p_c,0,none⟩)),(iV (goLen p_list))]) hF Tryd.func52 (by kernel_rfl) rfl rfl rfl (c_spec_l1Cur_pick p_c (goLen p_list) t_4 ht_4 _ m b_p_c s1 h1 _ hE3) fun a w _ hR hF=>hK _ _ ?_
 obtain ⟨rfl,hR3,hk5⟩:=hR
 have hS : St _ _ _ _ [[⟨b_p_c,[s1.v,(iV t_4.2.at_),(.int .u64 t_4.2.seed.v)],76⟩]]:=hS3.leaveF hR3
 have h5 : Rd m s1 t_4.2.code:=by rw [hk5]; exact h1
 obtain ⟨e_6,he_6,hr⟩:=bindS hr
 obtain ⟨vs7,at7,d7⟩:=h2.at he_6 1 rfl
 obtain rfl : vs7 = [(iV e_6)]:=d7
 refine q_x (v:=(elP s2 (t_4.1.toNat * 1))) hF hS (ex_indexAddr Tryd.underlying42 sz3 rfl rfl (h2.idx he_6)) rfl rfl fun a hF=>q_x (v:=(iV e_6)) hF hS (ex_loadE1 0 Tryd.underlying3 rfl rfl ((at7).at) rfl rfl) rfl rfl fun a hF=>q_x (v:=(iV e_6)) hF hS (ex_assign rfl) rfl rfl fun a hF=>q_end (n_sq (q_ret ?_))
 obtain rfl:=someI hr
 exact ret_ofX hF hS rfl (.tmp rfl .nil) ⟨rfl,hS.sel [0] (by decide),hk5⟩

theorem c_spec_l1Cur_of (p_c : spec_l1Cur) (p_list : List (List UInt8)) (r : (List UInt8) × spec_l1Cur) (hr : spec_l1Cur_of p_c p_list = some r) (w0 : World) (m : Mem) (b_p_c : Nat) (s1 : Sl) (h1 : Rd m s1 p_c.code) (s2 : Sl) (h2 : Rd m s2 p_list) (X : List Nat) (hS : St X w0 w0 m [[⟨b_p_c,[s1.v,(iV p_c.at_),(.int .u64 p_c.seed.v)],76⟩]]) :
  RetX Tryd.prog 115 [(.pointer (some ⟨b_p_c,0,none⟩)),s2.v] w0 (fun v w=>v = (strV r.1)∧St X w0 w m [[⟨b_p_c,[s1.v,(iV r.2.at_),(.int .u64 r.2.seed.v)],76⟩]]∧r.2.code = p_c.code):=by
 unfold spec_l1Cur_of at hr
 refine ret_startX Tryd.func115 rfl 12 rfl rfl fun a hF=>q_seq (q_region (q_x (v:=(strV ([] : List UInt8))) hF hS (ex_assign rfl) rfl rfl fun a hF=>q_end (n_sq (q_seq (q_region (q_x (v:=s2.v) hF hS (ex_move rfl) rfl rfl fun a hF=>q_x (v:=(.pointer (some ⟨b_p_c,0,none⟩))) hF hS (ex_move rfl) rfl rfl fun a hF=>q_x (v:=s2.v) hF hS (ex_move rfl) rfl rfl fun a hF=>q_x (v:=(iV (goLen p_list))) hF hS (ex_len Tryd.underlying119 rfl h2.len) rfl rfl fun a hF=>?_))))))
 have hS3 : St _ _ _ _ ([[⟨b_p_c,[s1.v,(iV p_c.at_),(.int .u64 p_c.seed.v)],76⟩]]++[]):=hS
 have hE3:=hS3.enter
 obtain ⟨t_4,ht_4,hr⟩:=bindS hr
 refine q_do rfl fun _ hK=>wp_callX (vs:=[(.pointer (some ⟨b_p_c,0,none⟩)),(iV (goLen p_list))]) hF Tryd.func52 (by kernel_rfl) rfl rfl rfl (c_spec_l1Cur_pick p_c (goLen p_list) t_4 ht_4 _ m b_p_c s1 h1 _ hE3) fun a w _ hR hF=>hK _ _ ?_
 obtain ⟨rfl,hR3,hk5⟩:=hR
 have hS : St _ _ _ _ [[⟨b_p_c,[s1.v,(iV t_4.2.at_),(.int .u64 t_4.2.seed.v)],76⟩]]:=hS3.leaveF hR3
 have h5 : Rd m s1 t_4.2.code:=by rw [hk5]; exact h1
 obtain ⟨e_6,he_6,hr⟩:=bindS hr
 obtain ⟨vs7,at7,d7⟩:=h2.at he_6 1 rfl
 obtain rfl : vs7 = [(strV e_6)]:=d7
 refine q_x (v:=(elP s2 (t_4.1.toNat * 1))) hF hS (ex_indexAddr Tryd.underlying119 sz9 rfl rfl (h2.idx he_6)) rfl rfl fun a hF=>q_x (v:=(strV e_6)) hF hS (ex_loadE1 0 Tryd.underlying9 rfl rfl ((at7).at) rfl rfl) rfl rfl fun a hF=>q_x (v:=(strV e_6)) hF hS (ex_assign rfl) rfl rfl fun a hF=>q_end (n_sq (q_ret ?_))
 obtain rfl:=someI hr
 exact ret_ofX hF hS rfl (.tmp rfl .nil) ⟨rfl,hS.sel [0] (by decide),hk5⟩

theorem c_spec_l1Cur_anySchema (p_c : spec_l1Cur) (r : (List impl_Variable) × spec_l1Cur) (hr : spec_l1Cur_anySchema p_c = some r) (w0 : World) (m : Mem) (b_p_c : Nat) (s1 : Sl) (h1 : Rd m s1 p_c.code) (X : List Nat) (hS : St X w0 w0 m [[⟨b_p_c,[s1.v,(iV p_c.at_),(.int .u64 p_c.seed.v)],76⟩]]) :
  RetX Tryd.prog 70 [(.pointer (some ⟨b_p_c,0,none⟩))] w0 (fun v w=>∃ (q0' : Piece) (s0' : Sl),v = s0'.v∧St X w0 w m [[⟨b_p_c,[s1.v,(iV r.2.at_),(.int .u64 r.2.seed.v)],76⟩],q0']∧OwnL m 101 q0' s0' r.1∧r.2.code = p_c.code):=by
 unfold spec_l1Cur_anySchema at hr
 refine ret_startX Tryd.func70 rfl 46 rfl rfl fun a hF=>q_seq (q_region (q_x (v:=nilS.v) hF hS (ex_assign rfl) rfl rfl fun a hF=>q_end (n_sq (q_seq (q_region (q_x (v:=(.pointer (some ⟨b_p_c,0,none⟩))) hF hS (ex_move rfl) rfl rfl fun a hF=>?_))))))
 have hS2 : St _ _ _ _ ([[⟨b_p_c,[s1.v,(iV p_c.at_),(.int .u64 p_c.seed.v)],76⟩]]++[]):=hS
 have hE2:=hS2.enter
 obtain ⟨t_3,ht_3,hr⟩:=bindS hr
 refine q_do rfl fun _ hK=>wp_callX (vs:=[(.pointer (some ⟨b_p_c,0,none⟩))]) hF Tryd.func114 (by kernel_rfl) rfl rfl rfl (c_spec_l1Cur_schema p_c t_3 ht_3 _ m b_p_c s1 h1 _ hE2) fun a w _ hR hF=>hK _ _ ?_
 obtain ⟨q4,s4,rfl,hR2,h4,hk5⟩:=hR
 have hS : St _ _ _ _ [[⟨b_p_c,[s1.v,(iV t_3.2.at_),(.int .u64 t_3.2.seed.v)],76⟩],q4]:=hS2.leaveF hR2
 have h5 : Rd m s1 t_3.2.code:=by rw [hk5]; exact h1
 refine q_x (v:=s4.v) hF hS (ex_assign rfl) rfl rfl fun a hF=>q_end (n_sq (q_seq (q_seq (q_region (q_x (v:=(.pointer (some ⟨b_p_c,0,none⟩))) hF hS (ex_move rfl) rfl rfl fun a hF=>?_)))))
 have hS6 : St _ _ _ _ ([[⟨b_p_c,[s1.v,(iV t_3.2.at_),(.int .u64 t_3.2.seed.v)],76⟩]]++[q4]):=hS
 have hE6:=hS6.enter
 obtain ⟨t_7,ht_7,hr⟩:=bindS hr
 refine q_do rfl fun _ hK=>wp_callX (vs:=[(.pointer (some ⟨b_p_c,0,none⟩)),(iV 24)]) hF Tryd.func52 (by kernel_rfl) rfl rfl rfl (c_spec_l1Cur_pick t_3.2 24 t_7 ht_7 _ m b_p_c s1 h5 _ hE6) fun a w _ hR hF=>hK _ _ ?_
 obtain ⟨rfl,hR6,hk8⟩:=hR
 have hS : St _ _ _ _ [[⟨b_p_c,[s1.v,(iV t_7.2.at_),(.int .u64 t_7.2.seed.v)],76⟩],q4]:=hS6.leaveF hR6
 have h8 : Rd m s1 t_7.2.code:=by rw [hk8]; exact h5
 refine q_end (n_sq (q_block (q_seq (q_region (q_x (v:=(.bool (t_7.1 == 0))) hF hS (ex_ibin rfl rfl rfl) rfl rfl fun a hF=>q_x (v:=(.bool (t_7.1 == 0))) hF hS (ex_assign rfl) rfl rfl fun a hF=>q_end (n_sq ?_))))))
 obtain ⟨j1,hj1,hr⟩:=bindS hr
 refine q_join (fun a w=>∃ (q48 : Piece),∃ (s48 : Sl),∃ s_47,∃ p_c_49,j1 = .inl (s_47,p_c_49)∧Fr a 46 [(3,s48.v)]∧St X w0 w m [q48,[⟨b_p_c,[s1.v,(iV p_c_49.at_),(.int .u64 p_c_49.seed.v)],76⟩]]∧OwnL m 101 q48 s48 s_47∧Rd m s1 p_c_49.code∧p_c_49.code = p_c.code) ?_ ?_
 ·rcases bcase (t_7.1 == 0) with hc2 | hc2
  ·have hj1:=cond_f hc2 hj1
   refine q_cond_f hF rfl hc2 (q_seq (q_region (q_x (v:=(.bool (t_7.1 == 1))) hF hS (ex_ibin rfl rfl rfl) rfl rfl fun a hF=>q_x (v:=(.bool (t_7.1 == 1))) hF hS (ex_assign rfl) rfl rfl fun a hF=>q_end (n_sq ?_))))
   obtain ⟨j3,hj3,hj1⟩:=bindS hj1
   refine q_join (fun a w=>∃ (q37 : Piece),∃ (s37 : Sl),∃ s_36,∃ p_c_38,j3 = .inl (s_36,p_c_38)∧Fr a 46 [(3,s37.v)]∧St X w0 w m [q37,[⟨b_p_c,[s1.v,(iV p_c_38.at_),(.int .u64 p_c_38.seed.v)],76⟩]]∧OwnL m 101 q37 s37 s_36∧Rd m s1 p_c_38.code∧p_c_38.code = p_c.code) ?_ ?_
   ·rcases bcase (t_7.1 == 1) with hc4 | hc4
    ·have hj3:=cond_f hc4 hj3
     refine q_cond_f hF rfl hc4 (q_seq (q_region (q_x (v:=(.bool (t_7.1 == 2))) hF hS (ex_ibin rfl rfl rfl) rfl rfl fun a hF=>q_x (v:=(.bool (t_7.1 == 2))) hF hS (ex_assign rfl) rfl rfl fun a hF=>q_end (n_sq ?_))))
     rcases bcase (t_7.1 == 2) with hc5 | hc5
     ·have hj3:=cond_f hc5 hj3
      refine q_cond_f hF rfl hc5 (q_seq (q_region (q_x (v:=(.bool (t_7.1 == 3))) hF hS (ex_ibin rfl rfl rfl) rfl rfl fun a hF=>q_x (v:=(.bool (t_7.1 == 3))) hF hS (ex_assign rfl) rfl rfl fun a hF=>q_end (n_sq ?_))))
      obtain ⟨j6,hj6,hj3⟩:=bindS hj3
      refine q_join (fun a w=>∃ (q26 : Piece),∃ (s26 : Sl),∃ s_25,∃ p_c_27,j6 = (s_25,p_c_27)∧Fr a 46 [(3,s26.v)]∧St X w0 w m [q26,[⟨b_p_c,[s1.v,(iV p_c_27.at_),(.int .u64 p_c_27.seed.v)],76⟩]]∧OwnL m 101 q26 s26 s_25∧Rd m s1 p_c_27.code∧p_c_27.code = p_c.code) ?_ ?_
      ·rcases bcase (t_7.1 == 3) with hc7 | hc7
       ·have hj6:=cond_f hc7 hj6
        refine q_cond_f hF rfl hc7 (q_skipc (n_jn ?_))
        obtain rfl:=someI hj6
        exact ⟨q4,s4,_,_,rfl,hF.sub ⟨rfl,trivial⟩,hS.sel [1,0] (by decide),h4,h8,(hk8.trans hk5)⟩
       ·have hj6:=cond_t hc7 hj6
        refine q_cond_t hF rfl hc7 (q_block ?_)
        obtain ⟨o8,hl8,hj6⟩:=bindS hj6
        refine q_loop (fun (s : (List impl_Variable) × spec_l1Cur) a w=>∃ (q10 : Piece),∃ (s10 : Sl),∃ s_9,∃ p_c_11,s = (s_9,p_c_11)∧Fr a 46 [(0,(.pointer (some ⟨b_p_c,0,none⟩))),(3,s10.v)]∧St X w0 w m [q10,[⟨b_p_c,[s1.v,(iV p_c_11.at_),(.int .u64 p_c_11.seed.v)],76⟩]]∧OwnL m 101 q10 s10 s_9∧Rd m s1 p_c_11.code∧p_c_11.code = p_c.code) (fun (o : (List impl_Variable) × spec_l1Cur) e a w=>∃ (q22 : Piece),∃ (s22 : Sl),∃ s_21,∃ p_c_23,o = (s_21,p_c_23)∧e = .exit 1∧Fr a 46 [(3,s22.v)]∧St X w0 w m [q22,[⟨b_p_c,[s1.v,(iV p_c_23.at_),(.int .u64 p_c_23.seed.v)],76⟩]]∧OwnL m 101 q22 s22 s_21∧Rd m s1 p_c_23.code∧p_c_23.code = p_c.code) hl8 ⟨q4,s4,_,_,rfl,hF.sub ⟨rfl,rfl,trivial⟩,hS.sel [1,0] (by decide),h4,h8,(hk8.trans hk5)⟩ ?_ ?_
        ·clear hF hS
         rintro s a w st ⟨q10,s10,s_9,p_c_11,rfl,hF,hS,h10,h12,h12k⟩ hb8
         unfold spec_l1Cur_anySchema_l1 at hb8
         refine q_seq (q_seq (q_region (q_x (v:=s10.v) hF hS (ex_move rfl) rfl rfl fun a hF=>q_x (v:=(iV (goLen s_9))) hF hS (ex_len Tryd.underlying39 rfl h10.len) rfl rfl fun a hF=>q_x (v:=(.pointer (some ⟨b_p_c,0,none⟩))) hF hS (ex_move rfl) rfl rfl fun a hF=>?_)))
         have hS : St _ _ _ _ [[⟨b_p_c,[s1.v,(iV p_c_11.at_),(.int .u64 p_c_11.seed.v)],76⟩],q10]:=hS.sel [1,0] (by decide)
         have hS13 : St _ _ _ _ ([[⟨b_p_c,[s1.v,(iV p_c_11.at_),(.int .u64 p_c_11.seed.v)],76⟩]]++[q10]):=hS
         have hE13:=hS13.enter
         obtain ⟨t_14,ht_14,hb8⟩:=bindS hb8
         refine q_do rfl fun _ hK=>wp_callX (vs:=[(.pointer (some ⟨b_p_c,0,none⟩)),(iV 2)]) hF Tryd.func52 (by kernel_rfl) rfl rfl rfl (c_spec_l1Cur_pick p_c_11 2 t_14 ht_14 _ m b_p_c s1 h12 _ hE13) fun a w _ hR hF=>hK _ _ ?_
         obtain ⟨rfl,hR13,hk15⟩:=hR
         have hS : St _ _ _ _ [[⟨b_p_c,[s1.v,(iV t_14.2.at_),(.int .u64 t_14.2.seed.v)],76⟩],q10]:=hS13.leaveF hR13
         have h15 : Rd m s1 t_14.2.code:=by rw [hk15]; exact h12
         refine q_x (v:=(iV (w64 (6 + t_14.1)))) hF hS (ex_ibin rfl rfl rfl) rfl rfl fun a hF=>q_x (v:=(.bool (decide ((goLen s_9) < (w64 (6 + t_14.1)))))) hF hS (ex_ibin rfl rfl rfl) rfl rfl fun a hF=>q_end (n_sq ?_)
         rcases bcase (decide ((goLen s_9) < (w64 (6 + t_14.1)))) with hc9 | hc9
         ·have hb8:=cond_f hc9 hb8
          refine q_cond_f hF rfl hc9 (q_exit (x_sq ?_))
          obtain rfl:=someI hb8
          exact ⟨nofun,.inl ⟨q10,s10,_,_,rfl,rfl,hF.sub ⟨rfl,trivial⟩,hS.sel [1,0] (by decide),h10,h15,(hk15.trans h12k)⟩⟩
         ·have hb8:=cond_t hc9 hb8
          refine q_cond_t hF rfl hc9 (q_skipc (n_sq (q_block (q_region (q_x (v:=s10.v) hF hS (ex_move rfl) rfl rfl fun a hF=>q_x (v:=s10.v) hF hS (ex_move rfl) rfl rfl fun a hF=>q_x (v:=(iV (goLen s_9))) hF hS (ex_len Tryd.underlying39 rfl h10.len) rfl rfl fun a hF=>q_x (v:=(iV (w64 (97 + (goLen s_9))))) hF hS (ex_ibin rfl rfl rfl) rfl rfl fun a hF=>q_x (v:=(.int .u8 (IntKind.wrap .u8 (w64 (97 + (goLen s_9)))))) hF hS (ex_conv Tryd.underlying3 Tryd.underlying5 rfl) rfl rfl fun a hF=>q_do rfl fun _ hK=>wp_buildSlice' (l:=([(⟨(IntKind.wrap .u8 (w64 (97 + (goLen s_9))))⟩ : K .u8)] : List (K .u8))) (cells:=[(.int .u8 (IntKind.wrap .u8 (w64 (97 + (goLen s_9)))))]) hF hS Tryd.underlying22 inf5 rfl rfl (by kernel_rfl) rfl rfl rfl ⟨rfl,rfl⟩ rfl rfl fun a w q16 s16 hF hS h16 _=>hK _ _ (q_x (v:=(strV (goBytes ([(⟨(IntKind.wrap .u8 (w64 (97 + (goLen s_9))))⟩ : K .u8)] : List (K .u8))))) hF hS (ex_toStr Tryd.underlying22 Tryd.underlying5 Tryd.underlying9 rfl (fun X w0 w hS=>h16.vw hS (j:=0) rfl)) rfl rfl fun a hF=>?_))))))
          obtain ⟨t_17,ht_17,hb8⟩:=bindS hb8
          refine q_x (v:=(strV t_17)) hF hS (ex_strCat rfl rfl ht_17) rfl rfl fun a hF=>q_x (v:=(.agg #[(strV t_17),(iV 2)])) hF hS (ex_build (cells:=[(strV t_17),(iV 2)]) rfl (by kernel_rfl)) rfl rfl fun a hF=>q_do rfl fun _ hK=>wp_buildSlice' (l:=([(impl_Variable.mk t_17 2)] : List impl_Variable)) (cells:=[(strV t_17),(iV 2)]) hF hS Tryd.underlying39 inf101 rfl rfl (by kernel_rfl) rfl rfl rfl ⟨rfl,rfl⟩ rfl rfl fun a w q18 s18 hF hS h18 _=>hK _ _ ?_
          have hS : St _ _ _ _ [q10,q18,q16,[⟨b_p_c,[s1.v,(iV t_14.2.at_),(.int .u64 t_14.2.seed.v)],76⟩]]:=hS.sel [3,0,1,2] (by decide)
          obtain ⟨l_19,hl_19,hb8⟩:=bindS hb8
          refine q_do rfl fun _ hK=>wp_append hF hS h10 Tryd.underlying39 inf101 rfl rfl rfl rfl (h18.vw hS (j:=1) rfl) rfl (by decide) hl_19 rfl fun a w q20 s20 hF hS h20=>hK _ _ (q_x (v:=s20.v) hF hS (ex_assign rfl) rfl rfl fun a hF=>q_end (n_ib ?_))
          obtain rfl:=someI hb8
          exact ⟨rfl,q20,s20,_,_,rfl,hF.sub ⟨rfl,rfl,trivial⟩,hS.mask [true,false,false,true],h20,h15,(hk15.trans h12k)⟩
        ·rintro e a w ⟨q22,s22,s_21,p_c_23,rfl,rfl,hF,hS,h22,h24,h24k⟩
         refine x_ib (n_jn ?_)
         obtain rfl:=someI hj6
         exact ⟨q22,s22,_,_,rfl,hF.sub ⟨rfl,trivial⟩,hS,h22,h24,h24k⟩
      ·rintro a w ⟨q26,s26,s_25,p_c_27,rfl,hF,hS,h26,h28,h28k⟩
       refine n_jn ?_
       obtain rfl:=someI hj3
       exact ⟨q26,s26,_,_,rfl,hF.sub ⟨rfl,trivial⟩,hS,h26,h28,h28k⟩
     ·have hj3:=cond_t hc5 hj3
      refine q_cond_t hF rfl hc5 (q_seq (q_region (q_x (v:=nilS.v) hF hS (ex_assign rfl) rfl rfl fun a hF=>q_end (n_sq (q_ret (r_jn ?_))))))
      obtain rfl:=someI hj3
      refine r_jn ?_
      obtain rfl:=someI hj1
      refine r_ib (r_sq ?_)
      obtain rfl:=someI hr
      exact ret_ofX hF hS rfl (.tmp rfl .nil) ⟨[],nilS,rfl,hS.sel [0,2] (by decide),(OwnL.nil (α:=impl_Variable) m 101),(hk8.trans hk5)⟩
    ·have hj3:=cond_t hc4 hj3
     refine q_cond_t hF rfl hc4 (q_region (q_x (v:=s4.v) hF hS (ex_move rfl) rfl rfl fun a hF=>q_x (v:=(.pointer (some ⟨b_p_c,0,none⟩))) hF hS (ex_move rfl) rfl rfl fun a hF=>q_do rfl fun _ hK=>wp_buildSlice' (l:=([([] : List UInt8),([65,103,101] : List UInt8),([97,98,99,100,101,102,103,104,105] : List UInt8),([97,103,101] : List UInt8),([97,98,32,99,100] : List UInt8)] : List (List UInt8))) (cells:=[(strV ([] : List UInt8)),(strV ([65,103,101] : List UInt8)),(strV ([97,98,99,100,101,102,103,104,105] : List UInt8)),(strV ([97,103,101] : List UInt8)),(strV ([97,98,32,99,100] : List UInt8))]) hF hS Tryd.underlying119 inf9 rfl rfl (by kernel_rfl) rfl rfl rfl ⟨rfl,rfl,rfl,rfl,rfl,rfl⟩ rfl rfl fun a w q29 s29 hF hS h29 _=>hK _ _ ?_))
     have hS : St _ _ _ _ [[⟨b_p_c,[s1.v,(iV t_7.2.at_),(.int .u64 t_7.2.seed.v)],76⟩],q29,q4]:=hS.sel [1,0,2] (by decide)
     have hS30 : St _ _ _ _ ([[⟨b_p_c,[s1.v,(iV t_7.2.at_),(.int .u64 t_7.2.seed.v)],76⟩]]++[q29,q4]):=hS
     obtain ⟨m30,hl30,hE30,hz30⟩:=hS30.lendX
     obtain ⟨t_31,ht_31,hj3⟩:=bindS hj3
     refine q_do rfl fun _ hK=>wp_callX (vs:=[(.pointer (some ⟨b_p_c,0,none⟩)),s29.v]) hF Tryd.func115 (by kernel_rfl) rfl rfl rfl (c_spec_l1Cur_of t_7.2 ([([] : List UInt8),([65,103,101] : List UInt8),([97,98,99,100,101,102,103,104,105] : List UInt8),([97,103,101] : List UInt8),([97,98,32,99,100] : List UInt8)] : List (List UInt8)) t_31 ht_31 _ m30 b_p_c s1 (h8.mono hl30) s29 (h29.froz hl30 (hz30 0 _ rfl)) _ hE30) fun a w _ hR hF=>hK _ _ ?_
     obtain ⟨rfl,hR30,hk32⟩:=hR
     have hS : St _ _ _ _ [[⟨b_p_c,[s1.v,(iV t_31.2.at_),(.int .u64 t_31.2.seed.v)],76⟩],q29,q4]:=hS30.leaveF hR30
     have h32 : Rd m s1 t_31.2.code:=by rw [hk32]; exact h8
     obtain ⟨e_33,he_33,hj3⟩:=bindS hj3
     obtain ⟨vs34,at34,d34⟩:=h4.at he_33 2 rfl
     obtain rfl : vs34 = [(strV e_33.Name),(iV e_33.Levels)]:=d34
     refine q_x (v:=(elP s4 ((0 : Int).toNat * 2))) hF hS (ex_indexAddr Tryd.underlying39 sz101 rfl rfl (h4.idx he_33)) rfl rfl fun a hF=>q_x (v:=(elP s4 ((0 : Int).toNat * 2 + 0))) hF hS (ex_fieldAddrE Tryd.underlying101 rfl sz9 rfl (h4.idx he_33) rfl) rfl rfl fun a hF=>?_
     have hS : St _ _ _ _ [q4,[⟨b_p_c,[s1.v,(iV t_31.2.at_),(.int .u64 t_31.2.seed.v)],76⟩],q29]:=hS.sel [2,0,1] (by decide)
     refine q_do rfl fun _ hK=>wp_storeE (e':=(impl_Variable.mk t_31.1 e_33.Levels)) (us:=[(strV t_31.1)]) (vs:=[(strV e_33.Name),(iV e_33.Levels)]) 0 hF hS h4 sz9 rfl rfl rfl rfl rfl rfl rfl he_33 at34 rfl rfl rfl fun w q35 hS h35=>hK _ _ (q_end (n_jn ?_))
     obtain rfl:=someI hj3
     exact ⟨q35,s4,_,_,rfl,hF.sub ⟨rfl,trivial⟩,hS.mask [true,true,false],h35,h32,(hk32.trans (hk8.trans hk5))⟩
   ·rintro a w ⟨q37,s37,s_36,p_c_38,rfl,hF,hS,h37,h39,h39k⟩
    refine n_jn ?_
    obtain rfl:=someI hj1
    exact ⟨q37,s37,_,_,rfl,hF.sub ⟨rfl,trivial⟩,hS,h37,h39,h39k⟩
  ·have hj1:=cond_t hc2 hj1
   refine q_cond_t hF rfl hc2 (q_region (q_x (v:=s4.v) hF hS (ex_move rfl) rfl rfl fun a hF=>q_x (v:=(.pointer (some ⟨b_p_c,0,none⟩))) hF hS (ex_move rfl) rfl rfl fun a hF=>q_do rfl fun _ hK=>wp_buildSlice' (l:=([1,8,9] : List Int)) (cells:=[(iV 1),(iV 8),(iV 9)]) hF hS Tryd.underlying42 inf3 rfl rfl (by kernel_rfl) rfl rfl rfl ⟨rfl,rfl,rfl,rfl⟩ rfl rfl fun a w q40 s40 hF hS h40 _=>hK _ _ ?_))
   have hS : St _ _ _ _ [[⟨b_p_c,[s1.v,(iV t_7.2.at_),(.int .u64 t_7.2.seed.v)],76⟩],q40,q4]:=hS.sel [1,0,2] (by decide)
   have hS41 : St _ _ _ _ ([[⟨b_p_c,[s1.v,(iV t_7.2.at_),(.int .u64 t_7.2.seed.v)],76⟩]]++[q40,q4]):=hS
   obtain ⟨m41,hl41,hE41,hz41⟩:=hS41.lendX
   obtain ⟨t_42,ht_42,hj1⟩:=bindS hj1
   refine q_do rfl fun _ hK=>wp_callX (vs:=[(.pointer (some ⟨b_p_c,0,none⟩)),s40.v]) hF Tryd.func60 (by kernel_rfl) rfl rfl rfl (c_spec_l1Cur_among t_7.2 ([1,8,9] : List Int) t_42 ht_42 _ m41 b_p_c s1 (h8.mono hl41) s40 (h40.froz hl41 (hz41 0 _ rfl)) _ hE41) fun a w _ hR hF=>hK _ _ ?_
   obtain ⟨rfl,hR41,hk43⟩:=hR
   have hS : St _ _ _ _ [[⟨b_p_c,[s1.v,(iV t_42.2.at_),(.int .u64 t_42.2.seed.v)],76⟩],q40,q4]:=hS41.leaveF hR41
   have h43 : Rd m s1 t_42.2.code:=by rw [hk43]; exact h8
   obtain ⟨e_44,he_44,hj1⟩:=bindS hj1
   obtain ⟨vs45,at45,d45⟩:=h4.at he_44 2 rfl
   obtain rfl : vs45 = [(strV e_44.Name),(iV e_44.Levels)]:=d45
   refine q_x (v:=(elP s4 ((0 : Int).toNat * 2))) hF hS (ex_indexAddr Tryd.underlying39 sz101 rfl rfl (h4.idx he_44)) rfl rfl fun a hF=>q_x (v:=(elP s4 ((0 : Int).toNat * 2 + 1))) hF hS (ex_fieldAddrE Tryd.underlying101 rfl sz3 rfl (h4.idx he_44) rfl) rfl rfl fun a hF=>?_
   have hS : St _ _ _ _ [q4,[⟨b_p_c,[s1.v,(iV t_42.2.at_),(.int .u64 t_42.2.seed.v)],76⟩],q40]:=hS.sel [2,0,1] (by decide)
   refine q_do rfl fun _ hK=>wp_storeE (e':=(impl_Variable.mk e_44.Name t_42.1)) (us:=[(iV t_42.1)]) (vs:=[(strV e_44.Name),(iV e_44.Levels)]) 1 hF hS h4 sz3 rfl rfl rfl rfl rfl rfl rfl he_44 at45 rfl rfl rfl fun w q46 hS h46=>hK _ _ (q_end (n_jn ?_))
   obtain rfl:=someI hj1
   exact ⟨q46,s4,_,_,rfl,hF.sub ⟨rfl,trivial⟩,hS.mask [true,true,false],h46,h43,(hk43.trans (hk8.trans hk5))⟩
 ·rintro a w ⟨q48,s48,s_47,p_c_49,rfl,hF,hS,h48,h50,h50k⟩
  refine n_ib (n_sq ?_)
  refine q_seq (q_region (q_x (v:=s48.v) hF hS (ex_move rfl) rfl rfl fun a hF=>q_x (v:=s48.v) hF hS (ex_assign rfl) rfl rfl fun a hF=>q_end (n_sq (q_ret ?_))))
  obtain rfl:=someI hr
  exact ret_ofX hF hS rfl (.tmp rfl .nil) ⟨q48,s48,rfl,hS.sel [1,0] (by decide),h48,h50k⟩

theorem c_spec_l1Cur_one (p_c : spec_l1Cur) (p_n : Int) (r : Bool × spec_l1Cur) (hr : spec_l1Cur_one p_c p_n = some r) (w0 : World) (m : Mem) (b_p_c : Nat) (s1 : Sl) (h1 : Rd m s1 p_c.code) (X : List Nat) (hS : St X w0 w0 m [[⟨b_p_c,[s1.v,(iV p_c.at_),(.int .u64 p_c.seed.v)],76⟩]]) :
  RetX Tryd.prog 50 [(.pointer (some ⟨b_p_c,0,none⟩)),(iV p_n)] w0 (fun v w=>v = (.bool r.1)∧St X w0 w m [[⟨b_p_c,[s1.v,(iV r.2.at_),(.int .u64 r.2.seed.v)],76⟩]]∧r.2.code = p_c.code):=by
 unfold spec_l1Cur_one at hr
 refine ret_startX Tryd.func50 rfl 9 rfl rfl fun a hF=>q_seq (q_region (q_x (v:=(.bool false)) hF hS (ex_assign rfl) rfl rfl fun a hF=>q_end (n_sq (q_seq (q_region (q_x (v:=(.pointer (some ⟨b_p_c,0,none⟩))) hF hS (ex_move rfl) rfl rfl fun a hF=>q_x (v:=(iV p_n)) hF hS (ex_move rfl) rfl rfl fun a hF=>?_))))))
 have hS2 : St _ _ _ _ ([[⟨b_p_c,[s1.v,(iV p_c.at_),(.int .u64 p_c.seed.v)],76⟩]]++[]):=hS
 have hE2:=hS2.enter
 obtain ⟨t_3,ht_3,hr⟩:=bindS hr
 refine q_do rfl fun _ hK=>wp_callX (vs:=[(.pointer (some ⟨b_p_c,0,none⟩)),(iV p_n)]) hF Tryd.func52 (by kernel_rfl) rfl rfl rfl (c_spec_l1Cur_pick p_c p_n t_3 ht_3 _ m b_p_c s1 h1 _ hE2) fun a w _ hR hF=>hK _ _ ?_
 obtain ⟨rfl,hR2,hk4⟩:=hR
 have hS : St _ _ _ _ [[⟨b_p_c,[s1.v,(iV t_3.2.at_),(.int .u64 t_3.2.seed.v)],76⟩]]:=hS2.leaveF hR2
 have h4 : Rd m s1 t_3.2.code:=by rw [hk4]; exact h1
 refine q_x (v:=(.bool (t_3.1 == 0))) hF hS (ex_ibin rfl rfl rfl) rfl rfl fun a hF=>q_x (v:=(.bool (t_3.1 == 0))) hF hS (ex_assign rfl) rfl rfl fun a hF=>q_end (n_sq (q_ret ?_))
 obtain rfl:=someI hr
 exact ret_ofX hF hS rfl (.tmp rfl .nil) ⟨rfl,hS.sel [0] (by decide),hk4⟩

theorem c_spec_sCount (p_s : List impl_Variable) (r : Int) (hr : spec_sCount p_s = some r) (w0 : World) (m : Mem) (hv : Vis m w0) (s1 : Sl) (h1 : Rd m s1 p_s) :
  Ret Tryd.prog 71 [s1.v] w0 (fun v _=>v = (iV r)):=by
 unfold spec_sCount at hr
 refine ret_start Tryd.func71 rfl 18 rfl rfl m hv fun a hF hS=>q_seq (q_region (q_x (v:=(iV 0)) hF hS (ex_assign rfl) rfl rfl fun a hF=>q_end (n_sq (q_seq (q_region (q_x (v:=(iV 1)) hF hS (ex_assign rfl) rfl rfl fun a hF=>q_end (n_sq (q_seq (q_seq (q_region (q_x (v:=s1.v) hF hS (ex_move rfl) rfl rfl fun a hF=>q_x (v:=(iV (goLen p_s))) hF hS (ex_len Tryd.underlying39 rfl h1.len) rfl rfl fun a hF=>q_x (v:=(iV 0)) hF hS (ex_move rfl) rfl rfl fun a hF=>q_end (n_sq (q_block ?_)))))))))))))
 obtain ⟨n_7,hl1,hr⟩:=bindS hr
 refine q_loop (fun (s : Int × Int) a w=>∃ n_2,∃ t_3,s = (n_2,t_3)∧Fr a 18 [(3,(iV n_2)),(6,s1.v),(7,(iV (goLen p_s))),(8,(iV t_3))]∧St [] w0 w m []) (fun (n_7 : Int) e a w=>e = .exit 0∧Fr a 18 [(3,(iV n_7))]∧St [] w0 w m []) hl1 ⟨_,_,rfl,hF.sub ⟨rfl,rfl,rfl,rfl,trivial⟩,hS⟩ ?_ ?_
 ·clear hF hS
  rintro s a w st ⟨n_2,t_3,rfl,hF,hS⟩ hb1
  unfold spec_sCount_l1 at hb1
  refine q_seq (q_region (q_x (v:=(.bool (decide (t_3 < (goLen p_s))))) hF hS (ex_ibin rfl rfl rfl) rfl rfl fun a hF=>q_end (n_sq (q_seq ?_))))
  rcases bcase (decide (t_3 < (goLen p_s))) with hc2 | hc2
  ·have hb1:=cond_f hc2 hb1
   refine q_cond_f hF rfl hc2 (q_exit (x_sq ?_))
   obtain rfl:=someI hb1
   exact ⟨nofun,.inl ⟨rfl,hF.sub ⟨rfl,trivial⟩,hS⟩⟩
  ·have hb1:=cond_t hc2 hb1
   refine q_cond_t hF rfl hc2 (q_skipc (n_sq (q_seq (q_block (q_seq (q_region ?_))))))
   obtain ⟨e_4,he_4,hb1⟩:=bindS hb1
   obtain ⟨vs5,at5,d5⟩:=h1.at he_4 2 rfl
   obtain rfl : vs5 = [(strV e_4.Name),(iV e_4.Levels)]:=d5
   refine q_x (v:=(elP s1 (t_3.toNat * 2))) hF hS (ex_indexAddr Tryd.underlying39 sz101 rfl rfl (h1.idx he_4)) rfl rfl fun a hF=>q_x (v:=(.agg #[(strV e_4.Name),(iV e_4.Levels)])) hF hS (ex_loadEA (us:=[(strV e_4.Name),(iV e_4.Levels)]) 0 Tryd.underlying101 rfl sz101 rfl ((at5).at) rfl rfl rfl) rfl rfl fun a hF=>q_alloc (cs:=[(strV ([] : List UInt8)),(iV 0)]) hF hS rfl rfl rfl fun a w b6 hF hS=>q_store (vs:=[(strV e_4.Name),(iV e_4.Levels)]) (cs':=[(strV e_4.Name),(iV e_4.Levels)]) 0 0 hF hS sz101 rfl rfl rfl rfl rfl rfl rfl rfl fun a w hF hS=>q_end (n_sq (q_region (q_x (v:=(iV n_2)) hF hS (ex_move rfl) rfl rfl fun a hF=>q_x (v:=(.pointer (some ⟨b6,1,none⟩))) hF hS (ex_fieldAddr Tryd.underlying101 rfl sz3 rfl rfl) rfl rfl fun a hF=>q_x (v:=(iV e_4.Levels)) hF hS (ex_load1 0 0 Tryd.underlying3 rfl rfl rfl rfl) rfl rfl fun a hF=>q_x (v:=(iV (w64 (n_2 * e_4.Levels)))) hF hS (ex_ibin rfl rfl rfl) rfl rfl fun a hF=>q_x (v:=(iV (w64 (n_2 * e_4.Levels)))) hF hS (ex_assign rfl) rfl rfl fun a hF=>q_end (n_ib (n_sq (q_region (q_x (v:=(iV (w64 (t_3 + 1)))) hF hS (ex_ibin rfl rfl rfl) rfl rfl fun a hF=>q_x (v:=(iV (w64 (t_3 + 1)))) hF hS (ex_move rfl) rfl rfl fun a hF=>q_end ?_)))))))
   obtain rfl:=someI hb1
   exact ⟨rfl,_,_,rfl,hF.sub ⟨rfl,rfl,rfl,rfl,trivial⟩,hS.mask [false]⟩
 ·rintro e a w ⟨rfl,hF,hS⟩
  refine x_ib (n_sq ?_)
  refine q_seq (q_region (q_x (v:=(iV n_7)) hF hS (ex_move rfl) rfl rfl fun a hF=>q_x (v:=(iV n_7)) hF hS (ex_assign rfl) rfl rfl fun a hF=>q_end (n_sq (q_ret ?_))))
  obtain rfl:=someI hr
  exact ret_of hF hS rfl (.tmp rfl .nil) rfl

theorem c_spec_DrawCombinationAt (p_code : List (K .u8)) (r : (List impl_Variable) × Int) (hr : spec_DrawCombinationAt p_code = some r) (w0 : World) (m : Mem) (hv : Vis m w0) (s1 : Sl) (h1 : Rd m s1 p_code) :
  Ret Tryd.prog 19 [s1.v] w0 (fun v w=>∃ (q0' : Piece) (s0' : Sl),v = (.tuple #[s0'.v,(iV r.2)])∧St [] w0 w m [q0']∧OwnL m 101 q0' s0' r.1):=by
 unfold spec_DrawCombinationAt at hr
 refine ret_start Tryd.func19 rfl 27 rfl rfl m hv fun a hF hS=>q_seq (q_region (q_x (v:=nilS.v) hF hS (ex_assign rfl) rfl rfl fun a hF=>q_x (v:=(iV 0)) hF hS (ex_assign rfl) rfl rfl fun a hF=>q_end (n_sq (q_seq (q_region (q_x (v:=s1.v) hF hS (ex_move rfl) rfl rfl fun a hF=>q_x (v:=(.agg #[s1.v,(iV 0),(.int .u64 0)])) hF hS (ex_build (cells:=[s1.v,(iV 0),(.int .u64 0)]) rfl (by kernel_rfl)) rfl rfl fun a hF=>q_box (cs:=[s1.v,(iV 0),(.int .u64 0)]) hF hS rfl rfl rfl fun a w b2 hF hS=>q_x (v:=(.pointer (some ⟨b2,0,none⟩))) hF hS (ex_assign rfl) rfl rfl fun a hF=>q_end (n_sq (q_seq (q_region (q_x (v:=(.pointer (some ⟨b2,0,none⟩))) hF hS (ex_move rfl) rfl rfl fun a hF=>?_))))))))))
 have hS3 : St _ _ _ _ ([[⟨b2,[s1.v,(iV 0),(.int .u64 0)],76⟩]]++[]):=hS
 have hE3:=hS3.enter
 obtain ⟨t_4,ht_4,hr⟩:=bindS hr
 refine q_do rfl fun _ hK=>wp_callX (vs:=[(.pointer (some ⟨b2,0,none⟩))]) hF Tryd.func70 (by kernel_rfl) rfl rfl rfl (c_spec_l1Cur_anySchema (spec_l1Cur.mk p_code 0 (⟨0⟩ : K .u64)) t_4 ht_4 _ m b2 s1 h1 _ hE3) fun a w _ hR hF=>hK _ _ ?_
 obtain ⟨q5,s5,rfl,hR3,h5,hk6⟩:=hR
 have hS : St _ _ _ _ [[⟨b2,[s1.v,(iV t_4.2.at_),(.int .u64 t_4.2.seed.v)],76⟩],q5]:=hS3.leaveF hR3
 have h6 : Rd m s1 t_4.2.code:=by rw [hk6]; exact h1
 refine q_x (v:=s5.v) hF hS (ex_assign rfl) rfl rfl fun a hF=>q_end (n_sq (q_seq (q_seq (q_region (q_x (v:=(.pointer (some ⟨b2,0,none⟩))) hF hS (ex_move rfl) rfl rfl fun a hF=>?_)))))
 have hS7 : St _ _ _ _ ([[⟨b2,[s1.v,(iV t_4.2.at_),(.int .u64 t_4.2.seed.v)],76⟩]]++[q5]):=hS
 have hE7:=hS7.enter
 obtain ⟨t_8,ht_8,hr⟩:=bindS hr
 refine q_do rfl fun _ hK=>wp_callX (vs:=[(.pointer (some ⟨b2,0,none⟩)),(iV 8)]) hF Tryd.func50 (by kernel_rfl) rfl rfl rfl (c_spec_l1Cur_one t_4.2 8 t_8 ht_8 _ m b2 s1 h6 _ hE7) fun a w _ hR hF=>hK _ _ ?_
 obtain ⟨rfl,hR7,hk9⟩:=hR
 have hS : St _ _ _ _ [[⟨b2,[s1.v,(iV t_8.2.at_),(.int .u64 t_8.2.seed.v)],76⟩],q5]:=hS7.leaveF hR7
 have h9 : Rd m s1 t_8.2.code:=by rw [hk9]; exact h6
 refine q_end (n_sq ?_)
 rcases bcase (t_8.1) with hc1 | hc1
 ·have hr:=cond_f hc1 hr
  refine q_cond_f hF rfl hc1 (q_skipc (n_sq (q_seq (q_region (q_x (v:=s5.v) hF hS (ex_move rfl) rfl rfl fun a hF=>q_x (v:=(.pointer (some ⟨b2,0,none⟩))) hF hS (ex_move rfl) rfl rfl fun a hF=>q_x (v:=s5.v) hF hS (ex_move rfl) rfl rfl fun a hF=>?_)))))
  obtain ⟨m11,hl11,hv11,hz11⟩:=hS.lend
  obtain ⟨t_10,ht_10,hr⟩:=bindS hr
  refine q_call (vs:=[s5.v]) hF hS Tryd.func71 (by kernel_rfl) rfl rfl rfl (c_spec_sCount t_4.1 t_10 ht_10 _ m11 hv11 s5 (h5.froz hl11 (hz11 1 _ rfl))) ?_
  rintro a w _ rfl hF hS
  have hS12 : St _ _ _ _ ([[⟨b2,[s1.v,(iV t_8.2.at_),(.int .u64 t_8.2.seed.v)],76⟩]]++[q5]):=hS
  have hE12:=hS12.enter
  obtain ⟨t_13,ht_13,hr⟩:=bindS hr
  refine q_do rfl fun _ hK=>wp_callX (vs:=[(.pointer (some ⟨b2,0,none⟩)),(iV t_10)]) hF Tryd.func52 (by kernel_rfl) rfl rfl rfl (c_spec_l1Cur_pick t_8.2 t_10 t_13 ht_13 _ m b2 s1 h9 _ hE12) fun a w _ hR hF=>hK _ _ ?_
  obtain ⟨rfl,hR12,hk14⟩:=hR
  have hS : St _ _ _ _ [[⟨b2,[s1.v,(iV t_13.2.at_),(.int .u64 t_13.2.seed.v)],76⟩],q5]:=hS12.leaveF hR12
  have h14 : Rd m s1 t_13.2.code:=by rw [hk14]; exact h9
  refine q_x (v:=s5.v) hF hS (ex_assign rfl) rfl rfl fun a hF=>q_x (v:=(iV t_13.1)) hF hS (ex_assign rfl) rfl rfl fun a hF=>q_end (n_sq (q_ret ?_))
  obtain rfl:=someI hr
  exact ret_of hF hS rfl (.tmp rfl (.tmp rfl .nil)) ⟨q5,s5,rfl,hS.sel [1] (by decide),h5⟩
 ·have hr:=cond_t hc1 hr
  refine q_cond_t hF rfl hc1 (q_seq (q_region (q_x (v:=s5.v) hF hS (ex_move rfl) rfl rfl fun a hF=>q_x (v:=(.pointer (some ⟨b2,0,none⟩))) hF hS (ex_move rfl) rfl rfl fun a hF=>q_x (v:=s5.v) hF hS (ex_move rfl) rfl rfl fun a hF=>?_)))
  obtain ⟨m16,hl16,hv16,hz16⟩:=hS.lend
  obtain ⟨t_15,ht_15,hr⟩:=bindS hr
  refine q_call (vs:=[s5.v]) hF hS Tryd.func71 (by kernel_rfl) rfl rfl rfl (c_spec_sCount t_4.1 t_15 ht_15 _ m16 hv16 s5 (h5.froz hl16 (hz16 1 _ rfl))) ?_
  rintro a w _ rfl hF hS
  refine q_x (v:=s5.v) hF hS (ex_move rfl) rfl rfl fun a hF=>?_
  obtain ⟨m18,hl18,hv18,hz18⟩:=hS.lend
  obtain ⟨t_17,ht_17,hr⟩:=bindS hr
  refine q_call (vs:=[s5.v]) hF hS Tryd.func71 (by kernel_rfl) rfl rfl rfl (c_spec_sCount t_4.1 t_17 ht_17 _ m18 hv18 s5 (h5.froz hl18 (hz18 1 _ rfl))) ?_
  rintro a w _ rfl hF hS
  refine q_x (v:=(iV (w64 (t_17 - 1)))) hF hS (ex_ibin rfl rfl rfl) rfl rfl fun a hF=>q_do rfl fun _ hK=>wp_buildSlice' (l:=([-1,t_15,(w64 (t_17 - 1))] : List Int)) (cells:=[(iV (-1)),(iV t_15),(iV (w64 (t_17 - 1)))]) hF hS Tryd.underlying42 inf3 rfl rfl (by kernel_rfl) rfl rfl rfl ⟨rfl,rfl,rfl,rfl⟩ rfl rfl fun a w q19 s19 hF hS h19 _=>hK _ _ ?_
  have hS : St _ _ _ _ [[⟨b2,[s1.v,(iV t_8.2.at_),(.int .u64 t_8.2.seed.v)],76⟩],q19,q5]:=hS.sel [1,0,2] (by decide)
  have hS20 : St _ _ _ _ ([[⟨b2,[s1.v,(iV t_8.2.at_),(.int .u64 t_8.2.seed.v)],76⟩]]++[q19,q5]):=hS
  obtain ⟨m20,hl20,hE20,hz20⟩:=hS20.lendX
  obtain ⟨t_21,ht_21,hr⟩:=bindS hr
  refine q_do rfl fun _ hK=>wp_callX (vs:=[(.pointer (some ⟨b2,0,none⟩)),s19.v]) hF Tryd.func60 (by kernel_rfl) rfl rfl rfl (c_spec_l1Cur_among t_8.2 ([-1,t_15,(w64 (t_17 - 1))] : List Int) t_21 ht_21 _ m20 b2 s1 (h9.mono hl20) s19 (h19.froz hl20 (hz20 0 _ rfl)) _ hE20) fun a w _ hR hF=>hK _ _ ?_
  obtain ⟨rfl,hR20,hk22⟩:=hR
  have hS : St _ _ _ _ [[⟨b2,[s1.v,(iV t_21.2.at_),(.int .u64 t_21.2.seed.v)],76⟩],q19,q5]:=hS20.leaveF hR20
  have h22 : Rd m s1 t_21.2.code:=by rw [hk22]; exact h9
  refine q_x (v:=s5.v) hF hS (ex_assign rfl) rfl rfl fun a hF=>q_x (v:=(iV t_21.1)) hF hS (ex_assign rfl) rfl rfl fun a hF=>q_end (n_sq (q_ret (r_sq ?_)))
  obtain rfl:=someI hr
  exact ret_of hF hS rfl (.tmp rfl (.tmp rfl .nil)) ⟨q5,s5,rfl,hS.sel [2] (by decide),h5⟩

theorem c_impl_isWord (p_s : List UInt8) (r : Bool) (hr : impl_isWord p_s = some r) (w0 : World) (m : Mem) (hv : Vis m w0) :
  Ret Tryd.prog 116 [(strV p_s)] w0 (fun v _=>v = (.bool r)):=by
 unfold impl_isWord at hr
 refine ret_start Tryd.func116 rfl 28 rfl rfl m hv fun a hF hS=>q_seq (q_region (q_x (v:=(.bool false)) hF hS (ex_assign rfl) rfl rfl fun a hF=>q_end (n_sq (q_seq (q_seq ?_)))))
 obtain ⟨t_1,hj1,hr⟩:=bindS hr
 refine q_join (fun a w=>Fr a 28 [(0,(strV p_s)),(11,(.bool t_1))]∧St [] w0 w m []) ?_ ?_
 ·refine q_region (q_x (v:=(strV p_s)) hF hS (ex_move rfl) rfl rfl fun a hF=>q_x (v:=(iV (goLen p_s))) hF hS (ex_strLen Tryd.underlying9 rfl) rfl rfl fun a hF=>q_x (v:=(.bool (decide ((goLen p_s) < 1)))) hF hS (ex_ibin rfl rfl rfl) rfl rfl fun a hF=>q_x (v:=(.bool (decide ((goLen p_s) < 1)))) hF hS (ex_move rfl) rfl rfl fun a hF=>?_)
  rcases bcase (decide ((goLen p_s) < 1)) with hc2 | hc2
  ·have hj1:=cond_f hc2 hj1
   refine q_xg (v:=(strV p_s)) hF hS (ex_move rfl) (wanted_t hF rfl rfl rfl hc2) rfl fun a hF=>q_xg (v:=(iV (goLen p_s))) hF hS (ex_strLen Tryd.underlying9 rfl) (wanted_t hF rfl rfl rfl hc2) rfl fun a hF=>q_xg (v:=(.bool (decide (8 < (goLen p_s))))) hF hS (ex_ibin rfl rfl rfl) (wanted_t hF rfl rfl rfl hc2) rfl fun a hF=>q_x (v:=(.bool (decide (8 < (goLen p_s))))) hF hS (ex_pick_f rfl rfl hc2) rfl rfl fun a hF=>q_end (n_jn ?_)
   obtain rfl:=someI hj1
   exact ⟨hF.sub ⟨rfl,rfl,trivial⟩,hS⟩
  ·have hj1:=cond_t hc2 hj1
   refine q_skip hF (wanted_f hF rfl rfl rfl hc2 rfl) rfl fun a hF=>q_skip hF (wanted_f hF rfl rfl rfl hc2 rfl) rfl fun a hF=>q_skip hF (wanted_f hF rfl rfl rfl hc2 rfl) rfl fun a hF=>q_x (v:=(.bool true)) hF hS (ex_pick_t rfl rfl hc2) rfl rfl fun a hF=>q_end (n_jn ?_)
   obtain rfl:=someI hj1
   exact ⟨hF.sub ⟨rfl,rfl,trivial⟩,hS⟩
 ·rintro a w ⟨hF,hS⟩
  refine n_sq ?_
  rcases bcase (t_1) with hc3 | hc3
  ·have hr:=cond_f hc3 hr
   refine q_cond_f hF rfl hc3 (q_skipc (n_sq (q_seq (q_seq (q_region (q_x (v:=(strV p_s)) hF hS (ex_move rfl) rfl rfl fun a hF=>q_x (v:=(iV (goLen p_s))) hF hS (ex_strLen Tryd.underlying9 rfl) rfl rfl fun a hF=>q_x (v:=(iV 0)) hF hS (ex_move rfl) rfl rfl fun a hF=>q_end (n_sq (q_block ?_))))))))
   obtain ⟨o4,hl4,hr⟩:=bindS hr
   refine q_loop (fun (t_2 : Int) a w=>Fr a 28 [(0,(strV p_s)),(13,(iV (goLen p_s))),(14,(iV t_2))]∧St [] w0 w m []) (fun (o : (Unit) ⊕ (Bool)) e a w=>o = .inl ()∧e = .exit 0∧Fr a 28 []∧St [] w0 w m []) hl4 ⟨hF.sub ⟨rfl,rfl,rfl,trivial⟩,hS⟩ ?_ ?_
   ·clear hF hS
    rintro t_2 a w st ⟨hF,hS⟩ hb4
    unfold impl_isWord_l1 at hb4
    refine q_seq (q_region (q_x (v:=(.bool (decide (t_2 < (goLen p_s))))) hF hS (ex_ibin rfl rfl rfl) rfl rfl fun a hF=>q_end (n_sq (q_seq ?_))))
    rcases bcase (decide (t_2 < (goLen p_s))) with hc5 | hc5
    ·have hb4:=cond_f hc5 hb4
     refine q_cond_f hF rfl hc5 (q_exit (x_sq ?_))
     obtain rfl:=someI hb4
     exact ⟨nofun,.inl ⟨rfl,rfl,hF.sub trivial,hS⟩⟩
    ·have hb4:=cond_t hc5 hb4
     refine q_cond_t hF rfl hc5 (q_skipc (n_sq (q_seq (q_block (q_seq (q_region (q_x (v:=(iV t_2)) hF hS (ex_move rfl) rfl rfl fun a hF=>q_x (v:=(iV t_2)) hF hS (ex_assign rfl) rfl rfl fun a hF=>q_end (n_sq (q_seq ?_)))))))))
     obtain ⟨t_5,hj6,hb4⟩:=bindS hb4
     refine q_join (fun a w=>Fr a 28 [(0,(strV p_s)),(13,(iV (goLen p_s))),(14,(iV t_2)),(26,(.bool t_5))]∧St [] w0 w m []) ?_ ?_
     ·refine q_region (q_x (v:=(strV p_s)) hF hS (ex_move rfl) rfl rfl fun a hF=>q_x (v:=(iV t_2)) hF hS (ex_move rfl) rfl rfl fun a hF=>?_)
      obtain ⟨t_3,ht_3,hj6⟩:=bindS hj6
      refine q_x (v:=(.int .u8 t_3)) hF hS (ex_strIdx Tryd.underlying9 rfl rfl ht_3) rfl rfl fun a hF=>q_x (v:=(.bool (decide (t_3 < 97)))) hF hS (ex_ibin rfl rfl rfl) rfl rfl fun a hF=>q_x (v:=(.bool (decide (t_3 < 97)))) hF hS (ex_move rfl) rfl rfl fun a hF=>?_
      rcases bcase (decide (t_3 < 97)) with hc7 | hc7
      ·have hj6:=cond_f hc7 hj6
       refine q_xg (v:=(strV p_s)) hF hS (ex_move rfl) (wanted_t hF rfl rfl rfl hc7) rfl fun a hF=>q_xg (v:=(iV t_2)) hF hS (ex_move rfl) (wanted_t hF rfl rfl rfl hc7) rfl fun a hF=>?_
       obtain ⟨t_4,ht_4,hj6⟩:=bindS hj6
       refine q_xg (v:=(.int .u8 t_4)) hF hS (ex_strIdx Tryd.underlying9 rfl rfl ht_4) (wanted_t hF rfl rfl rfl hc7) rfl fun a hF=>q_xg (v:=(.bool (decide (122 < t_4)))) hF hS (ex_ibin rfl rfl rfl) (wanted_t hF rfl rfl rfl hc7) rfl fun a hF=>q_x (v:=(.bool (decide (122 < t_4)))) hF hS (ex_pick_f rfl rfl hc7) rfl rfl fun a hF=>q_end (n_jn ?_)
       obtain rfl:=someI hj6
       exact ⟨hF.sub ⟨rfl,rfl,rfl,rfl,trivial⟩,hS⟩
      ·have hj6:=cond_t hc7 hj6
       refine q_skip hF (wanted_f hF rfl rfl rfl hc7 rfl) rfl fun a hF=>q_skip hF (wanted_f hF rfl rfl rfl hc7 rfl) rfl fun a hF=>q_skip hF (wanted_f hF rfl rfl rfl hc7 rfl) rfl fun a hF=>q_skip hF (wanted_f hF rfl rfl rfl hc7 rfl) rfl fun a hF=>q_x (v:=(.bool true)) hF hS (ex_pick_t rfl rfl hc7) rfl rfl fun a hF=>q_end (n_jn ?_)
       obtain rfl:=someI hj6
       exact ⟨hF.sub ⟨rfl,rfl,rfl,rfl,trivial⟩,hS⟩
     ·rintro a w ⟨hF,hS⟩
      refine n_sq ?_
      rcases bcase (t_5) with hc8 | hc8
      ·have hb4:=cond_f hc8 hb4
       refine q_cond_f hF rfl hc8 (q_skipc (n_ib (n_sq (q_region (q_x (v:=(iV (w64 (t_2 + 1)))) hF hS (ex_ibin rfl rfl rfl) rfl rfl fun a hF=>q_x (v:=(iV (w64 (t_2 + 1)))) hF hS (ex_move rfl) rfl rfl fun a hF=>q_end ?_)))))
       obtain rfl:=someI hb4
       exact ⟨rfl,hF.sub ⟨rfl,rfl,rfl,trivial⟩,hS⟩
      ·have hb4:=cond_t hc8 hb4
       refine q_cond_t hF rfl hc8 (q_seq (q_region (q_x (v:=(.bool false)) hF hS (ex_assign rfl) rfl rfl fun a hF=>q_end (n_sq (q_ret (r_ib (r_sq ?_)))))))
       obtain rfl:=someI hb4
       refine ⟨nofun,.inr fun ho=>?_⟩
       subst ho
       refine r_ib (r_sq ?_)
       obtain rfl:=someI hr
       exact ret_of hF hS rfl (.tmp rfl .nil) rfl
   ·rintro e a w ⟨rfl,rfl,hF,hS⟩
    refine x_ib (n_sq ?_)
    refine q_seq (q_region (q_x (v:=(.bool true)) hF hS (ex_assign rfl) rfl rfl fun a hF=>q_end (n_sq (q_ret ?_))))
    obtain rfl:=someI hr
    exact ret_of hF hS rfl (.tmp rfl .nil) rfl
  ·have hr:=cond_t hc3 hr
   refine q_cond_t hF rfl hc3 (q_seq (q_region (q_x (v:=(.bool false)) hF hS (ex_assign rfl) rfl rfl fun a hF=>q_end (n_sq (q_ret (r_sq ?_))))))
   obtain rfl:=someI hr
   exact ret_of hF hS rfl (.tmp rfl .nil) rfl

theorem c_impl_IsSchema (p_s : List impl_Variable) (r : Bool) (hr : impl_IsSchema p_s = some r) (w0 : World) (m : Mem) (hv : Vis m w0) (s1 : Sl) (h1 : Rd m s1 p_s) :
  Ret Tryd.prog 72 [s1.v] w0 (fun v _=>v = (.bool r)):=by
 unfold impl_IsSchema at hr
 refine ret_start Tryd.func72 rfl 51 rfl rfl m hv fun a hF hS=>q_seq (q_region (q_x (v:=(.bool false)) hF hS (ex_assign rfl) rfl rfl fun a hF=>q_end (n_sq (q_seq (q_seq ?_)))))
 obtain ⟨t_2,hj1,hr⟩:=bindS hr
 refine q_join (fun a w=>Fr a 51 [(0,s1.v),(14,(.bool t_2))]∧St [] w0 w m []) ?_ ?_
 ·refine q_region (q_x (v:=s1.v) hF hS (ex_move rfl) rfl rfl fun a hF=>q_x (v:=(iV (goLen p_s))) hF hS (ex_len Tryd.underlying39 rfl h1.len) rfl rfl fun a hF=>q_x (v:=(.bool (decide ((goLen p_s) < 1)))) hF hS (ex_ibin rfl rfl rfl) rfl rfl fun a hF=>q_x (v:=(.bool (decide ((goLen p_s) < 1)))) hF hS (ex_move rfl) rfl rfl fun a hF=>?_)
  rcases bcase (decide ((goLen p_s) < 1)) with hc2 | hc2
  ·have hj1:=cond_f hc2 hj1
   refine q_xg (v:=s1.v) hF hS (ex_move rfl) (wanted_t hF rfl rfl rfl hc2) rfl fun a hF=>q_xg (v:=(iV (goLen p_s))) hF hS (ex_len Tryd.underlying39 rfl h1.len) (wanted_t hF rfl rfl rfl hc2) rfl fun a hF=>q_xg (v:=(.bool (decide (6 < (goLen p_s))))) hF hS (ex_ibin rfl rfl rfl) (wanted_t hF rfl rfl rfl hc2) rfl fun a hF=>q_x (v:=(.bool (decide (6 < (goLen p_s))))) hF hS (ex_pick_f rfl rfl hc2) rfl rfl fun a hF=>q_end (n_jn ?_)
   obtain rfl:=someI hj1
   exact ⟨hF.sub ⟨rfl,rfl,trivial⟩,hS⟩
  ·have hj1:=cond_t hc2 hj1
   refine q_skip hF (wanted_f hF rfl rfl rfl hc2 rfl) rfl fun a hF=>q_skip hF (wanted_f hF rfl rfl rfl hc2 rfl) rfl fun a hF=>q_skip hF (wanted_f hF rfl rfl rfl hc2 rfl) rfl fun a hF=>q_x (v:=(.bool true)) hF hS (ex_pick_t rfl rfl hc2) rfl rfl fun a hF=>q_end (n_jn ?_)
   obtain rfl:=someI hj1
   exact ⟨hF.sub ⟨rfl,rfl,trivial⟩,hS⟩
 ·rintro a w ⟨hF,hS⟩
  refine n_sq ?_
  rcases bcase (t_2) with hc3 | hc3
  ·have hr:=cond_f hc3 hr
   refine q_cond_f hF rfl hc3 (q_skipc (n_sq (q_seq (q_seq (q_region (q_x (v:=s1.v) hF hS (ex_move rfl) rfl rfl fun a hF=>q_x (v:=(iV (goLen p_s))) hF hS (ex_len Tryd.underlying39 rfl h1.len) rfl rfl fun a hF=>q_x (v:=(iV 0)) hF hS (ex_move rfl) rfl rfl fun a hF=>q_end (n_sq (q_block ?_))))))))
   obtain ⟨o4,hl4,hr⟩:=bindS hr
   refine q_loop (fun (t_3 : Int) a w=>Fr a 51 [(0,s1.v),(15,s1.v),(16,(iV (goLen p_s))),(17,(iV t_3))]∧St [] w0 w m []) (fun (o : (Unit) ⊕ (Bool)) e a w=>o = .inl ()∧e = .exit 0∧Fr a 51 []∧St [] w0 w m []) hl4 ⟨hF.sub ⟨rfl,rfl,rfl,rfl,trivial⟩,hS⟩ ?_ ?_
   ·clear hF hS
    rintro t_3 a w st ⟨hF,hS⟩ hb4
    unfold impl_IsSchema_l1 at hb4
    refine q_seq (q_region (q_x (v:=(.bool (decide (t_3 < (goLen p_s))))) hF hS (ex_ibin rfl rfl rfl) rfl rfl fun a hF=>q_end (n_sq (q_seq ?_))))
    rcases bcase (decide (t_3 < (goLen p_s))) with hc5 | hc5
    ·have hb4:=cond_f hc5 hb4
     refine q_cond_f hF rfl hc5 (q_exit (x_sq ?_))
     obtain rfl:=someI hb4
     exact ⟨nofun,.inl ⟨rfl,rfl,hF.sub trivial,hS⟩⟩
    ·have hb4:=cond_t hc5 hb4
     refine q_cond_t hF rfl hc5 (q_skipc (n_sq (q_seq (q_block (q_seq (q_region (q_x (v:=(iV t_3)) hF hS (ex_move rfl) rfl rfl fun a hF=>?_)))))))
     obtain ⟨e_4,he_4,hb4⟩:=bindS hb4
     obtain ⟨vs5,at5,d5⟩:=h1.at he_4 2 rfl
     obtain rfl : vs5 = [(strV e_4.Name),(iV e_4.Levels)]:=d5
     refine q_x (v:=(elP s1 (t_3.toNat * 2))) hF hS (ex_indexAddr Tryd.underlying39 sz101 rfl rfl (h1.idx he_4)) rfl rfl fun a hF=>q_x (v:=(.agg #[(strV e_4.Name),(iV e_4.Levels)])) hF hS (ex_loadEA (us:=[(strV e_4.Name),(iV e_4.Levels)]) 0 Tryd.underlying101 rfl sz101 rfl ((at5).at) rfl rfl rfl) rfl rfl fun a hF=>q_alloc (cs:=[(strV ([] : List UInt8)),(iV 0)]) hF hS rfl rfl rfl fun a w b6 hF hS=>q_x (v:=(iV t_3)) hF hS (ex_assign rfl) rfl rfl fun a hF=>q_store (vs:=[(strV e_4.Name),(iV e_4.Levels)]) (cs':=[(strV e_4.Name),(iV e_4.Levels)]) 0 0 hF hS sz101 rfl rfl rfl rfl rfl rfl rfl rfl fun a w hF hS=>q_end (n_sq (q_seq (q_seq ?_)))
     obtain ⟨t_8,hj6,hb4⟩:=bindS hb4
     refine q_join (fun a w=>Fr a 51 [(0,s1.v),(3,(iV t_3)),(4,(.pointer (some ⟨b6,0,none⟩))),(15,s1.v),(16,(iV (goLen p_s))),(17,(iV t_3)),(35,(.bool t_8))]∧St [] w0 w m [[⟨b6,[(strV e_4.Name),(iV e_4.Levels)],101⟩]]) ?_ ?_
     ·refine q_region (q_x (v:=(.pointer (some ⟨b6,0,none⟩))) hF hS (ex_fieldAddr Tryd.underlying101 rfl sz9 rfl rfl) rfl rfl fun a hF=>q_x (v:=(strV e_4.Name)) hF hS (ex_load1 0 0 Tryd.underlying9 rfl rfl rfl rfl) rfl rfl fun a hF=>?_)
      obtain ⟨t_7,ht_7,hj6⟩:=bindS hj6
      refine q_call (vs:=[(strV e_4.Name)]) hF hS Tryd.func116 (by kernel_rfl) rfl rfl rfl (c_impl_isWord e_4.Name t_7 ht_7 _ m hS.vis) ?_
      rintro a w _ rfl hF hS
      refine q_x (v:=(.bool (!t_7))) hF hS (ex_not rfl) rfl rfl fun a hF=>q_x (v:=(.bool (!t_7))) hF hS (ex_move rfl) rfl rfl fun a hF=>?_
      rcases bcase (!t_7) with hc7 | hc7
      ·have hj6:=cond_f hc7 hj6
       refine q_xg (v:=(.pointer (some ⟨b6,1,none⟩))) hF hS (ex_fieldAddr Tryd.underlying101 rfl sz3 rfl rfl) (wanted_t hF rfl rfl rfl hc7) rfl fun a hF=>q_xg (v:=(iV e_4.Levels)) hF hS (ex_load1 0 0 Tryd.underlying3 rfl rfl rfl rfl) (wanted_t hF rfl rfl rfl hc7) rfl fun a hF=>q_xg (v:=(.bool (decide (e_4.Levels < 2)))) hF hS (ex_ibin rfl rfl rfl) (wanted_t hF rfl rfl rfl hc7) rfl fun a hF=>q_x (v:=(.bool (decide (e_4.Levels < 2)))) hF hS (ex_pick_f rfl rfl hc7) rfl rfl fun a hF=>q_x (v:=(.bool (decide (e_4.Levels < 2)))) hF hS (ex_move rfl) rfl rfl fun a hF=>?_
       rcases bcase (decide (e_4.Levels < 2)) with hc8 | hc8
       ·have hj6:=cond_f hc8 hj6
        refine q_xg (v:=(.pointer (some ⟨b6,1,none⟩))) hF hS (ex_fieldAddr Tryd.underlying101 rfl sz3 rfl rfl) (wanted_t hF rfl rfl rfl hc8) rfl fun a hF=>q_xg (v:=(iV e_4.Levels)) hF hS (ex_load1 0 0 Tryd.underlying3 rfl rfl rfl rfl) (wanted_t hF rfl rfl rfl hc8) rfl fun a hF=>q_xg (v:=(.bool (decide (8 < e_4.Levels)))) hF hS (ex_ibin rfl rfl rfl) (wanted_t hF rfl rfl rfl hc8) rfl fun a hF=>q_x (v:=(.bool (decide (8 < e_4.Levels)))) hF hS (ex_pick_f rfl rfl hc8) rfl rfl fun a hF=>q_end (n_jn ?_)
        obtain rfl:=someI hj6
        exact ⟨hF.sub ⟨rfl,rfl,rfl,rfl,rfl,rfl,rfl,trivial⟩,hS⟩
       ·have hj6:=cond_t hc8 hj6
        refine q_skip hF (wanted_f hF rfl rfl rfl hc8 rfl) rfl fun a hF=>q_skip hF (wanted_f hF rfl rfl rfl hc8 rfl) rfl fun a hF=>q_skip hF (wanted_f hF rfl rfl rfl hc8 rfl) rfl fun a hF=>q_x (v:=(.bool true)) hF hS (ex_pick_t rfl rfl hc8) rfl rfl fun a hF=>q_end (n_jn ?_)
        obtain rfl:=someI hj6
        exact ⟨hF.sub ⟨rfl,rfl,rfl,rfl,rfl,rfl,rfl,trivial⟩,hS⟩
      ·have hj6:=cond_t hc7 hj6
       refine q_skip hF (wanted_f hF rfl rfl rfl hc7 rfl) rfl fun a hF=>q_skip hF (wanted_f hF rfl rfl rfl hc7 rfl) rfl fun a hF=>q_skip hF (wanted_f hF rfl rfl rfl hc7 rfl) rfl fun a hF=>q_x (v:=(.bool true)) hF hS (ex_pick_t rfl rfl hc7) rfl rfl fun a hF=>q_x (v:=(.bool true)) hF hS (ex_move rfl) rfl rfl fun a hF=>q_skip hF (wanted_f hF rfl rfl rfl rfl rfl) rfl fun a hF=>q_skip hF (wanted_f hF rfl rfl rfl rfl rfl) rfl fun a hF=>q_skip hF (wanted_f hF rfl rfl rfl rfl rfl) rfl fun a hF=>q_x (v:=(.bool true)) hF hS (ex_pick_t rfl rfl rfl) rfl rfl fun a hF=>q_end (n_jn ?_)
       obtain rfl:=someI hj6
       exact ⟨hF.sub ⟨rfl,rfl,rfl,rfl,rfl,rfl,rfl,trivial⟩,hS⟩
     ·rintro a w ⟨hF,hS⟩
      refine n_sq ?_
      rcases bcase (t_8) with hc9 | hc9
      ·have hb4:=cond_f hc9 hb4
       refine q_cond_f hF rfl hc9 (q_skipc (n_sq (q_seq (q_region (q_x (v:=s1.v) hF hS (ex_move rfl) rfl rfl fun a hF=>q_x (v:=(iV t_3)) hF hS (ex_move rfl) rfl rfl fun a hF=>?_)))))
       obtain ⟨l_9,hl_9,hb4⟩:=bindS hb4
       have h10 : Rd m (subS s1 2 (0 : Int).toNat t_3.toNat s1.cap) l_9:=h1.sub' hl_9 2 rfl
       refine q_x (v:=(subS s1 2 (0 : Int).toNat t_3.toNat s1.cap).v) hF hS (ex_slice Tryd.underlying39 sz101 rfl rfl rfl (.inl ⟨rfl,rfl⟩) (.inr ⟨_,rfl⟩) (h1.subok hl_9)) rfl rfl fun a hF=>q_x (v:=(iV (goLen l_9))) hF hS (ex_len Tryd.underlying39 rfl h10.len) rfl rfl fun a hF=>q_x (v:=(iV 0)) hF hS (ex_move rfl) rfl rfl fun a hF=>q_end (n_sq (q_block ?_))
       obtain ⟨o10,hl10,hb4⟩:=bindS hb4
       refine q_loop (fun (t_11 : Int) a w=>Fr a 51 [(0,s1.v),(4,(.pointer (some ⟨b6,0,none⟩))),(15,s1.v),(16,(iV (goLen p_s))),(17,(iV t_3)),(38,(subS s1 2 (0 : Int).toNat t_3.toNat s1.cap).v),(39,(iV (goLen l_9))),(40,(iV t_11))]∧St [] w0 w m [[⟨b6,[(strV e_4.Name),(iV e_4.Levels)],101⟩]]) (fun (o : (Unit) ⊕ (Stp (Int) ((Unit) ⊕ (Bool)))) e a w=>o = .inl ()∧e = .exit 2∧Fr a 51 [(0,s1.v),(15,s1.v),(16,(iV (goLen p_s))),(17,(iV t_3))]∧St [] w0 w m []) hl10 ⟨hF.sub ⟨rfl,rfl,rfl,rfl,rfl,rfl,rfl,rfl,trivial⟩,hS⟩ ?_ ?_
       ·clear hF hS
        rintro t_11 a w st ⟨hF,hS⟩ hb10
        unfold impl_IsSchema_l2 at hb10
        refine q_seq (q_region (q_x (v:=(.bool (decide (t_11 < (goLen l_9))))) hF hS (ex_ibin rfl rfl rfl) rfl rfl fun a hF=>q_end (n_sq (q_seq ?_))))
        rcases bcase (decide (t_11 < (goLen l_9))) with hc11 | hc11
        ·have hb10:=cond_f hc11 hb10
         refine q_cond_f hF rfl hc11 (q_exit (x_sq ?_))
         obtain rfl:=someI hb10
         exact ⟨nofun,.inl ⟨rfl,rfl,hF.sub ⟨rfl,rfl,rfl,rfl,trivial⟩,hS.mask [false]⟩⟩
        ·have hb10:=cond_t hc11 hb10
         refine q_cond_t hF rfl hc11 (q_skipc (n_sq (q_seq (q_block (q_seq (q_region ?_))))))
         obtain ⟨e_12,he_12,hb10⟩:=bindS hb10
         obtain ⟨vs13,at13,d13⟩:=h10.at he_12 2 rfl
         obtain rfl : vs13 = [(strV e_12.Name),(iV e_12.Levels)]:=d13
         refine q_x (v:=(elP (subS s1 2 (0 : Int).toNat t_3.toNat s1.cap) (t_11.toNat * 2))) hF hS (ex_indexAddr Tryd.underlying39 sz101 rfl rfl (h10.idx he_12)) rfl rfl fun a hF=>q_x (v:=(.agg #[(strV e_12.Name),(iV e_12.Levels)])) hF hS (ex_loadEA (us:=[(strV e_12.Name),(iV e_12.Levels)]) 0 Tryd.underlying101 rfl sz101 rfl ((at13).at) rfl rfl rfl) rfl rfl fun a hF=>q_alloc (cs:=[(strV ([] : List UInt8)),(iV 0)]) hF hS rfl rfl rfl fun a w b14 hF hS=>q_store (vs:=[(strV e_12.Name),(iV e_12.Levels)]) (cs':=[(strV e_12.Name),(iV e_12.Levels)]) 0 0 hF hS sz101 rfl rfl rfl rfl rfl rfl rfl rfl fun a w hF hS=>q_end (n_sq (q_seq (q_region (q_x (v:=(.pointer (some ⟨b14,0,none⟩))) hF hS (ex_fieldAddr Tryd.underlying101 rfl sz9 rfl rfl) rfl rfl fun a hF=>q_x (v:=(strV e_12.Name)) hF hS (ex_load1 0 0 Tryd.underlying9 rfl rfl rfl rfl) rfl rfl fun a hF=>q_x (v:=(.pointer (some ⟨b6,0,none⟩))) hF hS (ex_fieldAddr Tryd.underlying101 rfl sz9 rfl rfl) rfl rfl fun a hF=>q_x (v:=(strV e_4.Name)) hF hS (ex_load1 1 0 Tryd.underlying9 rfl rfl rfl rfl) rfl rfl fun a hF=>q_x (v:=(.bool (e_12.Name == e_4.Name))) hF hS (ex_strEq rfl rfl) rfl rfl fun a hF=>q_end (n_sq ?_)))))
         rcases bcase (e_12.Name == e_4.Name) with hc12 | hc12
         ·have hb10:=cond_f hc12 hb10
          refine q_cond_f hF rfl hc12 (q_skipc (n_ib (n_sq (q_region (q_x (v:=(iV (w64 (t_11 + 1)))) hF hS (ex_ibin rfl rfl rfl) rfl rfl fun a hF=>q_x (v:=(iV (w64 (t_11 + 1)))) hF hS (ex_move rfl) rfl rfl fun a hF=>q_end ?_)))))
          obtain rfl:=someI hb10
          exact ⟨rfl,hF.sub ⟨rfl,rfl,rfl,rfl,rfl,rfl,rfl,rfl,trivial⟩,hS.mask [false,true]⟩
         ·have hb10:=cond_t hc12 hb10
          refine q_cond_t hF rfl hc12 (q_seq (q_region (q_x (v:=(.bool false)) hF hS (ex_assign rfl) rfl rfl fun a hF=>q_end (n_sq (q_ret (r_ib (r_sq ?_)))))))
          obtain rfl:=someI hb10
          refine ⟨nofun,.inr fun ho=>?_⟩
          subst ho
          refine r_ib (r_ib (r_sq ?_))
          obtain rfl:=someI hb4
          refine ⟨nofun,.inr fun ho=>?_⟩
          subst ho
          refine r_ib (r_sq ?_)
          obtain rfl:=someI hr
          exact ret_of hF hS rfl (.tmp rfl .nil) rfl
       ·rintro e a w ⟨rfl,rfl,hF,hS⟩
        refine x_ib (n_ib (n_sq ?_))
        refine q_region (q_x (v:=(iV (w64 (t_3 + 1)))) hF hS (ex_ibin rfl rfl rfl) rfl rfl fun a hF=>q_x (v:=(iV (w64 (t_3 + 1)))) hF hS (ex_move rfl) rfl rfl fun a hF=>q_end ?_)
        obtain rfl:=someI hb4
        exact ⟨rfl,hF.sub ⟨rfl,rfl,rfl,rfl,trivial⟩,hS⟩
      ·have hb4:=cond_t hc9 hb4
       refine q_cond_t hF rfl hc9 (q_seq (q_region (q_x (v:=(.bool false)) hF hS (ex_assign rfl) rfl rfl fun a hF=>q_end (n_sq (q_ret (r_sq (r_ib (r_sq ?_))))))))
       obtain rfl:=someI hb4
       refine ⟨nofun,.inr fun ho=>?_⟩
       subst ho
       refine r_ib (r_sq ?_)
       obtain rfl:=someI hr
       exact ret_of hF hS rfl (.tmp rfl .nil) rfl
   ·rintro e a w ⟨rfl,rfl,hF,hS⟩
    refine x_ib (n_sq ?_)
    refine q_seq (q_region (q_x (v:=(.bool true)) hF hS (ex_assign rfl) rfl rfl fun a hF=>q_end (n_sq (q_ret ?_))))
    obtain rfl:=someI hr
    exact ret_of hF hS rfl (.tmp rfl .nil) rfl
  ·have hr:=cond_t hc3 hr
   refine q_cond_t hF rfl hc3 (q_seq (q_region (q_x (v:=(.bool false)) hF hS (ex_assign rfl) rfl rfl fun a hF=>q_end (n_sq (q_ret (r_sq ?_))))))
   obtain rfl:=someI hr
   exact ret_of hF hS rfl (.tmp rfl .nil) rfl

theorem c_impl_combinations (p_s : List impl_Variable) (r : Int) (hr : impl_combinations p_s = some r) (w0 : World) (m : Mem) (hv : Vis m w0) (s1 : Sl) (h1 : Rd m s1 p_s) :
  Ret Tryd.prog 73 [s1.v] w0 (fun v _=>v = (iV r)):=by
 unfold impl_combinations at hr
 refine ret_start Tryd.func73 rfl 18 rfl rfl m hv fun a hF hS=>q_seq (q_region (q_x (v:=(iV 0)) hF hS (ex_assign rfl) rfl rfl fun a hF=>q_end (n_sq (q_seq (q_region (q_x (v:=(iV 1)) hF hS (ex_assign rfl) rfl rfl fun a hF=>q_end (n_sq (q_seq (q_seq (q_region (q_x (v:=s1.v) hF hS (ex_move rfl) rfl rfl fun a hF=>q_x (v:=(iV (goLen p_s))) hF hS (ex_len Tryd.underlying39 rfl h1.len) rfl rfl fun a hF=>q_x (v:=(iV 0)) hF hS (ex_move rfl) rfl rfl fun a hF=>q_end (n_sq (q_block ?_)))))))))))))
 obtain ⟨n_7,hl1,hr⟩:=bindS hr
 refine q_loop (fun (s : Int × Int) a w=>∃ n_2,∃ t_3,s = (n_2,t_3)∧Fr a 18 [(3,(iV n_2)),(6,s1.v),(7,(iV (goLen p_s))),(8,(iV t_3))]∧St [] w0 w m []) (fun (n_7 : Int) e a w=>e = .exit 0∧Fr a 18 [(3,(iV n_7))]∧St [] w0 w m []) hl1 ⟨_,_,rfl,hF.sub ⟨rfl,rfl,rfl,rfl,trivial⟩,hS⟩ ?_ ?_
 ·clear hF hS
  rintro s a w st ⟨n_2,t_3,rfl,hF,hS⟩ hb1
  unfold impl_combinations_l1 at hb1
  refine q_seq (q_region (q_x (v:=(.bool (decide (t_3 < (goLen p_s))))) hF hS (ex_ibin rfl rfl rfl) rfl rfl fun a hF=>q_end (n_sq (q_seq ?_))))
  rcases bcase (decide (t_3 < (goLen p_s))) with hc2 | hc2
  ·have hb1:=cond_f hc2 hb1
   refine q_cond_f hF rfl hc2 (q_exit (x_sq ?_))
   obtain rfl:=someI hb1
   exact ⟨nofun,.inl ⟨rfl,hF.sub ⟨rfl,trivial⟩,hS⟩⟩
  ·have hb1:=cond_t hc2 hb1
   refine q_cond_t hF rfl hc2 (q_skipc (n_sq (q_seq (q_block (q_seq (q_region ?_))))))
   obtain ⟨e_4,he_4,hb1⟩:=bindS hb1
   obtain ⟨vs5,at5,d5⟩:=h1.at he_4 2 rfl
   obtain rfl : vs5 = [(strV e_4.Name),(iV e_4.Levels)]:=d5
   refine q_x (v:=(elP s1 (t_3.toNat * 2))) hF hS (ex_indexAddr Tryd.underlying39 sz101 rfl rfl (h1.idx he_4)) rfl rfl fun a hF=>q_x (v:=(.agg #[(strV e_4.Name),(iV e_4.Levels)])) hF hS (ex_loadEA (us:=[(strV e_4.Name),(iV e_4.Levels)]) 0 Tryd.underlying101 rfl sz101 rfl ((at5).at) rfl rfl rfl) rfl rfl fun a hF=>q_alloc (cs:=[(strV ([] : List UInt8)),(iV 0)]) hF hS rfl rfl rfl fun a w b6 hF hS=>q_store (vs:=[(strV e_4.Name),(iV e_4.Levels)]) (cs':=[(strV e_4.Name),(iV e_4.Levels)]) 0 0 hF hS sz101 rfl rfl rfl rfl rfl rfl rfl rfl fun a w hF hS=>q_end (n_sq (q_region (q_x (v:=(iV n_2)) hF hS (ex_move rfl) rfl rfl fun a hF=>q_x (v:=(.pointer (some ⟨b6,1,none⟩))) hF hS (ex_fieldAddr Tryd.underlying101 rfl sz3 rfl rfl) rfl rfl fun a hF=>q_x (v:=(iV e_4.Levels)) hF hS (ex_load1 0 0 Tryd.underlying3 rfl rfl rfl rfl) rfl rfl fun a hF=>q_x (v:=(iV (w64 (n_2 * e_4.Levels)))) hF hS (ex_ibin rfl rfl rfl) rfl rfl fun a hF=>q_x (v:=(iV (w64 (n_2 * e_4.Levels)))) hF hS (ex_assign rfl) rfl rfl fun a hF=>q_end (n_ib (n_sq (q_region (q_x (v:=(iV (w64 (t_3 + 1)))) hF hS (ex_ibin rfl rfl rfl) rfl rfl fun a hF=>q_x (v:=(iV (w64 (t_3 + 1)))) hF hS (ex_move rfl) rfl rfl fun a hF=>q_end ?_)))))))
   obtain rfl:=someI hb1
   exact ⟨rfl,_,_,rfl,hF.sub ⟨rfl,rfl,rfl,rfl,trivial⟩,hS.mask [false]⟩
 ·rintro e a w ⟨rfl,hF,hS⟩
  refine x_ib (n_sq ?_)
  refine q_seq (q_region (q_x (v:=(iV n_7)) hF hS (ex_move rfl) rfl rfl fun a hF=>q_x (v:=(iV n_7)) hF hS (ex_assign rfl) rfl rfl fun a hF=>q_end (n_sq (q_ret ?_))))
  obtain rfl:=someI hr
  exact ret_of hF hS rfl (.tmp rfl .nil) rfl

theorem c_impl_valuesAt (p_s : List impl_Variable) (p_i : Int) (r : (List Int)) (hr : impl_valuesAt p_s p_i = some r) (w0 : World) (m : Mem) (hv : Vis m w0) (s1 : Sl) (h1 : Rd m s1 p_s) :
  Ret Tryd.prog 74 [s1.v,(iV p_i)] w0 (fun v w=>∃ (q0' : Piece) (s0' : Sl),v = s0'.v∧St [] w0 w m [q0']∧OwnL m 3 q0' s0' r):=by
 unfold impl_valuesAt at hr
 refine ret_start Tryd.func74 rfl 35 rfl rfl m hv fun a hF hS=>q_seq (q_region (q_x (v:=nilS.v) hF hS (ex_assign rfl) rfl rfl fun a hF=>q_end (n_sq (q_seq (q_region (q_x (v:=s1.v) hF hS (ex_move rfl) rfl rfl fun a hF=>q_x (v:=(iV (goLen p_s))) hF hS (ex_len Tryd.underlying39 rfl h1.len) rfl rfl fun a hF=>?_))))))
 obtain ⟨l_2,hl_2,hr⟩:=bindS hr
 refine q_do rfl fun _ hK=>wp_make (z:=(0 : Int)) hF hS Tryd.underlying42 inf3 rfl rfl rfl rfl rfl (by decide) hl_2 rfl fun a w q3 s3 hF hS h3 _=>hK _ _ (q_x (v:=s3.v) hF hS (ex_assign rfl) rfl rfl fun a hF=>q_end (n_sq (q_seq (q_seq (q_region (q_x (v:=s1.v) hF hS (ex_move rfl) rfl rfl fun a hF=>q_x (v:=(iV (goLen p_s))) hF hS (ex_len Tryd.underlying39 rfl h1.len) rfl rfl fun a hF=>q_x (v:=(iV (w64 ((goLen p_s) - 1)))) hF hS (ex_ibin rfl rfl rfl) rfl rfl fun a hF=>q_x (v:=(iV (w64 ((goLen p_s) - 1)))) hF hS (ex_assign rfl) rfl rfl fun a hF=>q_end (n_sq (q_block ?_))))))))
 obtain ⟨values_17,hl1,hr⟩:=bindS hr
 refine q_loop (fun (s : Int × (List Int) × Int) a w=>∃ (q6 : Piece),∃ i_4,∃ values_5,∃ k_7,s = (i_4,values_5,k_7)∧Fr a 35 [(0,s1.v),(1,(iV i_4)),(5,s3.v),(6,(iV k_7))]∧St [] w0 w m [q6]∧OwnL m 3 q6 s3 values_5) (fun (values_17 : (List Int)) e a w=>∃ (q18 : Piece),e = .exit 0∧Fr a 35 [(5,s3.v)]∧St [] w0 w m [q18]∧OwnL m 3 q18 s3 values_17) hl1 ⟨q3,_,_,_,rfl,hF.sub ⟨rfl,rfl,rfl,rfl,trivial⟩,hS,h3⟩ ?_ ?_
 ·clear hF hS
  rintro s a w st ⟨q6,i_4,values_5,k_7,rfl,hF,hS,h6⟩ hb1
  unfold impl_valuesAt_l1 at hb1
  refine q_seq (q_seq (q_region (q_x (v:=(iV k_7)) hF hS (ex_move rfl) rfl rfl fun a hF=>q_x (v:=(.bool (decide (0 ≤ k_7)))) hF hS (ex_ibin rfl rfl rfl) rfl rfl fun a hF=>q_end (n_sq ?_))))
  rcases bcase (decide (0 ≤ k_7)) with hc2 | hc2
  ·have hb1:=cond_f hc2 hb1
   refine q_cond_f hF rfl hc2 (q_exit (x_sq ?_))
   obtain rfl:=someI hb1
   exact ⟨nofun,.inl ⟨q6,rfl,hF.sub ⟨rfl,trivial⟩,hS,h6⟩⟩
  ·have hb1:=cond_t hc2 hb1
   refine q_cond_t hF rfl hc2 (q_skipc (n_sq (q_seq (q_block (q_seq (q_region (q_x (v:=s3.v) hF hS (ex_move rfl) rfl rfl fun a hF=>q_x (v:=(iV k_7)) hF hS (ex_move rfl) rfl rfl fun a hF=>q_x (v:=(iV i_4)) hF hS (ex_move rfl) rfl rfl fun a hF=>q_x (v:=s1.v) hF hS (ex_move rfl) rfl rfl fun a hF=>q_x (v:=(iV k_7)) hF hS (ex_move rfl) rfl rfl fun a hF=>?_)))))))
   obtain ⟨e_8,he_8,hb1⟩:=bindS hb1
   obtain ⟨vs9,at9,d9⟩:=h1.at he_8 2 rfl
   obtain rfl : vs9 = [(strV e_8.Name),(iV e_8.Levels)]:=d9
   refine q_x (v:=(elP s1 (k_7.toNat * 2))) hF hS (ex_indexAddr Tryd.underlying39 sz101 rfl rfl (h1.idx he_8)) rfl rfl fun a hF=>q_x (v:=(elP s1 (k_7.toNat * 2 + 1))) hF hS (ex_fieldAddrE Tryd.underlying101 rfl sz3 rfl (h1.idx he_8) rfl) rfl rfl fun a hF=>q_x (v:=(iV e_8.Levels)) hF hS (ex_loadE1 1 Tryd.underlying3 rfl rfl ((at9).at) rfl rfl) rfl rfl fun a hF=>?_
   obtain ⟨t_10,ht_10,hb1⟩:=bindS hb1
   refine q_x (v:=(iV t_10)) hF hS (ex_rem rfl rfl ht_10) rfl rfl fun a hF=>?_
   obtain ⟨e_11,he_11,hb1⟩:=bindS hb1
   obtain ⟨vs12,at12,d12⟩:=h6.at he_11 1 rfl
   obtain rfl : vs12 = [(iV e_11)]:=d12
   refine q_x (v:=(elP s3 (k_7.toNat * 1))) hF hS (ex_indexAddr Tryd.underlying42 sz3 rfl rfl (h6.idx he_11)) rfl rfl fun a hF=>q_do rfl fun _ hK=>wp_storeE (e':=t_10) (us:=[(iV t_10)]) (vs:=[(iV e_11)]) 0 hF hS h6 sz3 rfl rfl rfl rfl rfl rfl rfl he_11 at12 rfl rfl rfl fun w q13 hS h13=>hK _ _ (q_end (n_sq (q_region (q_x (v:=(iV i_4)) hF hS (ex_move rfl) rfl rfl fun a hF=>q_x (v:=s1.v) hF hS (ex_move rfl) rfl rfl fun a hF=>q_x (v:=(iV k_7)) hF hS (ex_move rfl) rfl rfl fun a hF=>?_))))
   obtain ⟨e_14,he_14,hb1⟩:=bindS hb1
   obtain ⟨vs15,at15,d15⟩:=h1.at he_14 2 rfl
   obtain rfl : vs15 = [(strV e_14.Name),(iV e_14.Levels)]:=d15
   refine q_x (v:=(elP s1 (k_7.toNat * 2))) hF hS (ex_indexAddr Tryd.underlying39 sz101 rfl rfl (h1.idx he_14)) rfl rfl fun a hF=>q_x (v:=(elP s1 (k_7.toNat * 2 + 1))) hF hS (ex_fieldAddrE Tryd.underlying101 rfl sz3 rfl (h1.idx he_14) rfl) rfl rfl fun a hF=>q_x (v:=(iV e_14.Levels)) hF hS (ex_loadE1 1 Tryd.underlying3 rfl rfl ((at15).at) rfl rfl) rfl rfl fun a hF=>?_
   obtain ⟨t_16,ht_16,hb1⟩:=bindS hb1
   refine q_x (v:=(iV t_16)) hF hS (ex_quo rfl rfl ht_16) rfl rfl fun a hF=>q_x (v:=(iV t_16)) hF hS (ex_assign rfl) rfl rfl fun a hF=>q_end (n_ib (n_sq (q_region (q_x (v:=(iV k_7)) hF hS (ex_move rfl) rfl rfl fun a hF=>q_x (v:=(iV (w64 (k_7 - 1)))) hF hS (ex_ibin rfl rfl rfl) rfl rfl fun a hF=>q_x (v:=(iV (w64 (k_7 - 1)))) hF hS (ex_assign rfl) rfl rfl fun a hF=>q_end ?_))))
   obtain rfl:=someI hb1
   exact ⟨rfl,q13,_,_,_,rfl,hF.sub ⟨rfl,rfl,rfl,rfl,trivial⟩,hS,h13⟩
 ·rintro e a w ⟨q18,rfl,hF,hS,h18⟩
  refine x_ib (n_sq ?_)
  refine q_seq (q_region (q_x (v:=s3.v) hF hS (ex_move rfl) rfl rfl fun a hF=>q_x (v:=s3.v) hF hS (ex_assign rfl) rfl rfl fun a hF=>q_end (n_sq (q_ret ?_))))
  obtain rfl:=someI hr
  exact ret_of hF hS rfl (.tmp rfl .nil) ⟨q18,s3,rfl,hS.sel [0] (by decide),h18⟩

theorem c_impl_CombinationAt (p_s : List impl_Variable) (p_i : Int) (r : (List Int) × Bool) (hr : impl_CombinationAt p_s p_i = some r) (w0 : World) (m : Mem) (hv : Vis m w0) (s1 : Sl) (h1 : Rd m s1 p_s) :
  Ret Tryd.prog 20 [s1.v,(iV p_i)] w0 (fun v w=>∃ (q0' : Piece) (s0' : Sl),v = (.tuple #[s0'.v,(.bool r.2)])∧St [] w0 w m [q0']∧OwnL m 3 q0' s0' r.1):=by
 unfold impl_CombinationAt at hr
 refine ret_start Tryd.func20 rfl 22 rfl rfl m hv fun a hF hS=>q_seq (q_region (q_x (v:=nilS.v) hF hS (ex_assign rfl) rfl rfl fun a hF=>q_x (v:=(.bool false)) hF hS (ex_assign rfl) rfl rfl fun a hF=>q_end (n_sq (q_seq (q_seq ?_)))))
 obtain ⟨t_4,hj1,hr⟩:=bindS hr
 refine q_join (fun a w=>Fr a 22 [(0,s1.v),(1,(iV p_i)),(18,(.bool t_4))]∧St [] w0 w m []) ?_ ?_
 ·refine q_region (q_x (v:=s1.v) hF hS (ex_move rfl) rfl rfl fun a hF=>?_)
  obtain ⟨t_2,ht_2,hj1⟩:=bindS hj1
  refine q_call (vs:=[s1.v]) hF hS Tryd.func72 (by kernel_rfl) rfl rfl rfl (c_impl_IsSchema p_s t_2 ht_2 _ m hS.vis s1 h1) ?_
  rintro a w _ rfl hF hS
  refine q_x (v:=(.bool (!t_2))) hF hS (ex_not rfl) rfl rfl fun a hF=>q_x (v:=(.bool (!t_2))) hF hS (ex_move rfl) rfl rfl fun a hF=>?_
  rcases bcase (!t_2) with hc2 | hc2
  ·have hj1:=cond_f hc2 hj1
   refine q_xg (v:=(iV p_i)) hF hS (ex_move rfl) (wanted_t hF rfl rfl rfl hc2) rfl fun a hF=>q_xg (v:=(.bool (decide (p_i < 0)))) hF hS (ex_ibin rfl rfl rfl) (wanted_t hF rfl rfl rfl hc2) rfl fun a hF=>q_x (v:=(.bool (decide (p_i < 0)))) hF hS (ex_pick_f rfl rfl hc2) rfl rfl fun a hF=>q_x (v:=(.bool (decide (p_i < 0)))) hF hS (ex_move rfl) rfl rfl fun a hF=>?_
   rcases bcase (decide (p_i < 0)) with hc3 | hc3
   ·have hj1:=cond_f hc3 hj1
    refine q_xg (v:=(iV p_i)) hF hS (ex_move rfl) (wanted_t hF rfl rfl rfl hc3) rfl fun a hF=>q_xg (v:=s1.v) hF hS (ex_move rfl) (wanted_t hF rfl rfl rfl hc3) rfl fun a hF=>?_
    obtain ⟨t_3,ht_3,hj1⟩:=bindS hj1
    refine q_callg (vs:=[s1.v]) hF hS (wanted_t hF rfl rfl rfl hc3) Tryd.func73 (by kernel_rfl) rfl rfl rfl (c_impl_combinations p_s t_3 ht_3 _ m hS.vis s1 h1) ?_
    rintro a w _ rfl hF hS
    refine q_xg (v:=(.bool (decide (t_3 ≤ p_i)))) hF hS (ex_ibin rfl rfl rfl) (wanted_t hF rfl rfl rfl hc3) rfl fun a hF=>q_x (v:=(.bool (decide (t_3 ≤ p_i)))) hF hS (ex_pick_f rfl rfl hc3) rfl rfl fun a hF=>q_end (n_jn ?_)
    obtain rfl:=someI hj1
    exact ⟨hF.sub ⟨rfl,rfl,rfl,trivial⟩,hS⟩
   ·have hj1:=cond_t hc3 hj1
    refine q_skip hF (wanted_f hF rfl rfl rfl hc3 rfl) rfl fun a hF=>q_skip hF (wanted_f hF rfl rfl rfl hc3 rfl) rfl fun a hF=>q_skip hF (wanted_f hF rfl rfl rfl hc3 rfl) rfl fun a hF=>q_skip hF (wanted_f hF rfl rfl rfl hc3 rfl) rfl fun a hF=>q_x (v:=(.bool true)) hF hS (ex_pick_t rfl rfl hc3) rfl rfl fun a hF=>q_end (n_jn ?_)
    obtain rfl:=someI hj1
    exact ⟨hF.sub ⟨rfl,rfl,rfl,trivial⟩,hS⟩
  ·have hj1:=cond_t hc2 hj1
   refine q_skip hF (wanted_f hF rfl rfl rfl hc2 rfl) rfl fun a hF=>q_skip hF (wanted_f hF rfl rfl rfl hc2 rfl) rfl fun a hF=>q_x (v:=(.bool true)) hF hS (ex_pick_t rfl rfl hc2) rfl rfl fun a hF=>q_x (v:=(.bool true)) hF hS (ex_move rfl) rfl rfl fun a hF=>q_skip hF (wanted_f hF rfl rfl rfl rfl rfl) rfl fun a hF=>q_skip hF (wanted_f hF rfl rfl rfl rfl rfl) rfl fun a hF=>q_skip hF (wanted_f hF rfl rfl rfl rfl rfl) rfl fun a hF=>q_skip hF (wanted_f hF rfl rfl rfl rfl rfl) rfl fun a hF=>q_x (v:=(.bool true)) hF hS (ex_pick_t rfl rfl rfl) rfl rfl fun a hF=>q_end (n_jn ?_)
   obtain rfl:=someI hj1
   exact ⟨hF.sub ⟨rfl,rfl,rfl,trivial⟩,hS⟩
 ·rintro a w ⟨hF,hS⟩
  refine n_sq ?_
  rcases bcase (t_4) with hc4 | hc4
  ·have hr:=cond_f hc4 hr
   refine q_cond_f hF rfl hc4 (q_skipc (n_sq (q_seq (q_region (q_x (v:=s1.v) hF hS (ex_move rfl) rfl rfl fun a hF=>q_x (v:=(iV p_i)) hF hS (ex_move rfl) rfl rfl fun a hF=>?_)))))
   obtain ⟨t_5,ht_5,hr⟩:=bindS hr
   refine q_call (vs:=[s1.v,(iV p_i)]) hF hS Tryd.func74 (by kernel_rfl) rfl rfl rfl (c_impl_valuesAt p_s p_i t_5 ht_5 _ m hS.vis s1 h1) ?_
   rintro a w _ ⟨q7,s7,rfl,hR6,h7⟩ hF hS2
   have hS : St _ _ _ _ [q7]:=hS.joinF hR6
   refine q_x (v:=s7.v) hF hS (ex_assign rfl) rfl rfl fun a hF=>q_x (v:=(.bool true)) hF hS (ex_assign rfl) rfl rfl fun a hF=>q_end (n_sq (q_ret ?_))
   obtain rfl:=someI hr
   exact ret_of hF hS rfl (.tmp rfl (.tmp rfl .nil)) ⟨q7,s7,rfl,hS.sel [0] (by decide),h7⟩
  ·have hr:=cond_t hc4 hr
   refine q_cond_t hF rfl hc4 (q_seq (q_region (q_x (v:=nilS.v) hF hS (ex_assign rfl) rfl rfl fun a hF=>q_x (v:=(.bool false)) hF hS (ex_assign rfl) rfl rfl fun a hF=>q_end (n_sq (q_ret (r_sq ?_))))))
   obtain rfl:=someI hr
   exact ret_of hF hS rfl (.tmp rfl (.tmp rfl .nil)) ⟨[],nilS,rfl,hS.sel [0] (by decide),(OwnL.nil (α:=Int) m 3)⟩

theorem c_spec_l1In (p_n : Int) (p_lo : Int) (p_hi : Int) (r : Bool) (hr : spec_l1In p_n p_lo p_hi = some r) (w0 : World) (m : Mem) (hv : Vis m w0) :
  Ret Tryd.prog 62 [(iV p_n),(iV p_lo),(iV p_hi)] w0 (fun v _=>v = (.bool r)):=by
 unfold spec_l1In at hr
 refine ret_start Tryd.func62 rfl 15 rfl rfl m hv fun a hF hS=>q_seq (q_region (q_x (v:=(.bool false)) hF hS (ex_assign rfl) rfl rfl fun a hF=>q_end (n_sq (q_seq ?_))))
 obtain ⟨t_1,hj1,hr⟩:=bindS hr
 refine q_join (fun a w=>Fr a 15 [(6,(.bool t_1))]∧St [] w0 w m []) ?_ ?_
 ·refine q_region (q_x (v:=(iV p_n)) hF hS (ex_move rfl) rfl rfl fun a hF=>q_x (v:=(iV p_lo)) hF hS (ex_move rfl) rfl rfl fun a hF=>q_x (v:=(.bool (decide (p_lo ≤ p_n)))) hF hS (ex_ibin rfl rfl rfl) rfl rfl fun a hF=>q_x (v:=(.bool (decide (p_lo ≤ p_n)))) hF hS (ex_move rfl) rfl rfl fun a hF=>?_)
  rcases bcase (decide (p_lo ≤ p_n)) with hc2 | hc2
  ·have hj1:=cond_f hc2 hj1
   refine q_skip hF (wanted_f hF rfl rfl rfl hc2 rfl) rfl fun a hF=>q_skip hF (wanted_f hF rfl rfl rfl hc2 rfl) rfl fun a hF=>q_skip hF (wanted_f hF rfl rfl rfl hc2 rfl) rfl fun a hF=>q_x (v:=(.bool false)) hF hS (ex_pick_f rfl rfl hc2) rfl rfl fun a hF=>q_x (v:=(.bool false)) hF hS (ex_assign rfl) rfl rfl fun a hF=>q_end (n_jn ?_)
   obtain rfl:=someI hj1
   exact ⟨hF.sub ⟨rfl,trivial⟩,hS⟩
  ·have hj1:=cond_t hc2 hj1
   refine q_xg (v:=(iV p_n)) hF hS (ex_move rfl) (wanted_t hF rfl rfl rfl hc2) rfl fun a hF=>q_xg (v:=(iV p_hi)) hF hS (ex_move rfl) (wanted_t hF rfl rfl rfl hc2) rfl fun a hF=>q_xg (v:=(.bool (decide (p_n ≤ p_hi)))) hF hS (ex_ibin rfl rfl rfl) (wanted_t hF rfl rfl rfl hc2) rfl fun a hF=>q_x (v:=(.bool (decide (p_n ≤ p_hi)))) hF hS (ex_pick_t rfl rfl hc2) rfl rfl fun a hF=>q_x (v:=(.bool (decide (p_n ≤ p_hi)))) hF hS (ex_assign rfl) rfl rfl fun a hF=>q_end (n_jn ?_)
   obtain rfl:=someI hj1
   exact ⟨hF.sub ⟨rfl,trivial⟩,hS⟩
 ·rintro a w ⟨hF,hS⟩
  refine n_sq (q_ret ?_)
  obtain rfl:=someI hr
  exact ret_of hF hS rfl (.tmp rfl .nil) rfl

theorem c_spec_sName (p_s : List UInt8) (r : Bool) (hr : spec_sName p_s = some r) (w0 : World) (m : Mem) (hv : Vis m w0) :
  Ret Tryd.prog 117 [(strV p_s)] w0 (fun v _=>v = (.bool r)):=by
 unfold spec_sName at hr
 refine ret_start Tryd.func117 rfl 23 rfl rfl m hv fun a hF hS=>q_seq (q_region (q_x (v:=(.bool false)) hF hS (ex_assign rfl) rfl rfl fun a hF=>q_end (n_sq (q_seq (q_seq (q_region (q_x (v:=(iV 0)) hF hS (ex_assign rfl) rfl rfl fun a hF=>q_end (n_sq (q_block ?_)))))))))
 obtain ⟨o1,hl1,hr⟩:=bindS hr
 refine q_loop (fun (i_1 : Int) a w=>Fr a 23 [(0,(strV p_s)),(3,(iV i_1))]∧St [] w0 w m []) (fun (o : (Unit) ⊕ (Bool)) e a w=>o = .inl ()∧e = .exit 0∧Fr a 23 [(0,(strV p_s))]∧St [] w0 w m []) hl1 ⟨hF.sub ⟨rfl,rfl,trivial⟩,hS⟩ ?_ ?_
 ·clear hF hS
  rintro i_1 a w st ⟨hF,hS⟩ hb1
  unfold spec_sName_l1 at hb1
  refine q_seq (q_seq (q_region (q_x (v:=(iV i_1)) hF hS (ex_move rfl) rfl rfl fun a hF=>q_x (v:=(strV p_s)) hF hS (ex_move rfl) rfl rfl fun a hF=>q_x (v:=(iV (goLen p_s))) hF hS (ex_strLen Tryd.underlying9 rfl) rfl rfl fun a hF=>q_x (v:=(.bool (decide (i_1 < (goLen p_s))))) hF hS (ex_ibin rfl rfl rfl) rfl rfl fun a hF=>q_end (n_sq ?_))))
  rcases bcase (decide (i_1 < (goLen p_s))) with hc2 | hc2
  ·have hb1:=cond_f hc2 hb1
   refine q_cond_f hF rfl hc2 (q_exit (x_sq ?_))
   obtain rfl:=someI hb1
   exact ⟨nofun,.inl ⟨rfl,rfl,hF.sub ⟨rfl,trivial⟩,hS⟩⟩
  ·have hb1:=cond_t hc2 hb1
   refine q_cond_t hF rfl hc2 (q_skipc (n_sq (q_seq (q_block (q_seq ?_)))))
   obtain ⟨t_4,hj3,hb1⟩:=bindS hb1
   refine q_join (fun a w=>Fr a 23 [(0,(strV p_s)),(3,(iV i_1)),(19,(.bool t_4))]∧St [] w0 w m []) ?_ ?_
   ·refine q_region (q_x (v:=(strV p_s)) hF hS (ex_move rfl) rfl rfl fun a hF=>q_x (v:=(iV i_1)) hF hS (ex_move rfl) rfl rfl fun a hF=>?_)
    obtain ⟨t_2,ht_2,hj3⟩:=bindS hj3
    refine q_x (v:=(.int .u8 t_2)) hF hS (ex_strIdx Tryd.underlying9 rfl rfl ht_2) rfl rfl fun a hF=>q_x (v:=(.bool (decide (t_2 < 97)))) hF hS (ex_ibin rfl rfl rfl) rfl rfl fun a hF=>q_x (v:=(.bool (decide (t_2 < 97)))) hF hS (ex_move rfl) rfl rfl fun a hF=>?_
    rcases bcase (decide (t_2 < 97)) with hc4 | hc4
    ·have hj3:=cond_f hc4 hj3
     refine q_xg (v:=(strV p_s)) hF hS (ex_move rfl) (wanted_t hF rfl rfl rfl hc4) rfl fun a hF=>q_xg (v:=(iV i_1)) hF hS (ex_move rfl) (wanted_t hF rfl rfl rfl hc4) rfl fun a hF=>?_
     obtain ⟨t_3,ht_3,hj3⟩:=bindS hj3
     refine q_xg (v:=(.int .u8 t_3)) hF hS (ex_strIdx Tryd.underlying9 rfl rfl ht_3) (wanted_t hF rfl rfl rfl hc4) rfl fun a hF=>q_xg (v:=(.bool (decide (122 < t_3)))) hF hS (ex_ibin rfl rfl rfl) (wanted_t hF rfl rfl rfl hc4) rfl fun a hF=>q_x (v:=(.bool (decide (122 < t_3)))) hF hS (ex_pick_f rfl rfl hc4) rfl rfl fun a hF=>q_end (n_jn ?_)
     obtain rfl:=someI hj3
     exact ⟨hF.sub ⟨rfl,rfl,rfl,trivial⟩,hS⟩
    ·have hj3:=cond_t hc4 hj3
     refine q_skip hF (wanted_f hF rfl rfl rfl hc4 rfl) rfl fun a hF=>q_skip hF (wanted_f hF rfl rfl rfl hc4 rfl) rfl fun a hF=>q_skip hF (wanted_f hF rfl rfl rfl hc4 rfl) rfl fun a hF=>q_skip hF (wanted_f hF rfl rfl rfl hc4 rfl) rfl fun a hF=>q_x (v:=(.bool true)) hF hS (ex_pick_t rfl rfl hc4) rfl rfl fun a hF=>q_end (n_jn ?_)
     obtain rfl:=someI hj3
     exact ⟨hF.sub ⟨rfl,rfl,rfl,trivial⟩,hS⟩
   ·rintro a w ⟨hF,hS⟩
    refine n_sq ?_
    rcases bcase (t_4) with hc5 | hc5
    ·have hb1:=cond_f hc5 hb1
     refine q_cond_f hF rfl hc5 (q_skipc (n_ib (n_sq (q_region (q_x (v:=(iV i_1)) hF hS (ex_move rfl) rfl rfl fun a hF=>q_x (v:=(iV (w64 (i_1 + 1)))) hF hS (ex_ibin rfl rfl rfl) rfl rfl fun a hF=>q_x (v:=(iV (w64 (i_1 + 1)))) hF hS (ex_assign rfl) rfl rfl fun a hF=>q_end ?_)))))
     obtain rfl:=someI hb1
     exact ⟨rfl,hF.sub ⟨rfl,rfl,trivial⟩,hS⟩
    ·have hb1:=cond_t hc5 hb1
     refine q_cond_t hF rfl hc5 (q_seq (q_region (q_x (v:=(.bool false)) hF hS (ex_assign rfl) rfl rfl fun a hF=>q_end (n_sq (q_ret (r_ib (r_sq ?_)))))))
     obtain rfl:=someI hb1
     refine ⟨nofun,.inr fun ho=>?_⟩
     subst ho
     refine r_ib (r_sq ?_)
     obtain rfl:=someI hr
     exact ret_of hF hS rfl (.tmp rfl .nil) rfl
 ·rintro e a w ⟨rfl,rfl,hF,hS⟩
  refine x_ib (n_sq ?_)
  refine q_seq (q_region (q_x (v:=(strV p_s)) hF hS (ex_move rfl) rfl rfl fun a hF=>q_x (v:=(iV (goLen p_s))) hF hS (ex_strLen Tryd.underlying9 rfl) rfl rfl fun a hF=>?_))
  obtain ⟨t_5,ht_5,hr⟩:=bindS hr
  refine q_call (vs:=[(iV (goLen p_s)),(iV 1),(iV 8)]) hF hS Tryd.func62 (by kernel_rfl) rfl rfl rfl (c_spec_l1In (goLen p_s) 1 8 t_5 ht_5 _ m hS.vis) ?_
  rintro a w _ rfl hF hS
  refine q_x (v:=(.bool t_5)) hF hS (ex_assign rfl) rfl rfl fun a hF=>q_end (n_sq (q_ret ?_))
  obtain rfl:=someI hr
  exact ret_of hF hS rfl (.tmp rfl .nil) rfl

theorem c_spec_sFind (p_s : List impl_Variable) (p_name : List UInt8) (r : Int) (hr : spec_sFind p_s p_name = some r) (w0 : World) (m : Mem) (hv : Vis m w0) (s1 : Sl) (h1 : Rd m s1 p_s) :
  Ret Tryd.prog 118 [s1.v,(strV p_name)] w0 (fun v _=>v = (iV r)):=by
 unfold spec_sFind at hr
 refine ret_start Tryd.func118 rfl 20 rfl rfl m hv fun a hF hS=>q_seq (q_region (q_x (v:=(iV 0)) hF hS (ex_assign rfl) rfl rfl fun a hF=>q_end (n_sq (q_seq (q_seq (q_region (q_x (v:=s1.v) hF hS (ex_move rfl) rfl rfl fun a hF=>q_x (v:=(iV (goLen p_s))) hF hS (ex_len Tryd.underlying39 rfl h1.len) rfl rfl fun a hF=>q_x (v:=(iV 0)) hF hS (ex_move rfl) rfl rfl fun a hF=>q_end (n_sq (q_block ?_)))))))))
 obtain ⟨o1,hl1,hr⟩:=bindS hr
 refine q_loop (fun (t_2 : Int) a w=>Fr a 20 [(1,(strV p_name)),(7,s1.v),(8,(iV (goLen p_s))),(9,(iV t_2))]∧St [] w0 w m []) (fun (o : (Unit) ⊕ (Int)) e a w=>o = .inl ()∧e = .exit 0∧Fr a 20 []∧St [] w0 w m []) hl1 ⟨hF.sub ⟨rfl,rfl,rfl,rfl,trivial⟩,hS⟩ ?_ ?_
 ·clear hF hS
  rintro t_2 a w st ⟨hF,hS⟩ hb1
  unfold spec_sFind_l1 at hb1
  refine q_seq (q_region (q_x (v:=(.bool (decide (t_2 < (goLen p_s))))) hF hS (ex_ibin rfl rfl rfl) rfl rfl fun a hF=>q_end (n_sq (q_seq ?_))))
  rcases bcase (decide (t_2 < (goLen p_s))) with hc2 | hc2
  ·have hb1:=cond_f hc2 hb1
   refine q_cond_f hF rfl hc2 (q_exit (x_sq ?_))
   obtain rfl:=someI hb1
   exact ⟨nofun,.inl ⟨rfl,rfl,hF.sub trivial,hS⟩⟩
  ·have hb1:=cond_t hc2 hb1
   refine q_cond_t hF rfl hc2 (q_skipc (n_sq (q_seq (q_block (q_seq (q_region (q_x (v:=(iV t_2)) hF hS (ex_move rfl) rfl rfl fun a hF=>?_)))))))
   obtain ⟨e_3,he_3,hb1⟩:=bindS hb1
   obtain ⟨vs4,at4,d4⟩:=h1.at he_3 2 rfl
   obtain rfl : vs4 = [(strV e_3.Name),(iV e_3.Levels)]:=d4
   refine q_x (v:=(elP s1 (t_2.toNat * 2))) hF hS (ex_indexAddr Tryd.underlying39 sz101 rfl rfl (h1.idx he_3)) rfl rfl fun a hF=>q_x (v:=(.agg #[(strV e_3.Name),(iV e_3.Levels)])) hF hS (ex_loadEA (us:=[(strV e_3.Name),(iV e_3.Levels)]) 0 Tryd.underlying101 rfl sz101 rfl ((at4).at) rfl rfl rfl) rfl rfl fun a hF=>q_alloc (cs:=[(strV ([] : List UInt8)),(iV 0)]) hF hS rfl rfl rfl fun a w b5 hF hS=>q_x (v:=(iV t_2)) hF hS (ex_assign rfl) rfl rfl fun a hF=>q_store (vs:=[(strV e_3.Name),(iV e_3.Levels)]) (cs':=[(strV e_3.Name),(iV e_3.Levels)]) 0 0 hF hS sz101 rfl rfl rfl rfl rfl rfl rfl rfl fun a w hF hS=>q_end (n_sq (q_seq (q_region (q_x (v:=(.pointer (some ⟨b5,0,none⟩))) hF hS (ex_fieldAddr Tryd.underlying101 rfl sz9 rfl rfl) rfl rfl fun a hF=>q_x (v:=(strV e_3.Name)) hF hS (ex_load1 0 0 Tryd.underlying9 rfl rfl rfl rfl) rfl rfl fun a hF=>q_x (v:=(strV p_name)) hF hS (ex_move rfl) rfl rfl fun a hF=>q_x (v:=(.bool (e_3.Name == p_name))) hF hS (ex_strEq rfl rfl) rfl rfl fun a hF=>q_end (n_sq ?_)))))
   rcases bcase (e_3.Name == p_name) with hc3 | hc3
   ·have hb1:=cond_f hc3 hb1
    refine q_cond_f hF rfl hc3 (q_skipc (n_ib (n_sq (q_region (q_x (v:=(iV (w64 (t_2 + 1)))) hF hS (ex_ibin rfl rfl rfl) rfl rfl fun a hF=>q_x (v:=(iV (w64 (t_2 + 1)))) hF hS (ex_move rfl) rfl rfl fun a hF=>q_end ?_)))))
    obtain rfl:=someI hb1
    exact ⟨rfl,hF.sub ⟨rfl,rfl,rfl,rfl,trivial⟩,hS.mask [false]⟩
   ·have hb1:=cond_t hc3 hb1
    refine q_cond_t hF rfl hc3 (q_seq (q_region (q_x (v:=(iV t_2)) hF hS (ex_move rfl) rfl rfl fun a hF=>q_x (v:=(iV t_2)) hF hS (ex_assign rfl) rfl rfl fun a hF=>q_end (n_sq (q_ret (r_ib (r_sq ?_)))))))
    obtain rfl:=someI hb1
    refine ⟨nofun,.inr fun ho=>?_⟩
    subst ho
    refine r_ib (r_sq ?_)
    obtain rfl:=someI hr
    exact ret_of hF hS rfl (.tmp rfl .nil) rfl
 ·rintro e a w ⟨rfl,rfl,hF,hS⟩
  refine x_ib (n_sq ?_)
  refine q_seq (q_region (q_x (v:=(iV (-1))) hF hS (ex_assign rfl) rfl rfl fun a hF=>q_end (n_sq (q_ret ?_))))
  obtain rfl:=someI hr
  exact ret_of hF hS rfl (.tmp rfl .nil) rfl

theorem c_spec_sGood (p_s : List impl_Variable) (r : Bool) (hr : spec_sGood p_s = some r) (w0 : World) (m : Mem) (hv : Vis m w0) (s1 : Sl) (h1 : Rd m s1 p_s) :
  Ret Tryd.prog 75 [s1.v] w0 (fun v _=>v = (.bool r)):=by
 unfold spec_sGood at hr
 refine ret_start Tryd.func75 rfl 36 rfl rfl m hv fun a hF hS=>q_seq (q_region (q_x (v:=(.bool false)) hF hS (ex_assign rfl) rfl rfl fun a hF=>q_end (n_sq (q_seq (q_seq (q_region (q_x (v:=s1.v) hF hS (ex_move rfl) rfl rfl fun a hF=>q_x (v:=(iV (goLen p_s))) hF hS (ex_len Tryd.underlying39 rfl h1.len) rfl rfl fun a hF=>?_)))))))
 obtain ⟨t_2,ht_2,hr⟩:=bindS hr
 refine q_call (vs:=[(iV (goLen p_s)),(iV 1),(iV 6)]) hF hS Tryd.func62 (by kernel_rfl) rfl rfl rfl (c_spec_l1In (goLen p_s) 1 6 t_2 ht_2 _ m hS.vis) ?_
 rintro a w _ rfl hF hS
 refine q_x (v:=(.bool (!t_2))) hF hS (ex_not rfl) rfl rfl fun a hF=>q_end (n_sq ?_)
 rcases bcase (!t_2) with hc1 | hc1
 ·have hr:=cond_f hc1 hr
  refine q_cond_f hF rfl hc1 (q_skipc (n_sq (q_seq (q_seq (q_region (q_x (v:=s1.v) hF hS (ex_move rfl) rfl rfl fun a hF=>q_x (v:=(iV (goLen p_s))) hF hS (ex_len Tryd.underlying39 rfl h1.len) rfl rfl fun a hF=>q_x (v:=(iV 0)) hF hS (ex_move rfl) rfl rfl fun a hF=>q_end (n_sq (q_block ?_))))))))
  obtain ⟨o2,hl2,hr⟩:=bindS hr
  refine q_loop (fun (t_3 : Int) a w=>Fr a 36 [(0,s1.v),(9,s1.v),(10,(iV (goLen p_s))),(11,(iV t_3))]∧St [] w0 w m []) (fun (o : (Unit) ⊕ (Bool)) e a w=>o = .inl ()∧e = .exit 0∧Fr a 36 []∧St [] w0 w m []) hl2 ⟨hF.sub ⟨rfl,rfl,rfl,rfl,trivial⟩,hS⟩ ?_ ?_
  ·clear hF hS
   rintro t_3 a w st ⟨hF,hS⟩ hb2
   unfold spec_sGood_l1 at hb2
   refine q_seq (q_region (q_x (v:=(.bool (decide (t_3 < (goLen p_s))))) hF hS (ex_ibin rfl rfl rfl) rfl rfl fun a hF=>q_end (n_sq (q_seq ?_))))
   rcases bcase (decide (t_3 < (goLen p_s))) with hc3 | hc3
   ·have hb2:=cond_f hc3 hb2
    refine q_cond_f hF rfl hc3 (q_exit (x_sq ?_))
    obtain rfl:=someI hb2
    exact ⟨nofun,.inl ⟨rfl,rfl,hF.sub trivial,hS⟩⟩
   ·have hb2:=cond_t hc3 hb2
    refine q_cond_t hF rfl hc3 (q_skipc (n_sq (q_seq (q_block (q_seq (q_region (q_x (v:=(iV t_3)) hF hS (ex_move rfl) rfl rfl fun a hF=>?_)))))))
    obtain ⟨e_4,he_4,hb2⟩:=bindS hb2
    obtain ⟨vs5,at5,d5⟩:=h1.at he_4 2 rfl
    obtain rfl : vs5 = [(strV e_4.Name),(iV e_4.Levels)]:=d5
    refine q_x (v:=(elP s1 (t_3.toNat * 2))) hF hS (ex_indexAddr Tryd.underlying39 sz101 rfl rfl (h1.idx he_4)) rfl rfl fun a hF=>q_x (v:=(.agg #[(strV e_4.Name),(iV e_4.Levels)])) hF hS (ex_loadEA (us:=[(strV e_4.Name),(iV e_4.Levels)]) 0 Tryd.underlying101 rfl sz101 rfl ((at5).at) rfl rfl rfl) rfl rfl fun a hF=>q_alloc (cs:=[(strV ([] : List UInt8)),(iV 0)]) hF hS rfl rfl rfl fun a w b6 hF hS=>q_x (v:=(iV t_3)) hF hS (ex_assign rfl) rfl rfl fun a hF=>q_store (vs:=[(strV e_4.Name),(iV e_4.Levels)]) (cs':=[(strV e_4.Name),(iV e_4.Levels)]) 0 0 hF hS sz101 rfl rfl rfl rfl rfl rfl rfl rfl fun a w hF hS=>q_end (n_sq (q_seq ?_))
    obtain ⟨t_12,hj4,hb2⟩:=bindS hb2
    refine q_join (fun a w=>Fr a 36 [(0,s1.v),(9,s1.v),(10,(iV (goLen p_s))),(11,(iV t_3)),(34,(.bool t_12))]∧St [] w0 w m []) ?_ ?_
    ·refine e_region ⟨[],[]⟩ mixed fun w' hw'=>?_
     have hS:=hS.below hw'
     refine e_p (v:=(.pointer (some ⟨b6,0,none⟩))) 0 hF rfl (ex_fieldAddr Tryd.underlying101 rfl sz9 rfl rfl) rfl rfl (by kernel_rfl) (by kernel_rfl) (by kernel_rfl) fun a hF=>e_x (v:=(strV e_4.Name)) 1 hF hS rfl (ex_load1 0 0 Tryd.underlying9 rfl rfl rfl rfl) rfl rfl (by kernel_rfl) (by kernel_rfl) (by kernel_rfl) (by kernel_rfl) fun a hF=>e_one 2 (by kernel_rfl) ?_
     obtain ⟨t_7,ht_7,hj4⟩:=bindS hj4
     refine e_call (vs:=[(strV e_4.Name)]) hF hS rfl Tryd.func117 (by kernel_rfl) rfl rfl rfl (c_spec_sName e_4.Name t_7 ht_7 _ m hS.vis) ?_
     rintro a w _ rfl hF hS
     refine e_p (v:=(.bool (!t_7))) 3 hF rfl (ex_not rfl) rfl rfl (by kernel_rfl) (by kernel_rfl) (by kernel_rfl) fun a hF=>e_p (v:=(.bool (!t_7))) 4 hF rfl (ex_move rfl) rfl rfl (by kernel_rfl) (by kernel_rfl) (by kernel_rfl) fun a hF=>?_
     rcases bcase (!t_7) with hc5 | hc5
     ·have hj4:=cond_f hc5 hj4
      refine e_pg (v:=(.pointer (some ⟨b6,1,none⟩))) 5 hF rfl (ex_fieldAddr Tryd.underlying101 rfl sz3 rfl rfl) (wanted_t hF rfl rfl rfl hc5) rfl (by kernel_rfl) (by kernel_rfl) (by kernel_rfl) fun a hF=>e_xg (v:=(iV e_4.Levels)) 6 hF hS rfl (ex_load1 0 0 Tryd.underlying3 rfl rfl rfl rfl) (wanted_t hF rfl rfl rfl hc5) rfl (by kernel_rfl) (by kernel_rfl) (by kernel_rfl) (by kernel_rfl) fun a hF=>e_one 7 (by kernel_rfl) ?_
      obtain ⟨t_8,ht_8,hj4⟩:=bindS hj4
      refine e_callg (vs:=[(iV e_4.Levels),(iV 2),(iV 8)]) hF hS rfl (wanted_t hF rfl rfl rfl hc5) Tryd.func62 (by kernel_rfl) rfl rfl rfl (c_spec_l1In e_4.Levels 2 8 t_8 ht_8 _ m hS.vis) ?_
      rintro a w _ rfl hF hS
      refine e_pg (v:=(.bool (!t_8))) 8 hF rfl (ex_not rfl) (wanted_t hF rfl rfl rfl hc5) rfl (by kernel_rfl) (by kernel_rfl) (by kernel_rfl) fun a hF=>e_p (v:=(.bool (!t_8))) 9 hF rfl (ex_pick_f rfl rfl hc5) rfl rfl (by kernel_rfl) (by kernel_rfl) (by kernel_rfl) fun a hF=>e_p (v:=(.bool (!t_8))) 10 hF rfl (ex_move rfl) rfl rfl (by kernel_rfl) (by kernel_rfl) (by kernel_rfl) fun a hF=>?_
      rcases bcase (!t_8) with hc6 | hc6
      ·have hj4:=cond_f hc6 hj4
       refine e_pg (v:=s1.v) 11 hF rfl (ex_move rfl) (wanted_t hF rfl rfl rfl hc6) rfl (by kernel_rfl) (by kernel_rfl) (by kernel_rfl) fun a hF=>e_pg (v:=(iV t_3)) 12 hF rfl (ex_move rfl) (wanted_t hF rfl rfl rfl hc6) rfl (by kernel_rfl) (by kernel_rfl) (by kernel_rfl) fun a hF=>?_
       obtain ⟨l_9,hl_9,hj4⟩:=bindS hj4
       have h10 : Rd m (subS s1 2 (0 : Int).toNat t_3.toNat s1.cap) l_9:=h1.sub' hl_9 2 rfl
       refine e_pg (v:=(subS s1 2 (0 : Int).toNat t_3.toNat s1.cap).v) 13 hF rfl (ex_slice Tryd.underlying39 sz101 rfl rfl rfl (.inl ⟨rfl,rfl⟩) (.inr ⟨_,rfl⟩) (h1.subok hl_9)) (wanted_t hF rfl rfl rfl hc6) rfl (by kernel_rfl) (by kernel_rfl) (by kernel_rfl) fun a hF=>e_pg (v:=(.pointer (some ⟨b6,0,none⟩))) 14 hF rfl (ex_fieldAddr Tryd.underlying101 rfl sz9 rfl rfl) (wanted_t hF rfl rfl rfl hc6) rfl (by kernel_rfl) (by kernel_rfl) (by kernel_rfl) fun a hF=>e_xg (v:=(strV e_4.Name)) 15 hF hS rfl (ex_load1 0 0 Tryd.underlying9 rfl rfl rfl rfl) (wanted_t hF rfl rfl rfl hc6) rfl (by kernel_rfl) (by kernel_rfl) (by kernel_rfl) (by kernel_rfl) fun a hF=>e_one 16 (by kernel_rfl) ?_
       obtain ⟨t_11,ht_11,hj4⟩:=bindS hj4
       refine e_callg (vs:=[(subS s1 2 (0 : Int).toNat t_3.toNat s1.cap).v,(strV e_4.Name)]) hF hS rfl (wanted_t hF rfl rfl rfl hc6) Tryd.func118 (by kernel_rfl) rfl rfl rfl (c_spec_sFind l_9 e_4.Name t_11 ht_11 _ m hS.vis (subS s1 2 (0 : Int).toNat t_3.toNat s1.cap) h10) ?_
       rintro a w _ rfl hF hS
       refine e_pg (v:=(.bool (decide (0 ≤ t_11)))) 17 hF rfl (ex_ibin rfl rfl rfl) (wanted_t hF rfl rfl rfl hc6) rfl (by kernel_rfl) (by kernel_rfl) (by kernel_rfl) fun a hF=>e_p (v:=(.bool (decide (0 ≤ t_11)))) 18 hF rfl (ex_pick_f rfl rfl hc6) rfl rfl (by kernel_rfl) (by kernel_rfl) (by kernel_rfl) fun a hF=>e_end (by kernel_rfl) (n_jn ?_) _
       obtain rfl:=someI hj4
       exact ⟨hF.sub ⟨rfl,rfl,rfl,rfl,rfl,trivial⟩,hS.mask [false]⟩
      ·have hj4:=cond_t hc6 hj4
       refine e_skipP 11 hF rfl (wanted_f hF rfl rfl rfl hc6 rfl) rfl (by kernel_rfl) (by kernel_rfl) (by kernel_rfl) fun a hF=>e_skipP 12 hF rfl (wanted_f hF rfl rfl rfl hc6 rfl) rfl (by kernel_rfl) (by kernel_rfl) (by kernel_rfl) fun a hF=>e_skipP 13 hF rfl (wanted_f hF rfl rfl rfl hc6 rfl) rfl (by kernel_rfl) (by kernel_rfl) (by kernel_rfl) fun a hF=>e_skipP 14 hF rfl (wanted_f hF rfl rfl rfl hc6 rfl) rfl (by kernel_rfl) (by kernel_rfl) (by kernel_rfl) fun a hF=>e_skipP 15 hF rfl (wanted_f hF rfl rfl rfl hc6 rfl) rfl (by kernel_rfl) (by kernel_rfl) (by kernel_rfl) fun a hF=>e_skipP 16 hF rfl (wanted_f hF rfl rfl rfl hc6 rfl) rfl (by kernel_rfl) (by kernel_rfl) (by kernel_rfl) fun a hF=>e_skipP 17 hF rfl (wanted_f hF rfl rfl rfl hc6 rfl) rfl (by kernel_rfl) (by kernel_rfl) (by kernel_rfl) fun a hF=>e_p (v:=(.bool true)) 18 hF rfl (ex_pick_t rfl rfl hc6) rfl rfl (by kernel_rfl) (by kernel_rfl) (by kernel_rfl) fun a hF=>e_end (by kernel_rfl) (n_jn ?_) _
       obtain rfl:=someI hj4
       exact ⟨hF.sub ⟨rfl,rfl,rfl,rfl,rfl,trivial⟩,hS.mask [false]⟩
     ·have hj4:=cond_t hc5 hj4
      refine e_skipP 5 hF rfl (wanted_f hF rfl rfl rfl hc5 rfl) rfl (by kernel_rfl) (by kernel_rfl) (by kernel_rfl) fun a hF=>e_skipP 6 hF rfl (wanted_f hF rfl rfl rfl hc5 rfl) rfl (by kernel_rfl) (by kernel_rfl) (by kernel_rfl) fun a hF=>e_skipP 7 hF rfl (wanted_f hF rfl rfl rfl hc5 rfl) rfl (by kernel_rfl) (by kernel_rfl) (by kernel_rfl) fun a hF=>e_skipP 8 hF rfl (wanted_f hF rfl rfl rfl hc5 rfl) rfl (by kernel_rfl) (by kernel_rfl) (by kernel_rfl) fun a hF=>e_p (v:=(.bool true)) 9 hF rfl (ex_pick_t rfl rfl hc5) rfl rfl (by kernel_rfl) (by kernel_rfl) (by kernel_rfl) fun a hF=>e_p (v:=(.bool true)) 10 hF rfl (ex_move rfl) rfl rfl (by kernel_rfl) (by kernel_rfl) (by kernel_rfl) fun a hF=>e_skipP 11 hF rfl (wanted_f hF rfl rfl rfl rfl rfl) rfl (by kernel_rfl) (by kernel_rfl) (by kernel_rfl) fun a hF=>e_skipP 12 hF rfl (wanted_f hF rfl rfl rfl rfl rfl) rfl (by kernel_rfl) (by kernel_rfl) (by kernel_rfl) fun a hF=>e_skipP 13 hF rfl (wanted_f hF rfl rfl rfl rfl rfl) rfl (by kernel_rfl) (by kernel_rfl) (by kernel_rfl) fun a hF=>e_skipP 14 hF rfl (wanted_f hF rfl rfl rfl rfl rfl) rfl (by kernel_rfl) (by kernel_rfl) (by kernel_rfl) fun a hF=>e_skipP 15 hF rfl (wanted_f hF rfl rfl rfl rfl rfl) rfl (by kernel_rfl) (by kernel_rfl) (by kernel_rfl) fun a hF=>e_skipP 16 hF rfl (wanted_f hF rfl rfl rfl rfl rfl) rfl (by kernel_rfl) (by kernel_rfl) (by kernel_rfl) fun a hF=>e_skipP 17 hF rfl (wanted_f hF rfl rfl rfl rfl rfl) rfl (by kernel_rfl) (by kernel_rfl) (by kernel_rfl) fun a hF=>e_p (v:=(.bool true)) 18 hF rfl (ex_pick_t rfl rfl rfl) rfl rfl (by kernel_rfl) (by kernel_rfl) (by kernel_rfl) fun a hF=>e_end (by kernel_rfl) (n_jn ?_) _
      obtain rfl:=someI hj4
      exact ⟨hF.sub ⟨rfl,rfl,rfl,rfl,rfl,trivial⟩,hS.mask [false]⟩
    ·rintro a w ⟨hF,hS⟩
     refine n_sq ?_
     rcases bcase (t_12) with hc7 | hc7
     ·have hb2:=cond_f hc7 hb2
      refine q_cond_f hF rfl hc7 (q_skipc (n_ib (n_sq (q_region (q_x (v:=(iV (w64 (t_3 + 1)))) hF hS (ex_ibin rfl rfl rfl) rfl rfl fun a hF=>q_x (v:=(iV (w64 (t_3 + 1)))) hF hS (ex_move rfl) rfl rfl fun a hF=>q_end ?_)))))
      obtain rfl:=someI hb2
      exact ⟨rfl,hF.sub ⟨rfl,rfl,rfl,rfl,trivial⟩,hS⟩
     ·have hb2:=cond_t hc7 hb2
      refine q_cond_t hF rfl hc7 (q_seq (q_region (q_x (v:=(.bool false)) hF hS (ex_assign rfl) rfl rfl fun a hF=>q_end (n_sq (q_ret (r_ib (r_sq ?_)))))))
      obtain rfl:=someI hb2
      refine ⟨nofun,.inr fun ho=>?_⟩
      subst ho
      refine r_ib (r_sq ?_)
      obtain rfl:=someI hr
      exact ret_of hF hS rfl (.tmp rfl .nil) rfl
  ·rintro e a w ⟨rfl,rfl,hF,hS⟩
   refine x_ib (n_sq ?_)
   refine q_seq (q_region (q_x (v:=(.bool true)) hF hS (ex_assign rfl) rfl rfl fun a hF=>q_end (n_sq (q_ret ?_))))
   obtain rfl:=someI hr
   exact ret_of hF hS rfl (.tmp rfl .nil) rfl
 ·have hr:=cond_t hc1 hr
  refine q_cond_t hF rfl hc1 (q_seq (q_region (q_x (v:=(.bool false)) hF hS (ex_assign rfl) rfl rfl fun a hF=>q_end (n_sq (q_ret (r_sq ?_))))))
  obtain rfl:=someI hr
  exact ret_of hF hS rfl (.tmp rfl .nil) rfl

theorem c_spec_sAt (p_s : List impl_Variable) (p_i : Int) (r : (List Int)) (hr : spec_sAt p_s p_i = some r) (w0 : World) (m : Mem) (hv : Vis m w0) (s1 : Sl) (h1 : Rd m s1 p_s) :
  Ret Tryd.prog 76 [s1.v,(iV p_i)] w0 (fun v w=>∃ (q0' : Piece) (s0' : Sl),v = s0'.v∧St [] w0 w m [q0']∧OwnL m 3 q0' s0' r):=by
 unfold spec_sAt at hr
 refine ret_start Tryd.func76 rfl 35 rfl rfl m hv fun a hF hS=>q_seq (q_region (q_x (v:=nilS.v) hF hS (ex_assign rfl) rfl rfl fun a hF=>q_end (n_sq (q_seq (q_region (q_x (v:=s1.v) hF hS (ex_move rfl) rfl rfl fun a hF=>q_x (v:=(iV (goLen p_s))) hF hS (ex_len Tryd.underlying39 rfl h1.len) rfl rfl fun a hF=>?_))))))
 obtain ⟨l_2,hl_2,hr⟩:=bindS hr
 refine q_do rfl fun _ hK=>wp_make (z:=(0 : Int)) hF hS Tryd.underlying42 inf3 rfl rfl rfl rfl rfl (by decide) hl_2 rfl fun a w q3 s3 hF hS h3 _=>hK _ _ (q_x (v:=s3.v) hF hS (ex_assign rfl) rfl rfl fun a hF=>q_end (n_sq (q_seq (q_seq (q_region (q_x (v:=s1.v) hF hS (ex_move rfl) rfl rfl fun a hF=>q_x (v:=(iV (goLen p_s))) hF hS (ex_len Tryd.underlying39 rfl h1.len) rfl rfl fun a hF=>q_x (v:=(iV (w64 ((goLen p_s) - 1)))) hF hS (ex_ibin rfl rfl rfl) rfl rfl fun a hF=>q_x (v:=(iV (w64 ((goLen p_s) - 1)))) hF hS (ex_assign rfl) rfl rfl fun a hF=>q_end (n_sq (q_block ?_))))))))
 obtain ⟨out_17,hl1,hr⟩:=bindS hr
 refine q_loop (fun (s : Int × (List Int) × Int) a w=>∃ (q6 : Piece),∃ i_4,∃ out_5,∃ k_7,s = (i_4,out_5,k_7)∧Fr a 35 [(0,s1.v),(1,(iV i_4)),(5,s3.v),(6,(iV k_7))]∧St [] w0 w m [q6]∧OwnL m 3 q6 s3 out_5) (fun (out_17 : (List Int)) e a w=>∃ (q18 : Piece),e = .exit 0∧Fr a 35 [(5,s3.v)]∧St [] w0 w m [q18]∧OwnL m 3 q18 s3 out_17) hl1 ⟨q3,_,_,_,rfl,hF.sub ⟨rfl,rfl,rfl,rfl,trivial⟩,hS,h3⟩ ?_ ?_
 ·clear hF hS
  rintro s a w st ⟨q6,i_4,out_5,k_7,rfl,hF,hS,h6⟩ hb1
  unfold spec_sAt_l1 at hb1
  refine q_seq (q_seq (q_region (q_x (v:=(iV k_7)) hF hS (ex_move rfl) rfl rfl fun a hF=>q_x (v:=(.bool (decide (0 ≤ k_7)))) hF hS (ex_ibin rfl rfl rfl) rfl rfl fun a hF=>q_end (n_sq ?_))))
  rcases bcase (decide (0 ≤ k_7)) with hc2 | hc2
  ·have hb1:=cond_f hc2 hb1
   refine q_cond_f hF rfl hc2 (q_exit (x_sq ?_))
   obtain rfl:=someI hb1
   exact ⟨nofun,.inl ⟨q6,rfl,hF.sub ⟨rfl,trivial⟩,hS,h6⟩⟩
  ·have hb1:=cond_t hc2 hb1
   refine q_cond_t hF rfl hc2 (q_skipc (n_sq (q_seq (q_block (q_seq (q_region (q_x (v:=s3.v) hF hS (ex_move rfl) rfl rfl fun a hF=>q_x (v:=(iV k_7)) hF hS (ex_move rfl) rfl rfl fun a hF=>q_x (v:=(iV i_4)) hF hS (ex_move rfl) rfl rfl fun a hF=>q_x (v:=s1.v) hF hS (ex_move rfl) rfl rfl fun a hF=>q_x (v:=(iV k_7)) hF hS (ex_move rfl) rfl rfl fun a hF=>?_)))))))
   obtain ⟨e_8,he_8,hb1⟩:=bindS hb1
   obtain ⟨vs9,at9,d9⟩:=h1.at he_8 2 rfl
   obtain rfl : vs9 = [(strV e_8.Name),(iV e_8.Levels)]:=d9
   refine q_x (v:=(elP s1 (k_7.toNat * 2))) hF hS (ex_indexAddr Tryd.underlying39 sz101 rfl rfl (h1.idx he_8)) rfl rfl fun a hF=>q_x (v:=(elP s1 (k_7.toNat * 2 + 1))) hF hS (ex_fieldAddrE Tryd.underlying101 rfl sz3 rfl (h1.idx he_8) rfl) rfl rfl fun a hF=>q_x (v:=(iV e_8.Levels)) hF hS (ex_loadE1 1 Tryd.underlying3 rfl rfl ((at9).at) rfl rfl) rfl rfl fun a hF=>?_
   obtain ⟨t_10,ht_10,hb1⟩:=bindS hb1
   refine q_x (v:=(iV t_10)) hF hS (ex_rem rfl rfl ht_10) rfl rfl fun a hF=>?_
   obtain ⟨e_11,he_11,hb1⟩:=bindS hb1
   obtain ⟨vs12,at12,d12⟩:=h6.at he_11 1 rfl
   obtain rfl : vs12 = [(iV e_11)]:=d12
   refine q_x (v:=(elP s3 (k_7.toNat * 1))) hF hS (ex_indexAddr Tryd.underlying42 sz3 rfl rfl (h6.idx he_11)) rfl rfl fun a hF=>q_do rfl fun _ hK=>wp_storeE (e':=t_10) (us:=[(iV t_10)]) (vs:=[(iV e_11)]) 0 hF hS h6 sz3 rfl rfl rfl rfl rfl rfl rfl he_11 at12 rfl rfl rfl fun w q13 hS h13=>hK _ _ (q_end (n_sq (q_region (q_x (v:=(iV i_4)) hF hS (ex_move rfl) rfl rfl fun a hF=>q_x (v:=s1.v) hF hS (ex_move rfl) rfl rfl fun a hF=>q_x (v:=(iV k_7)) hF hS (ex_move rfl) rfl rfl fun a hF=>?_))))
   obtain ⟨e_14,he_14,hb1⟩:=bindS hb1
   obtain ⟨vs15,at15,d15⟩:=h1.at he_14 2 rfl
   obtain rfl : vs15 = [(strV e_14.Name),(iV e_14.Levels)]:=d15
   refine q_x (v:=(elP s1 (k_7.toNat * 2))) hF hS (ex_indexAddr Tryd.underlying39 sz101 rfl rfl (h1.idx he_14)) rfl rfl fun a hF=>q_x (v:=(elP s1 (k_7.toNat * 2 + 1))) hF hS (ex_fieldAddrE Tryd.underlying101 rfl sz3 rfl (h1.idx he_14) rfl) rfl rfl fun a hF=>q_x (v:=(iV e_14.Levels)) hF hS (ex_loadE1 1 Tryd.underlying3 rfl rfl ((at15).at) rfl rfl) rfl rfl fun a hF=>?_
   obtain ⟨t_16,ht_16,hb1⟩:=bindS hb1
   refine q_x (v:=(iV t_16)) hF hS (ex_quo rfl rfl ht_16) rfl rfl fun a hF=>q_x (v:=(iV t_16)) hF hS (ex_assign rfl) rfl rfl fun a hF=>q_end (n_ib (n_sq (q_region (q_x (v:=(iV k_7)) hF hS (ex_move rfl) rfl rfl fun a hF=>q_x (v:=(iV (w64 (k_7 - 1)))) hF hS (ex_ibin rfl rfl rfl) rfl rfl fun a hF=>q_x (v:=(iV (w64 (k_7 - 1)))) hF hS (ex_assign rfl) rfl rfl fun a hF=>q_end ?_))))
   obtain rfl:=someI hb1
   exact ⟨rfl,q13,_,_,_,rfl,hF.sub ⟨rfl,rfl,rfl,rfl,trivial⟩,hS,h13⟩
 ·rintro e a w ⟨q18,rfl,hF,hS,h18⟩
  refine x_ib (n_sq ?_)
  refine q_seq (q_region (q_x (v:=s3.v) hF hS (ex_move rfl) rfl rfl fun a hF=>q_x (v:=s3.v) hF hS (ex_assign rfl) rfl rfl fun a hF=>q_end (n_sq (q_ret ?_))))
  obtain rfl:=someI hr
  exact ret_of hF hS rfl (.tmp rfl .nil) ⟨q18,s3,rfl,hS.sel [0] (by decide),h18⟩

theorem c_spec_CombinationAt (p_s : List impl_Variable) (p_i : Int) (r : (List Int) × Bool) (hr : spec_CombinationAt p_s p_i = some r) (w0 : World) (m : Mem) (hv : Vis m w0) (s1 : Sl) (h1 : Rd m s1 p_s) :
  Ret Tryd.prog 21 [s1.v,(iV p_i)] w0 (fun v w=>∃ (q0' : Piece) (s0' : Sl),v = (.tuple #[s0'.v,(.bool r.2)])∧St [] w0 w m [q0']∧OwnL m 3 q0' s0' r.1):=by
 unfold spec_CombinationAt at hr
 refine ret_start Tryd.func21 rfl 20 rfl rfl m hv fun a hF hS=>q_seq (q_region (q_x (v:=nilS.v) hF hS (ex_assign rfl) rfl rfl fun a hF=>q_x (v:=(.bool false)) hF hS (ex_assign rfl) rfl rfl fun a hF=>q_end (n_sq (q_seq (q_seq ?_)))))
 obtain ⟨t_5,hj1,hr⟩:=bindS hr
 refine q_join (fun a w=>Fr a 20 [(0,s1.v),(1,(iV p_i)),(16,(.bool t_5))]∧St [] w0 w m []) ?_ ?_
 ·refine q_region (q_x (v:=s1.v) hF hS (ex_move rfl) rfl rfl fun a hF=>?_)
  obtain ⟨t_2,ht_2,hj1⟩:=bindS hj1
  refine q_call (vs:=[s1.v]) hF hS Tryd.func75 (by kernel_rfl) rfl rfl rfl (c_spec_sGood p_s t_2 ht_2 _ m hS.vis s1 h1) ?_
  rintro a w _ rfl hF hS
  refine q_x (v:=(.bool (!t_2))) hF hS (ex_not rfl) rfl rfl fun a hF=>q_x (v:=(.bool (!t_2))) hF hS (ex_move rfl) rfl rfl fun a hF=>?_
  rcases bcase (!t_2) with hc2 | hc2
  ·have hj1:=cond_f hc2 hj1
   refine q_xg (v:=(iV p_i)) hF hS (ex_move rfl) (wanted_t hF rfl rfl rfl hc2) rfl fun a hF=>q_xg (v:=s1.v) hF hS (ex_move rfl) (wanted_t hF rfl rfl rfl hc2) rfl fun a hF=>?_
   obtain ⟨t_3,ht_3,hj1⟩:=bindS hj1
   refine q_callg (vs:=[s1.v]) hF hS (wanted_t hF rfl rfl rfl hc2) Tryd.func71 (by kernel_rfl) rfl rfl rfl (c_spec_sCount p_s t_3 ht_3 _ m hS.vis s1 h1) ?_
   rintro a w _ rfl hF hS
   refine q_xg (v:=(iV (w64 (t_3 - 1)))) hF hS (ex_ibin rfl rfl rfl) (wanted_t hF rfl rfl rfl hc2) rfl fun a hF=>?_
   obtain ⟨t_4,ht_4,hj1⟩:=bindS hj1
   refine q_callg (vs:=[(iV p_i),(iV 0),(iV (w64 (t_3 - 1)))]) hF hS (wanted_t hF rfl rfl rfl hc2) Tryd.func62 (by kernel_rfl) rfl rfl rfl (c_spec_l1In p_i 0 (w64 (t_3 - 1)) t_4 ht_4 _ m hS.vis) ?_
   rintro a w _ rfl hF hS
   refine q_xg (v:=(.bool (!t_4))) hF hS (ex_not rfl) (wanted_t hF rfl rfl rfl hc2) rfl fun a hF=>q_x (v:=(.bool (!t_4))) hF hS (ex_pick_f rfl rfl hc2) rfl rfl fun a hF=>q_end (n_jn ?_)
   obtain rfl:=someI hj1
   exact ⟨hF.sub ⟨rfl,rfl,rfl,trivial⟩,hS⟩
  ·have hj1:=cond_t hc2 hj1
   refine q_skip hF (wanted_f hF rfl rfl rfl hc2 rfl) rfl fun a hF=>q_skip hF (wanted_f hF rfl rfl rfl hc2 rfl) rfl fun a hF=>q_skip hF (wanted_f hF rfl rfl rfl hc2 rfl) rfl fun a hF=>q_skip hF (wanted_f hF rfl rfl rfl hc2 rfl) rfl fun a hF=>q_skip hF (wanted_f hF rfl rfl rfl hc2 rfl) rfl fun a hF=>q_skip hF (wanted_f hF rfl rfl rfl hc2 rfl) rfl fun a hF=>q_x (v:=(.bool true)) hF hS (ex_pick_t rfl rfl hc2) rfl rfl fun a hF=>q_end (n_jn ?_)
   obtain rfl:=someI hj1
   exact ⟨hF.sub ⟨rfl,rfl,rfl,trivial⟩,hS⟩
 ·rintro a w ⟨hF,hS⟩
  refine n_sq ?_
  rcases bcase (t_5) with hc3 | hc3
  ·have hr:=cond_f hc3 hr
   refine q_cond_f hF rfl hc3 (q_skipc (n_sq (q_seq (q_region (q_x (v:=s1.v) hF hS (ex_move rfl) rfl rfl fun a hF=>q_x (v:=(iV p_i)) hF hS (ex_move rfl) rfl rfl fun a hF=>?_)))))
   obtain ⟨t_6,ht_6,hr⟩:=bindS hr
   refine q_call (vs:=[s1.v,(iV p_i)]) hF hS Tryd.func76 (by kernel_rfl) rfl rfl rfl (c_spec_sAt p_s p_i t_6 ht_6 _ m hS.vis s1 h1) ?_
   rintro a w _ ⟨q8,s8,rfl,hR7,h8⟩ hF hS2
   have hS : St _ _ _ _ [q8]:=hS.joinF hR7
   refine q_x (v:=s8.v) hF hS (ex_assign rfl) rfl rfl fun a hF=>q_x (v:=(.bool true)) hF hS (ex_assign rfl) rfl rfl fun a hF=>q_end (n_sq (q_ret ?_))
   obtain rfl:=someI hr
   exact ret_of hF hS rfl (.tmp rfl (.tmp rfl .nil)) ⟨q8,s8,rfl,hS.sel [0] (by decide),h8⟩
  ·have hr:=cond_t hc3 hr
   refine q_cond_t hF rfl hc3 (q_seq (q_region (q_x (v:=nilS.v) hF hS (ex_assign rfl) rfl rfl fun a hF=>q_x (v:=(.bool false)) hF hS (ex_assign rfl) rfl rfl fun a hF=>q_end (n_sq (q_ret (r_sq ?_))))))
   obtain rfl:=someI hr
   exact ret_of hF hS rfl (.tmp rfl (.tmp rfl .nil)) ⟨[],nilS,rfl,hS.sel [0] (by decide),(OwnL.nil (α:=Int) m 3)⟩

theorem c_spec_l1Least (p_a : Int) (p_b : Int) (r : Int) (hr : spec_l1Least p_a p_b = some r) (w0 : World) (m : Mem) (hv : Vis m w0) :
  Ret Tryd.prog 119 [(iV p_a),(iV p_b)] w0 (fun v _=>v = (iV r)):=by
 unfold spec_l1Least at hr
 refine ret_start Tryd.func119 rfl 10 rfl rfl m hv fun a hF hS=>q_seq (q_region (q_x (v:=(iV 0)) hF hS (ex_assign rfl) rfl rfl fun a hF=>q_end (n_sq (q_seq (q_seq (q_region (q_x (v:=(iV p_a)) hF hS (ex_move rfl) rfl rfl fun a hF=>q_x (v:=(iV p_b)) hF hS (ex_move rfl) rfl rfl fun a hF=>q_x (v:=(.bool (decide (p_a < p_b)))) hF hS (ex_ibin rfl rfl rfl) rfl rfl fun a hF=>q_end (n_sq ?_))))))))
 rcases bcase (decide (p_a < p_b)) with hc1 | hc1
 ·have hr:=cond_f hc1 hr
  refine q_cond_f hF rfl hc1 (q_skipc (n_sq (q_seq (q_region (q_x (v:=(iV p_b)) hF hS (ex_move rfl) rfl rfl fun a hF=>q_x (v:=(iV p_b)) hF hS (ex_assign rfl) rfl rfl fun a hF=>q_end (n_sq (q_ret ?_)))))))
  obtain rfl:=someI hr
  exact ret_of hF hS rfl (.tmp rfl .nil) rfl
 ·have hr:=cond_t hc1 hr
  refine q_cond_t hF rfl hc1 (q_seq (q_region (q_x (v:=(iV p_a)) hF hS (ex_move rfl) rfl rfl fun a hF=>q_x (v:=(iV p_a)) hF hS (ex_assign rfl) rfl rfl fun a hF=>q_end (n_sq (q_ret (r_sq ?_))))))
  obtain rfl:=someI hr
  exact ret_of hF hS rfl (.tmp rfl .nil) rfl

theorem c_spec_l1Cur_grouping (p_c : spec_l1Cur) (p_s : List impl_Variable) (r : impl_Grouping × spec_l1Cur) (hr : spec_l1Cur_grouping p_c p_s = some r) (w0 : World) (m : Mem) (b_p_c : Nat) (s1 : Sl) (h1 : Rd m s1 p_c.code) (s2 : Sl) (h2 : Rd m s2 p_s) (X : List Nat) (hS : St X w0 w0 m [[⟨b_p_c,[s1.v,(iV p_c.at_),(.int .u64 p_c.seed.v)],76⟩]]) :
  RetX Tryd.prog 77 [(.pointer (some ⟨b_p_c,0,none⟩)),s2.v] w0 (fun v w=>∃ (q0' : Piece) (s0' : Sl),v = (.agg #[(iV r.1.Var),s0'.v])∧St X w0 w m [[⟨b_p_c,[s1.v,(iV r.2.at_),(.int .u64 r.2.seed.v)],76⟩],q0']∧OwnL m 3 q0' s0' r.1.Groups∧r.2.code = p_c.code):=by
 unfold spec_l1Cur_grouping at hr
 refine ret_startX Tryd.func77 rfl 95 rfl rfl fun a hF=>q_seq (q_region (q_alloc (cs:=[(iV 0),nilS.v]) hF hS rfl rfl rfl fun a w b3 hF hS=>q_end (n_sq (q_seq (q_region (q_x (v:=(.agg #[(iV 0),nilS.v])) hF hS (ex_build (cells:=[(iV 0),nilS.v]) rfl (by kernel_rfl)) rfl rfl fun a hF=>q_alloc (cs:=[(iV 0),nilS.v]) hF hS rfl rfl rfl fun a w b4 hF hS=>q_store (vs:=[(iV 0),nilS.v]) (cs':=[(iV 0),nilS.v]) 0 0 hF hS sz46 rfl rfl rfl rfl rfl rfl rfl rfl fun a w hF hS=>q_end (n_sq (q_seq (q_seq (q_region (q_x (v:=s2.v) hF hS (ex_move rfl) rfl rfl fun a hF=>q_x (v:=(iV (goLen p_s))) hF hS (ex_len Tryd.underlying39 rfl h2.len) rfl rfl fun a hF=>q_x (v:=(.bool (decide (0 < (goLen p_s))))) hF hS (ex_ibin rfl rfl rfl) rfl rfl fun a hF=>q_end (n_sq ?_))))))))))))
 obtain ⟨j1,hj1,hr⟩:=bindS hr
 refine q_join (fun a w=>∃ (q49 : Piece),∃ (s49 : Sl),∃ g_48,∃ p_c_50,j1 = (g_48,p_c_50)∧Fr a 95 [(0,(.pointer (some ⟨b_p_c,0,none⟩))),(4,(.pointer (some ⟨b3,0,none⟩))),(5,(.pointer (some ⟨b4,0,none⟩)))]∧St X w0 w m [q49,[⟨b4,[(iV g_48.Var),s49.v],46⟩],[⟨b3,[(iV 0),nilS.v],46⟩],[⟨b_p_c,[s1.v,(iV p_c_50.at_),(.int .u64 p_c_50.seed.v)],76⟩]]∧OwnL m 3 q49 s49 g_48.Groups∧Rd m s1 p_c_50.code∧p_c_50.code = p_c.code) ?_ ?_
 ·rcases bcase (decide (0 < (goLen p_s))) with hc2 | hc2
  ·have hj1:=cond_f hc2 hj1
   refine q_cond_f hF rfl hc2 (q_skipc (n_jn ?_))
   obtain rfl:=someI hj1
   exact ⟨[],nilS,_,_,rfl,hF.sub ⟨rfl,rfl,rfl,trivial⟩,hS.sel [3,0,1,2] (by decide),(OwnL.nil (α:=Int) m 3),h1,rfl⟩
  ·have hj1:=cond_t hc2 hj1
   refine q_cond_t hF rfl hc2 (q_seq (q_region (q_x (v:=(.pointer (some ⟨b_p_c,0,none⟩))) hF hS (ex_move rfl) rfl rfl fun a hF=>q_x (v:=s2.v) hF hS (ex_move rfl) rfl rfl fun a hF=>q_x (v:=(iV (goLen p_s))) hF hS (ex_len Tryd.underlying39 rfl h2.len) rfl rfl fun a hF=>?_)))
   have hS : St _ _ _ _ [[⟨b_p_c,[s1.v,(iV p_c.at_),(.int .u64 p_c.seed.v)],76⟩],[⟨b4,[(iV 0),nilS.v],46⟩],[⟨b3,[(iV 0),nilS.v],46⟩]]:=hS.sel [2,0,1] (by decide)
   have hS5 : St _ _ _ _ ([[⟨b_p_c,[s1.v,(iV p_c.at_),(.int .u64 p_c.seed.v)],76⟩]]++[[⟨b4,[(iV 0),nilS.v],46⟩],[⟨b3,[(iV 0),nilS.v],46⟩]]):=hS
   have hE5:=hS5.enter
   obtain ⟨t_6,ht_6,hj1⟩:=bindS hj1
   refine q_do rfl fun _ hK=>wp_callX (vs:=[(.pointer (some ⟨b_p_c,0,none⟩)),(iV (goLen p_s))]) hF Tryd.func52 (by kernel_rfl) rfl rfl rfl (c_spec_l1Cur_pick p_c (goLen p_s) t_6 ht_6 _ m b_p_c s1 h1 _ hE5) fun a w _ hR hF=>hK _ _ ?_
   obtain ⟨rfl,hR5,hk7⟩:=hR
   have hS : St _ _ _ _ [[⟨b_p_c,[s1.v,(iV t_6.2.at_),(.int .u64 t_6.2.seed.v)],76⟩],[⟨b4,[(iV 0),nilS.v],46⟩],[⟨b3,[(iV 0),nilS.v],46⟩]]:=hS5.leaveF hR5
   have h7 : Rd m s1 t_6.2.code:=by rw [hk7]; exact h1
   refine q_x (v:=(.pointer (some ⟨b4,0,none⟩))) hF hS (ex_fieldAddr Tryd.underlying46 rfl sz3 rfl rfl) rfl rfl fun a hF=>q_store (vs:=[(iV t_6.1)]) (cs':=[(iV t_6.1),nilS.v]) 1 0 hF hS sz3 rfl rfl rfl rfl rfl rfl rfl rfl fun a w hF hS=>q_end (n_sq (q_seq (q_region (q_x (v:=(iV 1)) hF hS (ex_assign rfl) rfl rfl fun a hF=>q_end (n_sq (q_seq (q_seq (q_region (q_x (v:=s2.v) hF hS (ex_move rfl) rfl rfl fun a hF=>q_x (v:=(.pointer (some ⟨b4,0,none⟩))) hF hS (ex_fieldAddr Tryd.underlying46 rfl sz3 rfl rfl) rfl rfl fun a hF=>q_x (v:=(iV t_6.1)) hF hS (ex_load1 1 0 Tryd.underlying3 rfl rfl rfl rfl) rfl rfl fun a hF=>?_)))))))))
   obtain ⟨e_8,he_8,hj1⟩:=bindS hj1
   obtain ⟨vs9,at9,d9⟩:=h2.at he_8 2 rfl
   obtain rfl : vs9 = [(strV e_8.Name),(iV e_8.Levels)]:=d9
   refine q_x (v:=(elP s2 (t_6.1.toNat * 2))) hF hS (ex_indexAddr Tryd.underlying39 sz101 rfl rfl (h2.idx he_8)) rfl rfl fun a hF=>q_x (v:=(elP s2 (t_6.1.toNat * 2 + 1))) hF hS (ex_fieldAddrE Tryd.underlying101 rfl sz3 rfl (h2.idx he_8) rfl) rfl rfl fun a hF=>q_x (v:=(iV e_8.Levels)) hF hS (ex_loadE1 1 Tryd.underlying3 rfl rfl ((at9).at) rfl rfl) rfl rfl fun a hF=>q_x (v:=(iV e_8.Levels)) hF hS (ex_assign rfl) rfl rfl fun a hF=>q_end (n_sq (q_seq (q_region (q_x (v:=(iV e_8.Levels)) hF hS (ex_move rfl) rfl rfl fun a hF=>q_x (v:=(.bool (decide (0 < e_8.Levels)))) hF hS (ex_ibin rfl rfl rfl) rfl rfl fun a hF=>q_end (n_sq ?_)))))
   obtain ⟨j3,hj3,hj1⟩:=bindS hj1
   refine q_join (fun a w=>∃ k_14,∃ p_c_15,j3 = (k_14,p_c_15)∧Fr a 95 [(0,(.pointer (some ⟨b_p_c,0,none⟩))),(1,s2.v),(4,(.pointer (some ⟨b3,0,none⟩))),(5,(.pointer (some ⟨b4,0,none⟩))),(6,(iV k_14))]∧St X w0 w m [[⟨b_p_c,[s1.v,(iV p_c_15.at_),(.int .u64 p_c_15.seed.v)],76⟩],[⟨b4,[(iV t_6.1),nilS.v],46⟩],[⟨b3,[(iV 0),nilS.v],46⟩]]∧Rd m s1 p_c_15.code∧p_c_15.code = p_c.code) ?_ ?_
   ·rcases bcase (decide (0 < e_8.Levels)) with hc4 | hc4
    ·have hj3:=cond_f hc4 hj3
     refine q_cond_f hF rfl hc4 (q_skipc (n_jn ?_))
     obtain rfl:=someI hj3
     exact ⟨_,_,rfl,hF.sub ⟨rfl,rfl,rfl,rfl,rfl,trivial⟩,hS,h7,hk7⟩
    ·have hj3:=cond_t hc4 hj3
     refine q_cond_t hF rfl hc4 (q_region (q_x (v:=(.pointer (some ⟨b_p_c,0,none⟩))) hF hS (ex_move rfl) rfl rfl fun a hF=>?_))
     have hS10 : St _ _ _ _ ([[⟨b_p_c,[s1.v,(iV t_6.2.at_),(.int .u64 t_6.2.seed.v)],76⟩]]++[[⟨b4,[(iV t_6.1),nilS.v],46⟩],[⟨b3,[(iV 0),nilS.v],46⟩]]):=hS
     have hE10:=hS10.enter
     obtain ⟨t_11,ht_11,hj3⟩:=bindS hj3
     refine q_do rfl fun _ hK=>wp_callX (vs:=[(.pointer (some ⟨b_p_c,0,none⟩)),(iV 3)]) hF Tryd.func52 (by kernel_rfl) rfl rfl rfl (c_spec_l1Cur_pick t_6.2 3 t_11 ht_11 _ m b_p_c s1 h7 _ hE10) fun a w _ hR hF=>hK _ _ ?_
     obtain ⟨rfl,hR10,hk12⟩:=hR
     have hS : St _ _ _ _ [[⟨b_p_c,[s1.v,(iV t_11.2.at_),(.int .u64 t_11.2.seed.v)],76⟩],[⟨b4,[(iV t_6.1),nilS.v],46⟩],[⟨b3,[(iV 0),nilS.v],46⟩]]:=hS10.leaveF hR10
     have h12 : Rd m s1 t_11.2.code:=by rw [hk12]; exact h7
     refine q_x (v:=(iV (w64 (2 + t_11.1)))) hF hS (ex_ibin rfl rfl rfl) rfl rfl fun a hF=>q_x (v:=(iV e_8.Levels)) hF hS (ex_move rfl) rfl rfl fun a hF=>?_
     obtain ⟨t_13,ht_13,hj3⟩:=bindS hj3
     refine q_call (vs:=[(iV (w64 (2 + t_11.1))),(iV e_8.Levels)]) hF hS Tryd.func119 (by kernel_rfl) rfl rfl rfl (c_spec_l1Least (w64 (2 + t_11.1)) e_8.Levels t_13 ht_13 _ m hS.vis) ?_
     rintro a w _ rfl hF hS
     refine q_x (v:=(iV t_13)) hF hS (ex_assign rfl) rfl rfl fun a hF=>q_end (n_jn ?_)
     obtain rfl:=someI hj3
     exact ⟨_,_,rfl,hF.sub ⟨rfl,rfl,rfl,rfl,rfl,trivial⟩,hS,h12,(hk12.trans hk7)⟩
   ·rintro a w ⟨k_14,p_c_15,rfl,hF,hS,h16,h16k⟩
    refine n_sq ?_
    refine q_seq (q_region (q_x (v:=(iV 0)) hF hS (ex_assign rfl) rfl rfl fun a hF=>q_end (n_sq (q_block ?_))))
    obtain ⟨o5,hl5,hj1⟩:=bindS hj1
    refine q_loop (fun (s : Int × spec_l1Cur × impl_Grouping) a w=>∃ (q21 : Piece),∃ (s21 : Sl),∃ i_17,∃ p_c_18,∃ g_20,s = (i_17,p_c_18,g_20)∧Fr a 95 [(0,(.pointer (some ⟨b_p_c,0,none⟩))),(1,s2.v),(4,(.pointer (some ⟨b3,0,none⟩))),(5,(.pointer (some ⟨b4,0,none⟩))),(6,(iV k_14)),(8,(iV i_17))]∧St X w0 w m [q21,[⟨b_p_c,[s1.v,(iV p_c_18.at_),(.int .u64 p_c_18.seed.v)],76⟩],[⟨b4,[(iV g_20.Var),s21.v],46⟩],[⟨b3,[(iV 0),nilS.v],46⟩]]∧Rd m s1 p_c_18.code∧p_c_18.code = p_c.code∧OwnL m 3 q21 s21 g_20.Groups) (fun (o : spec_l1Cur × impl_Grouping) e a w=>∃ (q47 : Piece),∃ (s47 : Sl),∃ p_c_44,∃ g_46,o = (p_c_44,g_46)∧e = .exit 0∧Fr a 95 [(0,(.pointer (some ⟨b_p_c,0,none⟩))),(4,(.pointer (some ⟨b3,0,none⟩))),(5,(.pointer (some ⟨b4,0,none⟩)))]∧St X w0 w m [q47,[⟨b_p_c,[s1.v,(iV p_c_44.at_),(.int .u64 p_c_44.seed.v)],76⟩],[⟨b4,[(iV g_46.Var),s47.v],46⟩],[⟨b3,[(iV 0),nilS.v],46⟩]]∧Rd m s1 p_c_44.code∧p_c_44.code = p_c.code∧OwnL m 3 q47 s47 g_46.Groups) hl5 ⟨[],nilS,_,_,_,rfl,hF.sub ⟨rfl,rfl,rfl,rfl,rfl,rfl,trivial⟩,hS.sel [3,0,1,2] (by decide),h16,h16k,(OwnL.nil (α:=Int) m 3)⟩ ?_ ?_
    ·clear hF hS
     rintro s a w st ⟨q21,s21,i_17,p_c_18,g_20,rfl,hF,hS,h19,h19k,h21⟩ hb5
     unfold spec_l1Cur_grouping_l1 at hb5
     refine q_seq (q_seq (q_region (q_x (v:=(iV i_17)) hF hS (ex_move rfl) rfl rfl fun a hF=>q_x (v:=s2.v) hF hS (ex_move rfl) rfl rfl fun a hF=>q_x (v:=(.pointer (some ⟨b4,0,none⟩))) hF hS (ex_fieldAddr Tryd.underlying46 rfl sz3 rfl rfl) rfl rfl fun a hF=>q_x (v:=(iV g_20.Var)) hF hS (ex_load1 2 0 Tryd.underlying3 rfl rfl rfl rfl) rfl rfl fun a hF=>?_)))
     obtain ⟨e_22,he_22,hb5⟩:=bindS hb5
     obtain ⟨vs23,at23,d23⟩:=h2.at he_22 2 rfl
     obtain rfl : vs23 = [(strV e_22.Name),(iV e_22.Levels)]:=d23
     refine q_x (v:=(elP s2 (g_20.Var.toNat * 2))) hF hS (ex_indexAddr Tryd.underlying39 sz101 rfl rfl (h2.idx he_22)) rfl rfl fun a hF=>q_x (v:=(elP s2 (g_20.Var.toNat * 2 + 1))) hF hS (ex_fieldAddrE Tryd.underlying101 rfl sz3 rfl (h2.idx he_22) rfl) rfl rfl fun a hF=>q_x (v:=(iV e_22.Levels)) hF hS (ex_loadE1 1 Tryd.underlying3 rfl rfl ((at23).at) rfl rfl) rfl rfl fun a hF=>q_x (v:=(.bool (decide (i_17 < e_22.Levels)))) hF hS (ex_ibin rfl rfl rfl) rfl rfl fun a hF=>q_end (n_sq ?_)
     rcases bcase (decide (i_17 < e_22.Levels)) with hc6 | hc6
     ·have hb5:=cond_f hc6 hb5
      refine q_cond_f hF rfl hc6 (q_exit (x_sq ?_))
      obtain rfl:=someI hb5
      exact ⟨nofun,.inl ⟨q21,s21,_,_,rfl,rfl,hF.sub ⟨rfl,rfl,rfl,trivial⟩,hS,h19,h19k,h21⟩⟩
     ·have hb5:=cond_t hc6 hb5
      refine q_cond_t hF rfl hc6 (q_skipc (n_sq (q_seq (q_block (q_seq (q_region (q_x (v:=(iV i_17)) hF hS (ex_move rfl) rfl rfl fun a hF=>q_x (v:=(iV k_14)) hF hS (ex_move rfl) rfl rfl fun a hF=>q_x (v:=(.bool (decide (i_17 < k_14)))) hF hS (ex_ibin rfl rfl rfl) rfl rfl fun a hF=>q_end (n_sq ?_))))))))
      obtain ⟨j7,hj7,hb5⟩:=bindS hb5
      refine q_join (fun a w=>∃ (q43 : Piece),∃ (s43 : Sl),∃ p_c_40,∃ g_42,j7 = (p_c_40,g_42)∧Fr a 95 [(0,(.pointer (some ⟨b_p_c,0,none⟩))),(1,s2.v),(4,(.pointer (some ⟨b3,0,none⟩))),(5,(.pointer (some ⟨b4,0,none⟩))),(6,(iV k_14)),(8,(iV i_17))]∧St X w0 w m [q43,[⟨b_p_c,[s1.v,(iV p_c_40.at_),(.int .u64 p_c_40.seed.v)],76⟩],[⟨b4,[(iV g_42.Var),s43.v],46⟩],[⟨b3,[(iV 0),nilS.v],46⟩]]∧Rd m s1 p_c_40.code∧p_c_40.code = p_c.code∧OwnL m 3 q43 s43 g_42.Groups) ?_ ?_
      ·rcases bcase (decide (i_17 < k_14)) with hc8 | hc8
       ·have hj7:=cond_f hc8 hj7
        refine q_cond_f hF rfl hc8 ?_
        obtain ⟨j9,hj9,hj7⟩:=bindS hj7
        refine q_join (fun a w=>∃ (q36 : Piece),∃ (s36 : Sl),∃ p_c_33,∃ g_35,j9 = (p_c_33,g_35)∧Fr a 95 [(0,(.pointer (some ⟨b_p_c,0,none⟩))),(1,s2.v),(4,(.pointer (some ⟨b3,0,none⟩))),(5,(.pointer (some ⟨b4,0,none⟩))),(6,(iV k_14)),(8,(iV i_17))]∧St X w0 w m [q36,[⟨b_p_c,[s1.v,(iV p_c_33.at_),(.int .u64 p_c_33.seed.v)],76⟩],[⟨b4,[(iV g_35.Var),s36.v],46⟩],[⟨b3,[(iV 0),nilS.v],46⟩]]∧Rd m s1 p_c_33.code∧p_c_33.code = p_c.code∧OwnL m 3 q36 s36 g_35.Groups) ?_ ?_
        ·refine e_region ⟨[4,6,8],[]⟩ mixed fun w' hw'=>?_
         have hS:=hS.below hw'
         refine e_p (v:=(.pointer (some ⟨b4,1,none⟩))) 0 hF rfl (ex_fieldAddr Tryd.underlying46 rfl sz42 rfl rfl) rfl rfl (by kernel_rfl) (by kernel_rfl) (by kernel_rfl) fun a hF=>e_p (v:=(.pointer (some ⟨b_p_c,0,none⟩))) 2 hF rfl (ex_move rfl) rfl rfl (by kernel_rfl) (by kernel_rfl) (by kernel_rfl) fun a hF=>e_p (v:=(iV k_14)) 3 hF rfl (ex_move rfl) rfl rfl (by kernel_rfl) (by kernel_rfl) (by kernel_rfl) fun a hF=>?_
         obtain ⟨t_28,ht_28,hj9⟩:=bindS hj9
         obtain ⟨l_31,hl_31,hj9⟩:=bindS hj9
         refine e_all [1,4] (by kernel_rfl) rfl ⟨?_,?_,trivial⟩
         ·refine e_lx (v:=s21.v) hF hS rfl (ex_load1 2 0 Tryd.underlying42 rfl rfl rfl rfl) rfl rfl fun a hF=>e_one 4 (by kernel_rfl) ?_
          have hS : St _ _ _ _ [[⟨b_p_c,[s1.v,(iV p_c_18.at_),(.int .u64 p_c_18.seed.v)],76⟩],q21,[⟨b4,[(iV g_20.Var),s21.v],46⟩],[⟨b3,[(iV 0),nilS.v],46⟩]]:=hS.sel [1,0,2,3] (by decide)
          have hS27 : St _ _ _ _ ([[⟨b_p_c,[s1.v,(iV p_c_18.at_),(.int .u64 p_c_18.seed.v)],76⟩]]++[q21,[⟨b4,[(iV g_20.Var),s21.v],46⟩],[⟨b3,[(iV 0),nilS.v],46⟩]]):=hS
          have hE27:=hS27.enter
          refine e_opl rfl rfl rfl fun _ hK=>wp_callX (vs:=[(.pointer (some ⟨b_p_c,0,none⟩)),(iV k_14)]) hF Tryd.func52 (by kernel_rfl) rfl rfl rfl (c_spec_l1Cur_pick p_c_18 k_14 t_28 ht_28 _ m b_p_c s1 h19 _ hE27) fun a w _ hR hF=>hK _ _ ?_
          obtain ⟨rfl,hR27,hk29⟩:=hR
          have hS : St _ _ _ _ [[⟨b_p_c,[s1.v,(iV t_28.2.at_),(.int .u64 t_28.2.seed.v)],76⟩],q21,[⟨b4,[(iV g_20.Var),s21.v],46⟩],[⟨b3,[(iV 0),nilS.v],46⟩]]:=hS27.leaveF hR27
          have h29 : Rd m s1 t_28.2.code:=by rw [hk29]; exact h19
          refine ⟨kpN,?_⟩
          refine e_one 5 (by kernel_rfl) (e_op rfl rfl fun _ hK=>wp_buildSlice' (l:=([t_28.1] : List Int)) (cells:=[(iV t_28.1)]) hF hS Tryd.underlying42 inf3 rfl rfl (by kernel_rfl) rfl rfl rfl ⟨rfl,rfl⟩ rfl rfl fun a w q30 s30 hF hS h30 hb=>hK _ _ hb (e_one 6 (by kernel_rfl) ?_))
          have hS : St _ _ _ _ [q21,q30,[⟨b_p_c,[s1.v,(iV t_28.2.at_),(.int .u64 t_28.2.seed.v)],76⟩],[⟨b4,[(iV g_20.Var),s21.v],46⟩],[⟨b3,[(iV 0),nilS.v],46⟩]]:=hS.sel [2,0,1,3,4] (by decide)
          refine e_opl rfl rfl rfl fun _ hK=>wp_append hF hS h21 Tryd.underlying42 inf3 rfl rfl rfl rfl (h30.vw hS (j:=1) rfl) rfl (by decide) hl_31 rfl fun a w q32 s32 hF hS h32=>hK _ _ (⟨kpN,?_⟩)
          refine e_p (v:=(.pointer (some ⟨b4,1,none⟩))) 7 hF rfl (ex_fieldAddr Tryd.underlying46 rfl sz42 rfl rfl) rfl rfl (by kernel_rfl) (by kernel_rfl) (by kernel_rfl) fun a hF=>e_one 8 (by kernel_rfl) (e_store (vs:=[s32.v]) (cs':=[(iV g_20.Var),s32.v]) 3 0 hF hS rfl rfl sz42 rfl rfl rfl rfl rfl rfl rfl rfl fun a w hF hS=>⟨kpN,?_⟩)
          refine e_end (by kernel_rfl) (n_jn ?_) _
          obtain rfl:=someI hj9
          exact ⟨q32,s32,_,_,rfl,hF.sub ⟨rfl,rfl,rfl,rfl,rfl,rfl,trivial⟩,hS.mask [true,false,true,true,true],h29,(hk29.trans h19k),h32⟩
         ·have hS : St _ _ _ _ [[⟨b_p_c,[s1.v,(iV p_c_18.at_),(.int .u64 p_c_18.seed.v)],76⟩],q21,[⟨b4,[(iV g_20.Var),s21.v],46⟩],[⟨b3,[(iV 0),nilS.v],46⟩]]:=hS.sel [1,0,2,3] (by decide)
          have hS27 : St _ _ _ _ ([[⟨b_p_c,[s1.v,(iV p_c_18.at_),(.int .u64 p_c_18.seed.v)],76⟩]]++[q21,[⟨b4,[(iV g_20.Var),s21.v],46⟩],[⟨b3,[(iV 0),nilS.v],46⟩]]):=hS
          have hE27:=hS27.enter
          refine e_opl rfl rfl rfl fun _ hK=>wp_callX (vs:=[(.pointer (some ⟨b_p_c,0,none⟩)),(iV k_14)]) hF Tryd.func52 (by kernel_rfl) rfl rfl rfl (c_spec_l1Cur_pick p_c_18 k_14 t_28 ht_28 _ m b_p_c s1 h19 _ hE27) fun a w _ hR hF=>hK _ _ ?_
          obtain ⟨rfl,hR27,hk29⟩:=hR
          have hS : St _ _ _ _ [[⟨b_p_c,[s1.v,(iV t_28.2.at_),(.int .u64 t_28.2.seed.v)],76⟩],q21,[⟨b4,[(iV g_20.Var),s21.v],46⟩],[⟨b3,[(iV 0),nilS.v],46⟩]]:=hS27.leaveF hR27
          have h29 : Rd m s1 t_28.2.code:=by rw [hk29]; exact h19
          refine ⟨kpN,?_⟩
          refine e_x (v:=s21.v) 1 hF hS rfl (ex_load1 2 0 Tryd.underlying42 rfl rfl rfl rfl) rfl rfl (by kernel_rfl) (by kernel_rfl) (by kernel_rfl) (by kernel_rfl) fun a hF=>e_one 5 (by kernel_rfl) (e_op rfl rfl fun _ hK=>wp_buildSlice' (l:=([t_28.1] : List Int)) (cells:=[(iV t_28.1)]) hF hS Tryd.underlying42 inf3 rfl rfl (by kernel_rfl) rfl rfl rfl ⟨rfl,rfl⟩ rfl rfl fun a w q30 s30 hF hS h30 hb=>hK _ _ hb (e_one 6 (by kernel_rfl) ?_))
          have hS : St _ _ _ _ [q21,q30,[⟨b_p_c,[s1.v,(iV t_28.2.at_),(.int .u64 t_28.2.seed.v)],76⟩],[⟨b4,[(iV g_20.Var),s21.v],46⟩],[⟨b3,[(iV 0),nilS.v],46⟩]]:=hS.sel [2,0,1,3,4] (by decide)
          refine e_opl rfl rfl rfl fun _ hK=>wp_append hF hS h21 Tryd.underlying42 inf3 rfl rfl rfl rfl (h30.vw hS (j:=1) rfl) rfl (by decide) hl_31 rfl fun a w q32 s32 hF hS h32=>hK _ _ (⟨kpN,?_⟩)
          refine e_p (v:=(.pointer (some ⟨b4,1,none⟩))) 7 hF rfl (ex_fieldAddr Tryd.underlying46 rfl sz42 rfl rfl) rfl rfl (by kernel_rfl) (by kernel_rfl) (by kernel_rfl) fun a hF=>e_one 8 (by kernel_rfl) (e_store (vs:=[s32.v]) (cs':=[(iV g_20.Var),s32.v]) 3 0 hF hS rfl rfl sz42 rfl rfl rfl rfl rfl rfl rfl rfl fun a w hF hS=>⟨kpN,?_⟩)
          refine e_end (by kernel_rfl) (n_jn ?_) _
          obtain rfl:=someI hj9
          exact ⟨q32,s32,_,_,rfl,hF.sub ⟨rfl,rfl,rfl,rfl,rfl,rfl,trivial⟩,hS.mask [true,false,true,true,true],h29,(hk29.trans h19k),h32⟩
        ·rintro a w ⟨q36,s36,p_c_33,g_35,rfl,hF,hS,h34,h34k,h36⟩
         refine n_jn ?_
         obtain rfl:=someI hj7
         exact ⟨q36,s36,_,_,rfl,hF.sub ⟨rfl,rfl,rfl,rfl,rfl,rfl,trivial⟩,hS,h34,h34k,h36⟩
       ·have hj7:=cond_t hc8 hj7
        refine q_cond_t hF rfl hc8 (q_region (q_x (v:=(.pointer (some ⟨b4,1,none⟩))) hF hS (ex_fieldAddr Tryd.underlying46 rfl sz42 rfl rfl) rfl rfl fun a hF=>q_x (v:=s21.v) hF hS (ex_load1 2 0 Tryd.underlying42 rfl rfl rfl rfl) rfl rfl fun a hF=>q_x (v:=(iV i_17)) hF hS (ex_move rfl) rfl rfl fun a hF=>q_do rfl fun _ hK=>wp_buildSlice' (l:=([i_17] : List Int)) (cells:=[(iV i_17)]) hF hS Tryd.underlying42 inf3 rfl rfl (by kernel_rfl) rfl rfl rfl ⟨rfl,rfl⟩ rfl rfl fun a w q37 s37 hF hS h37 _=>hK _ _ ?_))
        have hS : St _ _ _ _ [q21,q37,[⟨b_p_c,[s1.v,(iV p_c_18.at_),(.int .u64 p_c_18.seed.v)],76⟩],[⟨b4,[(iV g_20.Var),s21.v],46⟩],[⟨b3,[(iV 0),nilS.v],46⟩]]:=hS.sel [1,0,2,3,4] (by decide)
        obtain ⟨l_38,hl_38,hj7⟩:=bindS hj7
        refine q_do rfl fun _ hK=>wp_append hF hS h21 Tryd.underlying42 inf3 rfl rfl rfl rfl (h37.vw hS (j:=1) rfl) rfl (by decide) hl_38 rfl fun a w q39 s39 hF hS h39=>hK _ _ (q_x (v:=(.pointer (some ⟨b4,1,none⟩))) hF hS (ex_fieldAddr Tryd.underlying46 rfl sz42 rfl rfl) rfl rfl fun a hF=>q_store (vs:=[s39.v]) (cs':=[(iV g_20.Var),s39.v]) 3 0 hF hS sz42 rfl rfl rfl rfl rfl rfl rfl rfl fun a w hF hS=>q_end (n_jn ?_))
        obtain rfl:=someI hj7
        exact ⟨q39,s39,_,_,rfl,hF.sub ⟨rfl,rfl,rfl,rfl,rfl,rfl,trivial⟩,hS.mask [true,false,true,true,true],h19,h19k,h39⟩
      ·rintro a w ⟨q43,s43,p_c_40,g_42,rfl,hF,hS,h41,h41k,h43⟩
       refine n_ib (n_sq ?_)
       refine q_region (q_x (v:=(iV i_17)) hF hS (ex_move rfl) rfl rfl fun a hF=>q_x (v:=(iV (w64 (i_17 + 1)))) hF hS (ex_ibin rfl rfl rfl) rfl rfl fun a hF=>q_x (v:=(iV (w64 (i_17 + 1)))) hF hS (ex_assign rfl) rfl rfl fun a hF=>q_end ?_)
       obtain rfl:=someI hb5
       exact ⟨rfl,q43,s43,_,_,_,rfl,hF.sub ⟨rfl,rfl,rfl,rfl,rfl,rfl,trivial⟩,hS,h41,h41k,h43⟩
    ·rintro e a w ⟨q47,s47,p_c_44,g_46,rfl,rfl,hF,hS,h45,h45k,h47⟩
     refine x_ib (n_jn ?_)
     obtain rfl:=someI hj1
     exact ⟨q47,s47,_,_,rfl,hF.sub ⟨rfl,rfl,rfl,trivial⟩,hS.sel [0,2,3,1] (by decide),h47,h45,h45k⟩
 ·rintro a w ⟨q49,s49,g_48,p_c_50,rfl,hF,hS,h49,h51,h51k⟩
  refine n_sq ?_
  refine q_seq (q_seq (q_region (q_x (v:=(.pointer (some ⟨b_p_c,0,none⟩))) hF hS (ex_move rfl) rfl rfl fun a hF=>?_)))
  have hS : St _ _ _ _ [[⟨b_p_c,[s1.v,(iV p_c_50.at_),(.int .u64 p_c_50.seed.v)],76⟩],q49,[⟨b4,[(iV g_48.Var),s49.v],46⟩],[⟨b3,[(iV 0),nilS.v],46⟩]]:=hS.sel [3,0,1,2] (by decide)
  have hS52 : St _ _ _ _ ([[⟨b_p_c,[s1.v,(iV p_c_50.at_),(.int .u64 p_c_50.seed.v)],76⟩]]++[q49,[⟨b4,[(iV g_48.Var),s49.v],46⟩],[⟨b3,[(iV 0),nilS.v],46⟩]]):=hS
  have hE52:=hS52.enter
  obtain ⟨t_53,ht_53,hr⟩:=bindS hr
  refine q_do rfl fun _ hK=>wp_callX (vs:=[(.pointer (some ⟨b_p_c,0,none⟩)),(iV 16)]) hF Tryd.func52 (by kernel_rfl) rfl rfl rfl (c_spec_l1Cur_pick p_c_50 16 t_53 ht_53 _ m b_p_c s1 h51 _ hE52) fun a w _ hR hF=>hK _ _ ?_
  obtain ⟨rfl,hR52,hk54⟩:=hR
  have hS : St _ _ _ _ [[⟨b_p_c,[s1.v,(iV t_53.2.at_),(.int .u64 t_53.2.seed.v)],76⟩],q49,[⟨b4,[(iV g_48.Var),s49.v],46⟩],[⟨b3,[(iV 0),nilS.v],46⟩]]:=hS52.leaveF hR52
  have h54 : Rd m s1 t_53.2.code:=by rw [hk54]; exact h51
  refine q_end (n_sq (q_block (q_seq (q_region (q_x (v:=(.bool (t_53.1 == 0))) hF hS (ex_ibin rfl rfl rfl) rfl rfl fun a hF=>q_x (v:=(.bool (t_53.1 == 0))) hF hS (ex_assign rfl) rfl rfl fun a hF=>q_end (n_sq ?_))))))
  obtain ⟨j10,hj10,hr⟩:=bindS hr
  refine q_join (fun a w=>∃ (q80 : Piece),∃ (s80 : Sl),∃ p_c_77,∃ g_79,j10 = (p_c_77,g_79)∧Fr a 95 [(4,(.pointer (some ⟨b3,0,none⟩))),(5,(.pointer (some ⟨b4,0,none⟩)))]∧St X w0 w m [q80,[⟨b_p_c,[s1.v,(iV p_c_77.at_),(.int .u64 p_c_77.seed.v)],76⟩],[⟨b4,[(iV g_79.Var),s80.v],46⟩],[⟨b3,[(iV 0),nilS.v],46⟩]]∧Rd m s1 p_c_77.code∧p_c_77.code = p_c.code∧OwnL m 3 q80 s80 g_79.Groups) ?_ ?_
  ·rcases bcase (t_53.1 == 0) with hc11 | hc11
   ·have hj10:=cond_f hc11 hj10
    refine q_cond_f hF rfl hc11 (q_seq (q_region (q_x (v:=(.bool (t_53.1 == 1))) hF hS (ex_ibin rfl rfl rfl) rfl rfl fun a hF=>q_x (v:=(.bool (t_53.1 == 1))) hF hS (ex_assign rfl) rfl rfl fun a hF=>q_end (n_sq ?_))))
    obtain ⟨g_71,hj12,hj10⟩:=bindS hj10
    refine q_join (fun a w=>∃ (q72 : Piece),∃ (s72 : Sl),Fr a 95 [(4,(.pointer (some ⟨b3,0,none⟩))),(5,(.pointer (some ⟨b4,0,none⟩)))]∧St X w0 w m [q72,[⟨b_p_c,[s1.v,(iV t_53.2.at_),(.int .u64 t_53.2.seed.v)],76⟩],[⟨b4,[(iV g_71.Var),s72.v],46⟩],[⟨b3,[(iV 0),nilS.v],46⟩]]∧OwnL m 3 q72 s72 g_71.Groups) ?_ ?_
    ·rcases bcase (t_53.1 == 1) with hc13 | hc13
     ·have hj12:=cond_f hc13 hj12
      refine q_cond_f hF rfl hc13 (q_seq (q_region (q_x (v:=(.bool (t_53.1 == 2))) hF hS (ex_ibin rfl rfl rfl) rfl rfl fun a hF=>q_x (v:=(.bool (t_53.1 == 2))) hF hS (ex_assign rfl) rfl rfl fun a hF=>q_end (n_sq ?_))))
      obtain ⟨g_66,hj14,hj12⟩:=bindS hj12
      refine q_join (fun a w=>∃ (q67 : Piece),Fr a 95 [(4,(.pointer (some ⟨b3,0,none⟩))),(5,(.pointer (some ⟨b4,0,none⟩)))]∧St X w0 w m [q67,[⟨b_p_c,[s1.v,(iV t_53.2.at_),(.int .u64 t_53.2.seed.v)],76⟩],[⟨b4,[(iV g_66.Var),s49.v],46⟩],[⟨b3,[(iV 0),nilS.v],46⟩]]∧OwnL m 3 q67 s49 g_66.Groups) ?_ ?_
      ·rcases bcase (t_53.1 == 2) with hc15 | hc15
       ·have hj14:=cond_f hc15 hj14
        refine q_cond_f hF rfl hc15 (q_skipc (n_jn ?_))
        obtain rfl:=someI hj14
        exact ⟨q49,hF.sub ⟨rfl,rfl,trivial⟩,hS.sel [1,0,2,3] (by decide),h49⟩
       ·have hj14:=cond_t hc15 hj14
        refine q_cond_t hF rfl hc15 (q_seq (q_region (q_x (v:=(.pointer (some ⟨b4,1,none⟩))) hF hS (ex_fieldAddr Tryd.underlying46 rfl sz42 rfl rfl) rfl rfl fun a hF=>q_x (v:=s49.v) hF hS (ex_load1 2 0 Tryd.underlying42 rfl rfl rfl rfl) rfl rfl fun a hF=>q_x (v:=(iV (goLen g_48.Groups))) hF hS (ex_len Tryd.underlying42 rfl h49.len) rfl rfl fun a hF=>q_x (v:=(iV 0)) hF hS (ex_move rfl) rfl rfl fun a hF=>q_end (n_sq (q_block ?_)))))
        obtain ⟨g_64,hl16,hj14⟩:=bindS hj14
        refine q_loop (fun (s : Int × impl_Grouping) a w=>∃ (q57 : Piece),∃ t_55,∃ g_56,s = (t_55,g_56)∧Fr a 95 [(4,(.pointer (some ⟨b3,0,none⟩))),(5,(.pointer (some ⟨b4,0,none⟩))),(78,(iV (goLen g_48.Groups))),(79,(iV t_55))]∧St X w0 w m [q57,[⟨b_p_c,[s1.v,(iV t_53.2.at_),(.int .u64 t_53.2.seed.v)],76⟩],[⟨b4,[(iV g_56.Var),s49.v],46⟩],[⟨b3,[(iV 0),nilS.v],46⟩]]∧OwnL m 3 q57 s49 g_56.Groups) (fun (g_64 : impl_Grouping) e a w=>∃ (q65 : Piece),e = .exit 3∧Fr a 95 [(4,(.pointer (some ⟨b3,0,none⟩))),(5,(.pointer (some ⟨b4,0,none⟩)))]∧St X w0 w m [q65,[⟨b_p_c,[s1.v,(iV t_53.2.at_),(.int .u64 t_53.2.seed.v)],76⟩],[⟨b4,[(iV g_64.Var),s49.v],46⟩],[⟨b3,[(iV 0),nilS.v],46⟩]]∧OwnL m 3 q65 s49 g_64.Groups) hl16 ⟨q49,_,_,rfl,hF.sub ⟨rfl,rfl,rfl,rfl,trivial⟩,hS.sel [1,0,2,3] (by decide),h49⟩ ?_ ?_
        ·clear hF hS
         rintro s a w st ⟨q57,t_55,g_56,rfl,hF,hS,h57⟩ hb16
         unfold spec_l1Cur_grouping_l2 at hb16
         refine q_seq (q_region (q_x (v:=(.bool (decide (t_55 < (goLen g_48.Groups))))) hF hS (ex_ibin rfl rfl rfl) rfl rfl fun a hF=>q_end (n_sq (q_seq ?_))))
         rcases bcase (decide (t_55 < (goLen g_48.Groups))) with hc17 | hc17
         ·have hb16:=cond_f hc17 hb16
          refine q_cond_f hF rfl hc17 (q_exit (x_sq ?_))
          obtain rfl:=someI hb16
          exact ⟨nofun,.inl ⟨q57,rfl,hF.sub ⟨rfl,rfl,trivial⟩,hS,h57⟩⟩
         ·have hb16:=cond_t hc17 hb16
          refine q_cond_t hF rfl hc17 (q_skipc (n_sq (q_seq (q_block (q_seq (q_region (q_x (v:=(iV t_55)) hF hS (ex_move rfl) rfl rfl fun a hF=>q_x (v:=(iV t_55)) hF hS (ex_assign rfl) rfl rfl fun a hF=>q_end (n_sq (e_region ⟨[11],[b4]⟩ mixed fun w' hw'=>?_)))))))))
          have hS:=hS.below hw'
          refine e_p (v:=(.pointer (some ⟨b4,1,none⟩))) 0 hF rfl (ex_fieldAddr Tryd.underlying46 rfl sz42 rfl rfl) rfl rfl (by kernel_rfl) (by kernel_rfl) (by kernel_rfl) fun a hF=>e_xb (v:=s49.v) 1 2 hF hS (.head _) rfl rfl (ex_load1 0 0 Tryd.underlying42 rfl rfl rfl rfl) rfl rfl (by kernel_rfl) (by kernel_rfl) (by kernel_rfl) fun a hF=>e_p (v:=(iV t_55)) 2 hF rfl (ex_move rfl) rfl rfl (by kernel_rfl) (by kernel_rfl) (by kernel_rfl) fun a hF=>e_p (v:=(.pointer (some ⟨b4,1,none⟩))) 3 hF rfl (ex_fieldAddr Tryd.underlying46 rfl sz42 rfl rfl) rfl rfl (by kernel_rfl) (by kernel_rfl) (by kernel_rfl) fun a hF=>e_xb (v:=s49.v) 4 2 hF hS (.head _) rfl rfl (ex_load1 0 0 Tryd.underlying42 rfl rfl rfl rfl) rfl rfl (by kernel_rfl) (by kernel_rfl) (by kernel_rfl) fun a hF=>e_p (v:=(iV t_55)) 5 hF rfl (ex_move rfl) rfl rfl (by kernel_rfl) (by kernel_rfl) (by kernel_rfl) fun a hF=>?_
          obtain ⟨e_58,he_58,hb16⟩:=bindS hb16
          obtain ⟨vs59,at59,d59⟩:=h57.at he_58 1 rfl
          obtain rfl : vs59 = [(iV e_58)]:=d59
          refine e_p (v:=(elP s49 (t_55.toNat * 1))) 6 hF rfl (ex_indexAddr Tryd.underlying42 sz3 rfl rfl (h57.idx he_58)) rfl rfl (by kernel_rfl) (by kernel_rfl) (by kernel_rfl) fun a hF=>e_x (v:=(iV e_58)) 7 hF hS rfl (ex_loadE1 0 Tryd.underlying3 rfl rfl (at59.at 0 rfl) rfl rfl) rfl rfl (by kernel_rfl) (by kernel_rfl) (by kernel_rfl) (by kernel_rfl) fun a hF=>?_
          obtain ⟨t_60,ht_60,hb16⟩:=bindS hb16
          refine e_p (v:=(iV t_60)) 8 hF rfl (ex_rem rfl rfl ht_60) rfl rfl (by kernel_rfl) (by kernel_rfl) (by kernel_rfl) fun a hF=>e_p (v:=(iV (w64 (2 * t_60)))) 9 hF rfl (ex_ibin rfl rfl rfl) rfl rfl (by kernel_rfl) (by kernel_rfl) (by kernel_rfl) fun a hF=>?_
          obtain ⟨e_61,he_61,hb16⟩:=bindS hb16
          obtain ⟨vs62,at62,d62⟩:=h57.at he_61 1 rfl
          obtain rfl : vs62 = [(iV e_61)]:=d62
          refine e_p (v:=(elP s49 (t_55.toNat * 1))) 10 hF rfl (ex_indexAddr Tryd.underlying42 sz3 rfl rfl (h57.idx he_61)) rfl rfl (by kernel_rfl) (by kernel_rfl) (by kernel_rfl) fun a hF=>e_one 11 (by kernel_rfl) ?_
          have hSo:=hS
          refine e_opl rfl rfl rfl fun _ hK=>wp_storeE (e':=(w64 (2 * t_60))) (us:=[(iV (w64 (2 * t_60)))]) (vs:=[(iV e_61)]) 0 hF hS h57 sz3 rfl rfl rfl rfl rfl rfl rfl he_61 at62 rfl rfl rfl fun w q63 hS h63=>hK _ _ (⟨kpC hSo hS 2 2 rfl rfl kpN,?_⟩)
          refine e_end (by kernel_rfl) (n_ib (n_sq ?_)) _
          refine q_region (q_x (v:=(iV (w64 (t_55 + 1)))) hF hS (ex_ibin rfl rfl rfl) rfl rfl fun a hF=>q_x (v:=(iV (w64 (t_55 + 1)))) hF hS (ex_move rfl) rfl rfl fun a hF=>q_end ?_)
          obtain rfl:=someI hb16
          exact ⟨rfl,q63,_,_,rfl,hF.sub ⟨rfl,rfl,rfl,rfl,trivial⟩,hS,h63⟩
        ·rintro e a w ⟨q65,rfl,hF,hS,h65⟩
         refine x_ib (n_jn ?_)
         obtain rfl:=someI hj14
         exact ⟨q65,hF.sub ⟨rfl,rfl,trivial⟩,hS,h65⟩
      ·rintro a w ⟨q67,hF,hS,h67⟩
       refine n_jn ?_
       obtain rfl:=someI hj12
       exact ⟨q67,s49,hF.sub ⟨rfl,rfl,trivial⟩,hS,h67⟩
     ·have hj12:=cond_t hc13 hj12
      refine q_cond_t hF rfl hc13 (q_region (q_x (v:=(.pointer (some ⟨b4,1,none⟩))) hF hS (ex_fieldAddr Tryd.underlying46 rfl sz42 rfl rfl) rfl rfl fun a hF=>q_x (v:=s49.v) hF hS (ex_load1 2 0 Tryd.underlying42 rfl rfl rfl rfl) rfl rfl fun a hF=>q_do rfl fun _ hK=>wp_buildSlice' (l:=([0] : List Int)) (cells:=[(iV 0)]) hF hS Tryd.underlying42 inf3 rfl rfl (by kernel_rfl) rfl rfl rfl ⟨rfl,rfl⟩ rfl rfl fun a w q68 s68 hF hS h68 _=>hK _ _ ?_))
      have hS : St _ _ _ _ [q49,q68,[⟨b_p_c,[s1.v,(iV t_53.2.at_),(.int .u64 t_53.2.seed.v)],76⟩],[⟨b4,[(iV g_48.Var),s49.v],46⟩],[⟨b3,[(iV 0),nilS.v],46⟩]]:=hS.sel [2,0,1,3,4] (by decide)
      obtain ⟨l_69,hl_69,hj12⟩:=bindS hj12
      refine q_do rfl fun _ hK=>wp_append hF hS h49 Tryd.underlying42 inf3 rfl rfl rfl rfl (h68.vw hS (j:=1) rfl) rfl (by decide) hl_69 rfl fun a w q70 s70 hF hS h70=>hK _ _ (q_x (v:=(.pointer (some ⟨b4,1,none⟩))) hF hS (ex_fieldAddr Tryd.underlying46 rfl sz42 rfl rfl) rfl rfl fun a hF=>q_store (vs:=[s70.v]) (cs':=[(iV g_48.Var),s70.v]) 3 0 hF hS sz42 rfl rfl rfl rfl rfl rfl rfl rfl fun a w hF hS=>q_end (n_jn ?_))
      obtain rfl:=someI hj12
      exact ⟨q70,s70,hF.sub ⟨rfl,rfl,trivial⟩,hS.mask [true,false,true,true,true],h70⟩
    ·rintro a w ⟨q72,s72,hF,hS,h72⟩
     refine n_jn ?_
     obtain rfl:=someI hj10
     exact ⟨q72,s72,_,_,rfl,hF.sub ⟨rfl,rfl,trivial⟩,hS,h54,(hk54.trans h51k),h72⟩
   ·have hj10:=cond_t hc11 hj10
    refine q_cond_t hF rfl hc11 (q_region (q_x (v:=(.pointer (some ⟨b_p_c,0,none⟩))) hF hS (ex_move rfl) rfl rfl fun a hF=>q_do rfl fun _ hK=>wp_buildSlice' (l:=([-1,0,1,9] : List Int)) (cells:=[(iV (-1)),(iV 0),(iV 1),(iV 9)]) hF hS Tryd.underlying42 inf3 rfl rfl (by kernel_rfl) rfl rfl rfl ⟨rfl,rfl,rfl,rfl,rfl⟩ rfl rfl fun a w q73 s73 hF hS h73 _=>hK _ _ ?_))
    have hS : St _ _ _ _ [[⟨b_p_c,[s1.v,(iV t_53.2.at_),(.int .u64 t_53.2.seed.v)],76⟩],q73,q49,[⟨b4,[(iV g_48.Var),s49.v],46⟩],[⟨b3,[(iV 0),nilS.v],46⟩]]:=hS.sel [1,0,2,3,4] (by decide)
    have hS74 : St _ _ _ _ ([[⟨b_p_c,[s1.v,(iV t_53.2.at_),(.int .u64 t_53.2.seed.v)],76⟩]]++[q73,q49,[⟨b4,[(iV g_48.Var),s49.v],46⟩],[⟨b3,[(iV 0),nilS.v],46⟩]]):=hS
    obtain ⟨m74,hl74,hE74,hz74⟩:=hS74.lendX
    obtain ⟨t_75,ht_75,hj10⟩:=bindS hj10
    refine q_do rfl fun _ hK=>wp_callX (vs:=[(.pointer (some ⟨b_p_c,0,none⟩)),s73.v]) hF Tryd.func60 (by kernel_rfl) rfl rfl rfl (c_spec_l1Cur_among t_53.2 ([-1,0,1,9] : List Int) t_75 ht_75 _ m74 b_p_c s1 (h54.mono hl74) s73 (h73.froz hl74 (hz74 0 _ rfl)) _ hE74) fun a w _ hR hF=>hK _ _ ?_
    obtain ⟨rfl,hR74,hk76⟩:=hR
    have hS : St _ _ _ _ [[⟨b_p_c,[s1.v,(iV t_75.2.at_),(.int .u64 t_75.2.seed.v)],76⟩],q73,q49,[⟨b4,[(iV g_48.Var),s49.v],46⟩],[⟨b3,[(iV 0),nilS.v],46⟩]]:=hS74.leaveF hR74
    have h76 : Rd m s1 t_75.2.code:=by rw [hk76]; exact h54
    refine q_x (v:=(.pointer (some ⟨b4,0,none⟩))) hF hS (ex_fieldAddr Tryd.underlying46 rfl sz3 rfl rfl) rfl rfl fun a hF=>q_store (vs:=[(iV t_75.1)]) (cs':=[(iV t_75.1),s49.v]) 3 0 hF hS sz3 rfl rfl rfl rfl rfl rfl rfl rfl fun a w hF hS=>q_end (n_jn ?_)
    obtain rfl:=someI hj10
    exact ⟨q49,s49,_,_,rfl,hF.sub ⟨rfl,rfl,trivial⟩,hS.sel [2,0,3,4] (by decide),h76,(hk76.trans (hk54.trans h51k)),h49⟩
  ·rintro a w ⟨q80,s80,p_c_77,g_79,rfl,hF,hS,h78,h78k,h80⟩
   refine n_ib (n_sq ?_)
   refine q_seq (q_region (q_x (v:=(.agg #[(iV g_79.Var),s80.v])) hF hS (ex_loadA (vs:=[(iV g_79.Var),s80.v]) 2 0 Tryd.underlying46 rfl sz46 rfl rfl rfl rfl) rfl rfl fun a hF=>q_store (vs:=[(iV g_79.Var),s80.v]) (cs':=[(iV g_79.Var),s80.v]) 3 0 hF hS sz46 rfl rfl rfl rfl rfl rfl rfl rfl fun a w hF hS=>q_end (n_sq (q_ret ?_))))
   obtain rfl:=someI hr
   exact ret_ofX hF hS rfl (.cellA (us:=[(iV g_79.Var),s80.v]) 3 0 Tryd.underlying46 rfl sz46 rfl rfl rfl rfl .nil) ⟨q80,s80,rfl,hS.sel [1,0] (by decide),h80,h78k⟩

theorem c_spec_l1Cur_values (p_c : spec_l1Cur) (p_s : List impl_Variable) (r : (List Int) × spec_l1Cur) (hr : spec_l1Cur_values p_c p_s = some r) (w0 : World) (m : Mem) (b_p_c : Nat) (s1 : Sl) (h1 : Rd m s1 p_c.code) (s2 : Sl) (h2 : Rd m s2 p_s) (X : List Nat) (hS : St X w0 w0 m [[⟨b_p_c,[s1.v,(iV p_c.at_),(.int .u64 p_c.seed.v)],76⟩]]) :
  RetX Tryd.prog 120 [(.pointer (some ⟨b_p_c,0,none⟩)),s2.v] w0 (fun v w=>∃ (q0' : Piece) (s0' : Sl),v = s0'.v∧St X w0 w m [[⟨b_p_c,[s1.v,(iV r.2.at_),(.int .u64 r.2.seed.v)],76⟩],q0']∧OwnL m 3 q0' s0' r.1∧r.2.code = p_c.code):=by
 unfold spec_l1Cur_values at hr
 refine ret_startX Tryd.func120 rfl 23 rfl rfl fun a hF=>q_seq (q_region (q_x (v:=nilS.v) hF hS (ex_assign rfl) rfl rfl fun a hF=>q_end (n_sq (q_seq (q_region (q_x (v:=nilS.v) hF hS (ex_assign rfl) rfl rfl fun a hF=>q_end (n_sq (q_seq (q_seq (q_region (q_x (v:=s2.v) hF hS (ex_move rfl) rfl rfl fun a hF=>q_x (v:=(iV (goLen p_s))) hF hS (ex_len Tryd.underlying39 rfl h2.len) rfl rfl fun a hF=>q_x (v:=(iV 0)) hF hS (ex_move rfl) rfl rfl fun a hF=>q_end (n_sq (q_block ?_)))))))))))))
 obtain ⟨o1,hl1,hr⟩:=bindS hr
 refine q_loop (fun (s : (List Int) × Int × spec_l1Cur) a w=>∃ (q4 : Piece),∃ (s4 : Sl),∃ out_3,∃ t_5,∃ p_c_6,s = (out_3,t_5,p_c_6)∧Fr a 23 [(0,(.pointer (some ⟨b_p_c,0,none⟩))),(5,s4.v),(8,s2.v),(9,(iV (goLen p_s))),(10,(iV t_5))]∧St X w0 w m [q4,[⟨b_p_c,[s1.v,(iV p_c_6.at_),(.int .u64 p_c_6.seed.v)],76⟩]]∧OwnL m 3 q4 s4 out_3∧Rd m s1 p_c_6.code∧p_c_6.code = p_c.code) (fun (o : (List Int) × spec_l1Cur) e a w=>∃ (q18 : Piece),∃ (s18 : Sl),∃ out_17,∃ p_c_19,o = (out_17,p_c_19)∧e = .exit 0∧Fr a 23 [(5,s18.v)]∧St X w0 w m [q18,[⟨b_p_c,[s1.v,(iV p_c_19.at_),(.int .u64 p_c_19.seed.v)],76⟩]]∧OwnL m 3 q18 s18 out_17∧Rd m s1 p_c_19.code∧p_c_19.code = p_c.code) hl1 ⟨[],nilS,_,_,_,rfl,hF.sub ⟨rfl,rfl,rfl,rfl,rfl,trivial⟩,hS.sel [1,0] (by decide),(OwnL.nil (α:=Int) m 3),h1,rfl⟩ ?_ ?_
 ·clear hF hS
  rintro s a w st ⟨q4,s4,out_3,t_5,p_c_6,rfl,hF,hS,h4,h7,h7k⟩ hb1
  unfold spec_l1Cur_values_l1 at hb1
  refine q_seq (q_region (q_x (v:=(.bool (decide (t_5 < (goLen p_s))))) hF hS (ex_ibin rfl rfl rfl) rfl rfl fun a hF=>q_end (n_sq (q_seq ?_))))
  rcases bcase (decide (t_5 < (goLen p_s))) with hc2 | hc2
  ·have hb1:=cond_f hc2 hb1
   refine q_cond_f hF rfl hc2 (q_exit (x_sq ?_))
   obtain rfl:=someI hb1
   exact ⟨nofun,.inl ⟨q4,s4,_,_,rfl,rfl,hF.sub ⟨rfl,trivial⟩,hS,h4,h7,h7k⟩⟩
  ·have hb1:=cond_t hc2 hb1
   refine q_cond_t hF rfl hc2 (q_skipc (n_sq (q_seq (q_block (q_seq (q_region ?_))))))
   obtain ⟨e_8,he_8,hb1⟩:=bindS hb1
   obtain ⟨vs9,at9,d9⟩:=h2.at he_8 2 rfl
   obtain rfl : vs9 = [(strV e_8.Name),(iV e_8.Levels)]:=d9
   refine q_x (v:=(elP s2 (t_5.toNat * 2))) hF hS (ex_indexAddr Tryd.underlying39 sz101 rfl rfl (h2.idx he_8)) rfl rfl fun a hF=>q_x (v:=(.agg #[(strV e_8.Name),(iV e_8.Levels)])) hF hS (ex_loadEA (us:=[(strV e_8.Name),(iV e_8.Levels)]) 0 Tryd.underlying101 rfl sz101 rfl ((at9).at) rfl rfl rfl) rfl rfl fun a hF=>q_alloc (cs:=[(strV ([] : List UInt8)),(iV 0)]) hF hS rfl rfl rfl fun a w b10 hF hS=>q_store (vs:=[(strV e_8.Name),(iV e_8.Levels)]) (cs':=[(strV e_8.Name),(iV e_8.Levels)]) 0 0 hF hS sz101 rfl rfl rfl rfl rfl rfl rfl rfl fun a w hF hS=>q_end (n_sq (q_region (q_x (v:=s4.v) hF hS (ex_move rfl) rfl rfl fun a hF=>q_x (v:=(.pointer (some ⟨b_p_c,0,none⟩))) hF hS (ex_move rfl) rfl rfl fun a hF=>q_x (v:=(.pointer (some ⟨b10,1,none⟩))) hF hS (ex_fieldAddr Tryd.underlying101 rfl sz3 rfl rfl) rfl rfl fun a hF=>q_x (v:=(iV e_8.Levels)) hF hS (ex_load1 0 0 Tryd.underlying3 rfl rfl rfl rfl) rfl rfl fun a hF=>?_)))
   have hS : St _ _ _ _ [[⟨b_p_c,[s1.v,(iV p_c_6.at_),(.int .u64 p_c_6.seed.v)],76⟩],[⟨b10,[(strV e_8.Name),(iV e_8.Levels)],101⟩],q4]:=hS.sel [2,0,1] (by decide)
   have hS11 : St _ _ _ _ ([[⟨b_p_c,[s1.v,(iV p_c_6.at_),(.int .u64 p_c_6.seed.v)],76⟩]]++[[⟨b10,[(strV e_8.Name),(iV e_8.Levels)],101⟩],q4]):=hS
   have hE11:=hS11.enter
   obtain ⟨t_12,ht_12,hb1⟩:=bindS hb1
   refine q_do rfl fun _ hK=>wp_callX (vs:=[(.pointer (some ⟨b_p_c,0,none⟩)),(iV e_8.Levels)]) hF Tryd.func52 (by kernel_rfl) rfl rfl rfl (c_spec_l1Cur_pick p_c_6 e_8.Levels t_12 ht_12 _ m b_p_c s1 h7 _ hE11) fun a w _ hR hF=>hK _ _ ?_
   obtain ⟨rfl,hR11,hk13⟩:=hR
   have hS : St _ _ _ _ [[⟨b_p_c,[s1.v,(iV t_12.2.at_),(.int .u64 t_12.2.seed.v)],76⟩],[⟨b10,[(strV e_8.Name),(iV e_8.Levels)],101⟩],q4]:=hS11.leaveF hR11
   have h13 : Rd m s1 t_12.2.code:=by rw [hk13]; exact h7
   refine q_do rfl fun _ hK=>wp_buildSlice' (l:=([t_12.1] : List Int)) (cells:=[(iV t_12.1)]) hF hS Tryd.underlying42 inf3 rfl rfl (by kernel_rfl) rfl rfl rfl ⟨rfl,rfl⟩ rfl rfl fun a w q14 s14 hF hS h14 _=>hK _ _ ?_
   have hS : St _ _ _ _ [q4,q14,[⟨b_p_c,[s1.v,(iV t_12.2.at_),(.int .u64 t_12.2.seed.v)],76⟩],[⟨b10,[(strV e_8.Name),(iV e_8.Levels)],101⟩]]:=hS.sel [3,0,1,2] (by decide)
   obtain ⟨l_15,hl_15,hb1⟩:=bindS hb1
   refine q_do rfl fun _ hK=>wp_append hF hS h4 Tryd.underlying42 inf3 rfl rfl rfl rfl (h14.vw hS (j:=1) rfl) rfl (by decide) hl_15 rfl fun a w q16 s16 hF hS h16=>hK _ _ (q_x (v:=s16.v) hF hS (ex_assign rfl) rfl rfl fun a hF=>q_end (n_ib (n_sq (q_region (q_x (v:=(iV (w64 (t_5 + 1)))) hF hS (ex_ibin rfl rfl rfl) rfl rfl fun a hF=>q_x (v:=(iV (w64 (t_5 + 1)))) hF hS (ex_move rfl) rfl rfl fun a hF=>q_end ?_)))))
   obtain rfl:=someI hb1
   exact ⟨rfl,q16,s16,_,_,_,rfl,hF.sub ⟨rfl,rfl,rfl,rfl,rfl,trivial⟩,hS.mask [true,false,true,false],h16,h13,(hk13.trans h7k)⟩
 ·rintro e a w ⟨q18,s18,out_17,p_c_19,rfl,rfl,hF,hS,h18,h20,h20k⟩
  refine x_ib (n_sq ?_)
  refine q_seq (q_region (q_x (v:=s18.v) hF hS (ex_move rfl) rfl rfl fun a hF=>q_x (v:=s18.v) hF hS (ex_assign rfl) rfl rfl fun a hF=>q_end (n_sq (q_ret ?_))))
  obtain rfl:=someI hr
  exact ret_ofX hF hS rfl (.tmp rfl .nil) ⟨q18,s18,rfl,hS.sel [1,0] (by decide),h18,h20k⟩

theorem c_spec_l1Cur_anyValues (p_c : spec_l1Cur) (p_s : List impl_Variable) (r : (List Int) × spec_l1Cur) (hr : spec_l1Cur_anyValues p_c p_s = some r) (w0 : World) (m : Mem) (b_p_c : Nat) (s1 : Sl) (h1 : Rd m s1 p_c.code) (s2 : Sl) (h2 : Rd m s2 p_s) (X : List Nat) (hS : St X w0 w0 m [[⟨b_p_c,[s1.v,(iV p_c.at_),(.int .u64 p_c.seed.v)],76⟩]]) :
  RetX Tryd.prog 78 [(.pointer (some ⟨b_p_c,0,none⟩)),s2.v] w0 (fun v w=>∃ (q0' : Piece) (s0' : Sl),v = s0'.v∧St X w0 w m [[⟨b_p_c,[s1.v,(iV r.2.at_),(.int .u64 r.2.seed.v)],76⟩],q0']∧OwnL m 3 q0' s0' r.1∧r.2.code = p_c.code):=by
 unfold spec_l1Cur_anyValues at hr
 refine ret_startX Tryd.func78 rfl 33 rfl rfl fun a hF=>q_seq (q_region (q_x (v:=nilS.v) hF hS (ex_assign rfl) rfl rfl fun a hF=>q_end (n_sq (q_seq (q_region (q_x (v:=(.pointer (some ⟨b_p_c,0,none⟩))) hF hS (ex_move rfl) rfl rfl fun a hF=>q_x (v:=s2.v) hF hS (ex_move rfl) rfl rfl fun a hF=>?_))))))
 have hS3 : St _ _ _ _ ([[⟨b_p_c,[s1.v,(iV p_c.at_),(.int .u64 p_c.seed.v)],76⟩]]++[]):=hS
 have hE3:=hS3.enter
 obtain ⟨t_4,ht_4,hr⟩:=bindS hr
 refine q_do rfl fun _ hK=>wp_callX (vs:=[(.pointer (some ⟨b_p_c,0,none⟩)),s2.v]) hF Tryd.func120 (by kernel_rfl) rfl rfl rfl (c_spec_l1Cur_values p_c p_s t_4 ht_4 _ m b_p_c s1 h1 s2 h2 _ hE3) fun a w _ hR hF=>hK _ _ ?_
 obtain ⟨q5,s5,rfl,hR3,h5,hk6⟩:=hR
 have hS : St _ _ _ _ [[⟨b_p_c,[s1.v,(iV t_4.2.at_),(.int .u64 t_4.2.seed.v)],76⟩],q5]:=hS3.leaveF hR3
 have h6 : Rd m s1 t_4.2.code:=by rw [hk6]; exact h1
 refine q_x (v:=s5.v) hF hS (ex_assign rfl) rfl rfl fun a hF=>q_end (n_sq (q_seq (q_block (q_seq ?_))))
 obtain ⟨j1,hj1,hr⟩:=bindS hr
 refine q_join (fun a w=>∃ t_10,∃ p_c_11,j1 = (t_10,p_c_11)∧Fr a 33 [(0,(.pointer (some ⟨b_p_c,0,none⟩))),(5,s5.v),(9,(.bool t_10))]∧St X w0 w m [q5,[⟨b_p_c,[s1.v,(iV p_c_11.at_),(.int .u64 p_c_11.seed.v)],76⟩]]∧Rd m s1 p_c_11.code∧p_c_11.code = p_c.code) ?_ ?_
 ·refine q_region (q_x (v:=s5.v) hF hS (ex_move rfl) rfl rfl fun a hF=>q_x (v:=(iV (goLen t_4.1))) hF hS (ex_len Tryd.underlying42 rfl h5.len) rfl rfl fun a hF=>q_x (v:=(.bool (decide (0 < (goLen t_4.1))))) hF hS (ex_ibin rfl rfl rfl) rfl rfl fun a hF=>q_x (v:=(.bool (decide (0 < (goLen t_4.1))))) hF hS (ex_move rfl) rfl rfl fun a hF=>?_)
  rcases bcase (decide (0 < (goLen t_4.1))) with hc2 | hc2
  ·have hj1:=cond_f hc2 hj1
   refine q_skip hF (wanted_f hF rfl rfl rfl hc2 rfl) rfl fun a hF=>q_skip hF (wanted_f hF rfl rfl rfl hc2 rfl) rfl fun a hF=>q_x (v:=(.bool false)) hF hS (ex_pick_f rfl rfl hc2) rfl rfl fun a hF=>q_x (v:=(.bool false)) hF hS (ex_assign rfl) rfl rfl fun a hF=>q_end (n_jn ?_)
   obtain rfl:=someI hj1
   exact ⟨_,_,rfl,hF.sub ⟨rfl,rfl,rfl,trivial⟩,hS.sel [1,0] (by decide),h6,hk6⟩
  ·have hj1:=cond_t hc2 hj1
   refine q_xg (v:=(.pointer (some ⟨b_p_c,0,none⟩))) hF hS (ex_move rfl) (wanted_t hF rfl rfl rfl hc2) rfl fun a hF=>?_
   have hS7 : St _ _ _ _ ([[⟨b_p_c,[s1.v,(iV t_4.2.at_),(.int .u64 t_4.2.seed.v)],76⟩]]++[q5]):=hS
   have hE7:=hS7.enter
   obtain ⟨t_8,ht_8,hj1⟩:=bindS hj1
   refine q_dog (wanted_t hF rfl rfl rfl hc2) fun _ hK=>wp_callX (vs:=[(.pointer (some ⟨b_p_c,0,none⟩)),(iV 16)]) hF Tryd.func50 (by kernel_rfl) rfl rfl rfl (c_spec_l1Cur_one t_4.2 16 t_8 ht_8 _ m b_p_c s1 h6 _ hE7) fun a w _ hR hF=>hK _ _ ?_
   obtain ⟨rfl,hR7,hk9⟩:=hR
   have hS : St _ _ _ _ [[⟨b_p_c,[s1.v,(iV t_8.2.at_),(.int .u64 t_8.2.seed.v)],76⟩],q5]:=hS7.leaveF hR7
   have h9 : Rd m s1 t_8.2.code:=by rw [hk9]; exact h6
   refine q_x (v:=(.bool t_8.1)) hF hS (ex_pick_t rfl rfl hc2) rfl rfl fun a hF=>q_x (v:=(.bool t_8.1)) hF hS (ex_assign rfl) rfl rfl fun a hF=>q_end (n_jn ?_)
   obtain rfl:=someI hj1
   exact ⟨_,_,rfl,hF.sub ⟨rfl,rfl,rfl,trivial⟩,hS.sel [1,0] (by decide),h9,(hk9.trans hk6)⟩
 ·rintro a w ⟨t_10,p_c_11,rfl,hF,hS,h12,h12k⟩
  refine n_sq ?_
  obtain ⟨j3,hj3,hr⟩:=bindS hr
  refine q_join (fun a w=>∃ (q30 : Piece),∃ out_29,∃ p_c_31,j3 = .inl (out_29,p_c_31)∧Fr a 33 [(5,s5.v)]∧St X w0 w m [q30,[⟨b_p_c,[s1.v,(iV p_c_31.at_),(.int .u64 p_c_31.seed.v)],76⟩]]∧OwnL m 3 q30 s5 out_29∧Rd m s1 p_c_31.code∧p_c_31.code = p_c.code) ?_ ?_
  ·rcases bcase (t_10) with hc4 | hc4
   ·have hj3:=cond_f hc4 hj3
    refine q_cond_f hF rfl hc4 (q_seq (q_region (q_x (v:=(.pointer (some ⟨b_p_c,0,none⟩))) hF hS (ex_move rfl) rfl rfl fun a hF=>?_)))
    have hS : St _ _ _ _ [[⟨b_p_c,[s1.v,(iV p_c_11.at_),(.int .u64 p_c_11.seed.v)],76⟩],q5]:=hS.sel [1,0] (by decide)
    have hS13 : St _ _ _ _ ([[⟨b_p_c,[s1.v,(iV p_c_11.at_),(.int .u64 p_c_11.seed.v)],76⟩]]++[q5]):=hS
    have hE13:=hS13.enter
    obtain ⟨t_14,ht_14,hj3⟩:=bindS hj3
    refine q_do rfl fun _ hK=>wp_callX (vs:=[(.pointer (some ⟨b_p_c,0,none⟩)),(iV 24)]) hF Tryd.func50 (by kernel_rfl) rfl rfl rfl (c_spec_l1Cur_one p_c_11 24 t_14 ht_14 _ m b_p_c s1 h12 _ hE13) fun a w _ hR hF=>hK _ _ ?_
    obtain ⟨rfl,hR13,hk15⟩:=hR
    have hS : St _ _ _ _ [[⟨b_p_c,[s1.v,(iV t_14.2.at_),(.int .u64 t_14.2.seed.v)],76⟩],q5]:=hS13.leaveF hR13
    have h15 : Rd m s1 t_14.2.code:=by rw [hk15]; exact h12
    refine q_x (v:=(.bool t_14.1)) hF hS (ex_assign rfl) rfl rfl fun a hF=>q_end (n_sq ?_)
    rcases bcase (t_14.1) with hc5 | hc5
    ·have hj3:=cond_f hc5 hj3
     refine q_cond_f hF rfl hc5 (q_skipc (n_jn ?_))
     obtain rfl:=someI hj3
     exact ⟨q5,_,_,rfl,hF.sub ⟨rfl,trivial⟩,hS.sel [1,0] (by decide),h5,h15,(hk15.trans h12k)⟩
    ·have hj3:=cond_t hc5 hj3
     refine q_cond_t hF rfl hc5 (q_seq (q_region (q_x (v:=s5.v) hF hS (ex_move rfl) rfl rfl fun a hF=>q_do rfl fun _ hK=>wp_buildSlice' (l:=([0] : List Int)) (cells:=[(iV 0)]) hF hS Tryd.underlying42 inf3 rfl rfl (by kernel_rfl) rfl rfl rfl ⟨rfl,rfl⟩ rfl rfl fun a w q16 s16 hF hS h16 _=>hK _ _ ?_)))
     have hS : St _ _ _ _ [q5,q16,[⟨b_p_c,[s1.v,(iV t_14.2.at_),(.int .u64 t_14.2.seed.v)],76⟩]]:=hS.sel [2,0,1] (by decide)
     obtain ⟨l_17,hl_17,hj3⟩:=bindS hj3
     refine q_do rfl fun _ hK=>wp_append hF hS h5 Tryd.underlying42 inf3 rfl rfl rfl rfl (h16.vw hS (j:=1) rfl) rfl (by decide) hl_17 rfl fun a w q18 s18 hF hS h18=>hK _ _ (q_x (v:=s18.v) hF hS (ex_assign rfl) rfl rfl fun a hF=>q_end (n_sq (q_ret (r_jn ?_))))
     obtain rfl:=someI hj3
     refine r_ib (r_sq ?_)
     obtain rfl:=someI hr
     exact ret_ofX hF hS rfl (.tmp rfl .nil) ⟨q18,s18,rfl,hS.sel [2,0] (by decide),h18,(hk15.trans h12k)⟩
   ·have hj3:=cond_t hc4 hj3
    refine q_cond_t hF rfl hc4 (q_region (q_x (v:=s5.v) hF hS (ex_move rfl) rfl rfl fun a hF=>q_x (v:=(.pointer (some ⟨b_p_c,0,none⟩))) hF hS (ex_move rfl) rfl rfl fun a hF=>q_x (v:=s5.v) hF hS (ex_move rfl) rfl rfl fun a hF=>q_x (v:=(iV (goLen t_4.1))) hF hS (ex_len Tryd.underlying42 rfl h5.len) rfl rfl fun a hF=>?_))
    have hS : St _ _ _ _ [[⟨b_p_c,[s1.v,(iV p_c_11.at_),(.int .u64 p_c_11.seed.v)],76⟩],q5]:=hS.sel [1,0] (by decide)
    have hS19 : St _ _ _ _ ([[⟨b_p_c,[s1.v,(iV p_c_11.at_),(.int .u64 p_c_11.seed.v)],76⟩]]++[q5]):=hS
    have hE19:=hS19.enter
    obtain ⟨t_20,ht_20,hj3⟩:=bindS hj3
    refine q_do rfl fun _ hK=>wp_callX (vs:=[(.pointer (some ⟨b_p_c,0,none⟩)),(iV (goLen t_4.1))]) hF Tryd.func52 (by kernel_rfl) rfl rfl rfl (c_spec_l1Cur_pick p_c_11 (goLen t_4.1) t_20 ht_20 _ m b_p_c s1 h12 _ hE19) fun a w _ hR hF=>hK _ _ ?_
    obtain ⟨rfl,hR19,hk21⟩:=hR
    have hS : St _ _ _ _ [[⟨b_p_c,[s1.v,(iV t_20.2.at_),(.int .u64 t_20.2.seed.v)],76⟩],q5]:=hS19.leaveF hR19
    have h21 : Rd m s1 t_20.2.code:=by rw [hk21]; exact h12
    refine q_x (v:=(.pointer (some ⟨b_p_c,0,none⟩))) hF hS (ex_move rfl) rfl rfl fun a hF=>q_do rfl fun _ hK=>wp_buildSlice' (l:=([-1,2,8] : List Int)) (cells:=[(iV (-1)),(iV 2),(iV 8)]) hF hS Tryd.underlying42 inf3 rfl rfl (by kernel_rfl) rfl rfl rfl ⟨rfl,rfl,rfl,rfl⟩ rfl rfl fun a w q22 s22 hF hS h22 _=>hK _ _ ?_
    have hS : St _ _ _ _ [[⟨b_p_c,[s1.v,(iV t_20.2.at_),(.int .u64 t_20.2.seed.v)],76⟩],q22,q5]:=hS.sel [1,0,2] (by decide)
    have hS23 : St _ _ _ _ ([[⟨b_p_c,[s1.v,(iV t_20.2.at_),(.int .u64 t_20.2.seed.v)],76⟩]]++[q22,q5]):=hS
    obtain ⟨m23,hl23,hE23,hz23⟩:=hS23.lendX
    obtain ⟨t_24,ht_24,hj3⟩:=bindS hj3
    refine q_do rfl fun _ hK=>wp_callX (vs:=[(.pointer (some ⟨b_p_c,0,none⟩)),s22.v]) hF Tryd.func60 (by kernel_rfl) rfl rfl rfl (c_spec_l1Cur_among t_20.2 ([-1,2,8] : List Int) t_24 ht_24 _ m23 b_p_c s1 (h21.mono hl23) s22 (h22.froz hl23 (hz23 0 _ rfl)) _ hE23) fun a w _ hR hF=>hK _ _ ?_
    obtain ⟨rfl,hR23,hk25⟩:=hR
    have hS : St _ _ _ _ [[⟨b_p_c,[s1.v,(iV t_24.2.at_),(.int .u64 t_24.2.seed.v)],76⟩],q22,q5]:=hS23.leaveF hR23
    have h25 : Rd m s1 t_24.2.code:=by rw [hk25]; exact h21
    obtain ⟨e_26,he_26,hj3⟩:=bindS hj3
    obtain ⟨vs27,at27,d27⟩:=h5.at he_26 1 rfl
    obtain rfl : vs27 = [(iV e_26)]:=d27
    refine q_x (v:=(elP s5 (t_20.1.toNat * 1))) hF hS (ex_indexAddr Tryd.underlying42 sz3 rfl rfl (h5.idx he_26)) rfl rfl fun a hF=>?_
    have hS : St _ _ _ _ [q5,[⟨b_p_c,[s1.v,(iV t_24.2.at_),(.int .u64 t_24.2.seed.v)],76⟩],q22]:=hS.sel [2,0,1] (by decide)
    refine q_do rfl fun _ hK=>wp_storeE (e':=t_24.1) (us:=[(iV t_24.1)]) (vs:=[(iV e_26)]) 0 hF hS h5 sz3 rfl rfl rfl rfl rfl rfl rfl he_26 at27 rfl rfl rfl fun w q28 hS h28=>hK _ _ (q_end (n_jn ?_))
    obtain rfl:=someI hj3
    exact ⟨q28,_,_,rfl,hF.sub ⟨rfl,trivial⟩,hS.mask [true,true,false],h28,h25,(hk25.trans (hk21.trans h12k))⟩
  ·rintro a w ⟨q30,out_29,p_c_31,rfl,hF,hS,h30,h32,h32k⟩
   refine n_ib (n_sq ?_)
   refine q_seq (q_region (q_x (v:=s5.v) hF hS (ex_move rfl) rfl rfl fun a hF=>q_x (v:=s5.v) hF hS (ex_assign rfl) rfl rfl fun a hF=>q_end (n_sq (q_ret ?_))))
   obtain rfl:=someI hr
   exact ret_ofX hF hS rfl (.tmp rfl .nil) ⟨q30,s5,rfl,hS.sel [1,0] (by decide),h30,h32k⟩

theorem c_spec_DrawGroupValues (p_code : List (K .u8)) (r : (List impl_Variable) × impl_Grouping × (List Int)) (hr : spec_DrawGroupValues p_code = some r) (w0 : World) (m : Mem) (hv : Vis m w0) (s1 : Sl) (h1 : Rd m s1 p_code) :
  Ret Tryd.prog 22 [s1.v] w0 (fun v w=>∃ (q0' : Piece) (q1' : Piece) (q2' : Piece) (s0' : Sl) (s1' : Sl) (s2' : Sl),v = (.tuple #[s0'.v,(.agg #[(iV r.2.1.Var),s1'.v]),s2'.v])∧St [] w0 w m [q0',q1',q2']∧OwnL m 101 q0' s0' r.1∧OwnL m 3 q1' s1' r.2.1.Groups∧OwnL m 3 q2' s2' r.2.2):=by
 unfold spec_DrawGroupValues at hr
 refine ret_start Tryd.func22 rfl 19 rfl rfl m hv fun a hF hS=>q_seq (q_region (q_x (v:=nilS.v) hF hS (ex_assign rfl) rfl rfl fun a hF=>q_alloc (cs:=[(iV 0),nilS.v]) hF hS rfl rfl rfl fun a w b2 hF hS=>q_x (v:=nilS.v) hF hS (ex_assign rfl) rfl rfl fun a hF=>q_end (n_sq (q_seq (q_region (q_x (v:=s1.v) hF hS (ex_move rfl) rfl rfl fun a hF=>q_x (v:=(.agg #[s1.v,(iV 0),(.int .u64 0)])) hF hS (ex_build (cells:=[s1.v,(iV 0),(.int .u64 0)]) rfl (by kernel_rfl)) rfl rfl fun a hF=>q_box (cs:=[s1.v,(iV 0),(.int .u64 0)]) hF hS rfl rfl rfl fun a w b3 hF hS=>q_x (v:=(.pointer (some ⟨b3,0,none⟩))) hF hS (ex_assign rfl) rfl rfl fun a hF=>q_end (n_sq (q_seq (q_region (q_x (v:=(.pointer (some ⟨b3,0,none⟩))) hF hS (ex_move rfl) rfl rfl fun a hF=>?_))))))))))
 have hS4 : St _ _ _ _ ([[⟨b3,[s1.v,(iV 0),(.int .u64 0)],76⟩]]++[[⟨b2,[(iV 0),nilS.v],46⟩]]):=hS
 have hE4:=hS4.enter
 obtain ⟨t_5,ht_5,hr⟩:=bindS hr
 refine q_do rfl fun _ hK=>wp_callX (vs:=[(.pointer (some ⟨b3,0,none⟩))]) hF Tryd.func70 (by kernel_rfl) rfl rfl rfl (c_spec_l1Cur_anySchema (spec_l1Cur.mk p_code 0 (⟨0⟩ : K .u64)) t_5 ht_5 _ m b3 s1 h1 _ hE4) fun a w _ hR hF=>hK _ _ ?_
 obtain ⟨q6,s6,rfl,hR4,h6,hk7⟩:=hR
 have hS : St _ _ _ _ [[⟨b3,[s1.v,(iV t_5.2.at_),(.int .u64 t_5.2.seed.v)],76⟩],q6,[⟨b2,[(iV 0),nilS.v],46⟩]]:=hS4.leaveF hR4
 have h7 : Rd m s1 t_5.2.code:=by rw [hk7]; exact h1
 refine q_x (v:=s6.v) hF hS (ex_assign rfl) rfl rfl fun a hF=>q_end (n_sq (q_seq (q_region (q_x (v:=s6.v) hF hS (ex_move rfl) rfl rfl fun a hF=>q_x (v:=(.pointer (some ⟨b3,0,none⟩))) hF hS (ex_move rfl) rfl rfl fun a hF=>q_x (v:=s6.v) hF hS (ex_move rfl) rfl rfl fun a hF=>?_))))
 have hS8 : St _ _ _ _ ([[⟨b3,[s1.v,(iV t_5.2.at_),(.int .u64 t_5.2.seed.v)],76⟩]]++[q6,[⟨b2,[(iV 0),nilS.v],46⟩]]):=hS
 obtain ⟨m8,hl8,hE8,hz8⟩:=hS8.lendX
 obtain ⟨t_9,ht_9,hr⟩:=bindS hr
 refine q_do rfl fun _ hK=>wp_callX (vs:=[(.pointer (some ⟨b3,0,none⟩)),s6.v]) hF Tryd.func77 (by kernel_rfl) rfl rfl rfl (c_spec_l1Cur_grouping t_5.2 t_5.1 t_9 ht_9 _ m8 b3 s1 (h7.mono hl8) s6 (h6.froz hl8 (hz8 0 _ rfl)) _ hE8) fun a w _ hR hF=>hK _ _ ?_
 obtain ⟨q10,s10,rfl,hR8,h10,hk11⟩:=hR
 have hS : St _ _ _ _ [[⟨b3,[s1.v,(iV t_9.2.at_),(.int .u64 t_9.2.seed.v)],76⟩],q10,q6,[⟨b2,[(iV 0),nilS.v],46⟩]]:=hS8.leaveF hR8
 have h10:=h10.any m
 have h11 : Rd m s1 t_9.2.code:=by rw [hk11]; exact h7
 refine q_x (v:=(.pointer (some ⟨b3,0,none⟩))) hF hS (ex_move rfl) rfl rfl fun a hF=>q_x (v:=s6.v) hF hS (ex_move rfl) rfl rfl fun a hF=>?_
 have hS12 : St _ _ _ _ ([[⟨b3,[s1.v,(iV t_9.2.at_),(.int .u64 t_9.2.seed.v)],76⟩]]++[q10,q6,[⟨b2,[(iV 0),nilS.v],46⟩]]):=hS
 obtain ⟨m12,hl12,hE12,hz12⟩:=hS12.lendX
 obtain ⟨t_13,ht_13,hr⟩:=bindS hr
 refine q_do rfl fun _ hK=>wp_callX (vs:=[(.pointer (some ⟨b3,0,none⟩)),s6.v]) hF Tryd.func78 (by kernel_rfl) rfl rfl rfl (c_spec_l1Cur_anyValues t_9.2 t_5.1 t_13 ht_13 _ m12 b3 s1 (h11.mono hl12) s6 (h6.froz hl12 (hz12 1 _ rfl)) _ hE12) fun a w _ hR hF=>hK _ _ ?_
 obtain ⟨q14,s14,rfl,hR12,h14,hk15⟩:=hR
 have hS : St _ _ _ _ [[⟨b3,[s1.v,(iV t_13.2.at_),(.int .u64 t_13.2.seed.v)],76⟩],q14,q10,q6,[⟨b2,[(iV 0),nilS.v],46⟩]]:=hS12.leaveF hR12
 have h14:=h14.any m
 have h15 : Rd m s1 t_13.2.code:=by rw [hk15]; exact h11
 refine q_x (v:=s6.v) hF hS (ex_assign rfl) rfl rfl fun a hF=>q_store (vs:=[(iV t_9.1.Var),s10.v]) (cs':=[(iV t_9.1.Var),s10.v]) 4 0 hF hS sz46 rfl rfl rfl rfl rfl rfl rfl rfl fun a w hF hS=>q_x (v:=s14.v) hF hS (ex_assign rfl) rfl rfl fun a hF=>q_end (n_sq (q_ret ?_))
 obtain rfl:=someI hr
 exact ret_of hF hS rfl (.tmp rfl (.cellA (us:=[(iV t_9.1.Var),s10.v]) 4 0 Tryd.underlying46 rfl sz46 rfl rfl rfl rfl (.tmp rfl .nil))) ⟨q6,q10,q14,s6,s10,s14,rfl,hS.sel [3,2,1] (by decide),h6,h10,h14⟩

theorem c_impl_groupCount (p_s : List impl_Variable) (p_g : impl_Grouping) (r : Int) (hr : impl_groupCount p_s p_g = some r) (w0 : World) (m : Mem) (hv : Vis m w0) (s1 : Sl) (h1 : Rd m s1 p_s) (s2 : Sl) (h2 : Rd m s2 p_g.Groups) :
  Ret Tryd.prog 79 [s1.v,(.agg #[(iV p_g.Var),s2.v])] w0 (fun v _=>v = (iV r)):=by
 unfold impl_groupCount at hr
 refine ret_start Tryd.func79 rfl 66 rfl rfl m hv fun a hF hS=>q_seq (q_region (q_box (cs:=[(iV p_g.Var),s2.v]) hF hS rfl rfl rfl fun a w b3 hF hS=>q_x (v:=(iV 0)) hF hS (ex_assign rfl) rfl rfl fun a hF=>q_end (n_sq (q_seq (q_seq ?_)))))
 obtain ⟨t_6,hj1,hr⟩:=bindS hr
 refine q_join (fun a w=>Fr a 66 [(3,(.pointer (some ⟨b3,0,none⟩))),(32,(.bool t_6))]∧St [] w0 w m [[⟨b3,[(iV p_g.Var),s2.v],46⟩]]) ?_ ?_
 ·refine e_region ⟨[],[]⟩ mixed fun w' hw'=>?_
  have hS:=hS.below hw'
  refine e_p (v:=(.pointer (some ⟨b3,0,none⟩))) 0 hF rfl (ex_fieldAddr Tryd.underlying46 rfl sz3 rfl rfl) rfl rfl (by kernel_rfl) (by kernel_rfl) (by kernel_rfl) fun a hF=>e_x (v:=(iV p_g.Var)) 1 hF hS rfl (ex_load1 0 0 Tryd.underlying3 rfl rfl rfl rfl) rfl rfl (by kernel_rfl) (by kernel_rfl) (by kernel_rfl) (by kernel_rfl) fun a hF=>e_p (v:=(.bool (decide (p_g.Var < 0)))) 2 hF rfl (ex_ibin rfl rfl rfl) rfl rfl (by kernel_rfl) (by kernel_rfl) (by kernel_rfl) fun a hF=>e_p (v:=(.bool (decide (p_g.Var < 0)))) 3 hF rfl (ex_move rfl) rfl rfl (by kernel_rfl) (by kernel_rfl) (by kernel_rfl) fun a hF=>?_
  rcases bcase (decide (p_g.Var < 0)) with hc2 | hc2
  ·have hj1:=cond_f hc2 hj1
   refine e_pg (v:=(.pointer (some ⟨b3,0,none⟩))) 4 hF rfl (ex_fieldAddr Tryd.underlying46 rfl sz3 rfl rfl) (wanted_t hF rfl rfl rfl hc2) rfl (by kernel_rfl) (by kernel_rfl) (by kernel_rfl) fun a hF=>e_xg (v:=(iV p_g.Var)) 5 hF hS rfl (ex_load1 0 0 Tryd.underlying3 rfl rfl rfl rfl) (wanted_t hF rfl rfl rfl hc2) rfl (by kernel_rfl) (by kernel_rfl) (by kernel_rfl) (by kernel_rfl) fun a hF=>e_pg (v:=s1.v) 6 hF rfl (ex_move rfl) (wanted_t hF rfl rfl rfl hc2) rfl (by kernel_rfl) (by kernel_rfl) (by kernel_rfl) fun a hF=>e_pg (v:=(iV (goLen p_s))) 7 hF rfl (ex_len Tryd.underlying39 rfl h1.len) (wanted_t hF rfl rfl rfl hc2) rfl (by kernel_rfl) (by kernel_rfl) (by kernel_rfl) fun a hF=>e_pg (v:=(.bool (decide ((goLen p_s) ≤ p_g.Var)))) 8 hF rfl (ex_ibin rfl rfl rfl) (wanted_t hF rfl rfl rfl hc2) rfl (by kernel_rfl) (by kernel_rfl) (by kernel_rfl) fun a hF=>e_p (v:=(.bool (decide ((goLen p_s) ≤ p_g.Var)))) 9 hF rfl (ex_pick_f rfl rfl hc2) rfl rfl (by kernel_rfl) (by kernel_rfl) (by kernel_rfl) fun a hF=>e_p (v:=(.bool (decide ((goLen p_s) ≤ p_g.Var)))) 10 hF rfl (ex_move rfl) rfl rfl (by kernel_rfl) (by kernel_rfl) (by kernel_rfl) fun a hF=>?_
   rcases bcase (decide ((goLen p_s) ≤ p_g.Var)) with hc3 | hc3
   ·have hj1:=cond_f hc3 hj1
    refine e_pg (v:=(.pointer (some ⟨b3,1,none⟩))) 11 hF rfl (ex_fieldAddr Tryd.underlying46 rfl sz42 rfl rfl) (wanted_t hF rfl rfl rfl hc3) rfl (by kernel_rfl) (by kernel_rfl) (by kernel_rfl) fun a hF=>e_xg (v:=s2.v) 12 hF hS rfl (ex_load1 0 0 Tryd.underlying42 rfl rfl rfl rfl) (wanted_t hF rfl rfl rfl hc3) rfl (by kernel_rfl) (by kernel_rfl) (by kernel_rfl) (by kernel_rfl) fun a hF=>e_pg (v:=(iV (goLen p_g.Groups))) 13 hF rfl (ex_len Tryd.underlying42 rfl h2.len) (wanted_t hF rfl rfl rfl hc3) rfl (by kernel_rfl) (by kernel_rfl) (by kernel_rfl) fun a hF=>e_pg (v:=s1.v) 14 hF rfl (ex_move rfl) (wanted_t hF rfl rfl rfl hc3) rfl (by kernel_rfl) (by kernel_rfl) (by kernel_rfl) fun a hF=>e_pg (v:=(.pointer (some ⟨b3,0,none⟩))) 15 hF rfl (ex_fieldAddr Tryd.underlying46 rfl sz3 rfl rfl) (wanted_t hF rfl rfl rfl hc3) rfl (by kernel_rfl) (by kernel_rfl) (by kernel_rfl) fun a hF=>e_xg (v:=(iV p_g.Var)) 16 hF hS rfl (ex_load1 0 0 Tryd.underlying3 rfl rfl rfl rfl) (wanted_t hF rfl rfl rfl hc3) rfl (by kernel_rfl) (by kernel_rfl) (by kernel_rfl) (by kernel_rfl) fun a hF=>?_
    obtain ⟨e_4,he_4,hj1⟩:=bindS hj1
    obtain ⟨vs5,at5,d5⟩:=h1.at he_4 2 rfl
    obtain rfl : vs5 = [(strV e_4.Name),(iV e_4.Levels)]:=d5
    refine e_pg (v:=(elP s1 (p_g.Var.toNat * 2))) 17 hF rfl (ex_indexAddr Tryd.underlying39 sz101 rfl rfl (h1.idx he_4)) (wanted_t hF rfl rfl rfl hc3) rfl (by kernel_rfl) (by kernel_rfl) (by kernel_rfl) fun a hF=>e_pg (v:=(elP s1 (p_g.Var.toNat * 2 + 1))) 18 hF rfl (ex_fieldAddrE Tryd.underlying101 rfl sz3 rfl (h1.idx he_4) rfl) (wanted_t hF rfl rfl rfl hc3) rfl (by kernel_rfl) (by kernel_rfl) (by kernel_rfl) fun a hF=>e_xg (v:=(iV e_4.Levels)) 19 hF hS rfl (ex_loadE1 1 Tryd.underlying3 rfl rfl ((at5).at) rfl rfl) (wanted_t hF rfl rfl rfl hc3) rfl (by kernel_rfl) (by kernel_rfl) (by kernel_rfl) (by kernel_rfl) fun a hF=>e_pg (v:=(.bool ((goLen p_g.Groups) != e_4.Levels))) 20 hF rfl (ex_ibin rfl rfl rfl) (wanted_t hF rfl rfl rfl hc3) rfl (by kernel_rfl) (by kernel_rfl) (by kernel_rfl) fun a hF=>e_p (v:=(.bool ((goLen p_g.Groups) != e_4.Levels))) 21 hF rfl (ex_pick_f rfl rfl hc3) rfl rfl (by kernel_rfl) (by kernel_rfl) (by kernel_rfl) fun a hF=>e_end (by kernel_rfl) (n_jn ?_) _
    obtain rfl:=someI hj1
    exact ⟨hF.sub ⟨rfl,rfl,trivial⟩,hS⟩
   ·have hj1:=cond_t hc3 hj1
    refine e_skipP 11 hF rfl (wanted_f hF rfl rfl rfl hc3 rfl) rfl (by kernel_rfl) (by kernel_rfl) (by kernel_rfl) fun a hF=>e_skipP 12 hF rfl (wanted_f hF rfl rfl rfl hc3 rfl) rfl (by kernel_rfl) (by kernel_rfl) (by kernel_rfl) fun a hF=>e_skipP 13 hF rfl (wanted_f hF rfl rfl rfl hc3 rfl) rfl (by kernel_rfl) (by kernel_rfl) (by kernel_rfl) fun a hF=>e_skipP 14 hF rfl (wanted_f hF rfl rfl rfl hc3 rfl) rfl (by kernel_rfl) (by kernel_rfl) (by kernel_rfl) fun a hF=>e_skipP 15 hF rfl (wanted_f hF rfl rfl rfl hc3 rfl) rfl (by kernel_rfl) (by kernel_rfl) (by kernel_rfl) fun a hF=>e_skipP 16 hF rfl (wanted_f hF rfl rfl rfl hc3 rfl) rfl (by kernel_rfl) (by kernel_rfl) (by kernel_rfl) fun a hF=>e_skipP 17 hF rfl (wanted_f hF rfl rfl rfl hc3 rfl) rfl (by kernel_rfl) (by kernel_rfl) (by kernel_rfl) fun a hF=>e_skipP 18 hF rfl (wanted_f hF rfl rfl rfl hc3 rfl) rfl (by kernel_rfl) (by kernel_rfl) (by kernel_rfl) fun a hF=>e_skipP 19 hF rfl (wanted_f hF rfl rfl rfl hc3 rfl) rfl (by kernel_rfl) (by kernel_rfl) (by kernel_rfl) fun a hF=>e_skipP 20 hF rfl (wanted_f hF rfl rfl rfl hc3 rfl) rfl (by kernel_rfl) (by kernel_rfl) (by kernel_rfl) fun a hF=>e_p (v:=(.bool true)) 21 hF rfl (ex_pick_t rfl rfl hc3) rfl rfl (by kernel_rfl) (by kernel_rfl) (by kernel_rfl) fun a hF=>e_end (by kernel_rfl) (n_jn ?_) _
    obtain rfl:=someI hj1
    exact ⟨hF.sub ⟨rfl,rfl,trivial⟩,hS⟩
  ·have hj1:=cond_t hc2 hj1
   refine e_skipP 4 hF rfl (wanted_f hF rfl rfl rfl hc2 rfl) rfl (by kernel_rfl) (by kernel_rfl) (by kernel_rfl) fun a hF=>e_skipP 5 hF rfl (wanted_f hF rfl rfl rfl hc2 rfl) rfl (by kernel_rfl) (by kernel_rfl) (by kernel_rfl) fun a hF=>e_skipP 6 hF rfl (wanted_f hF rfl rfl rfl hc2 rfl) rfl (by kernel_rfl) (by kernel_rfl) (by kernel_rfl) fun a hF=>e_skipP 7 hF rfl (wanted_f hF rfl rfl rfl hc2 rfl) rfl (by kernel_rfl) (by kernel_rfl) (by kernel_rfl) fun a hF=>e_skipP 8 hF rfl (wanted_f hF rfl rfl rfl hc2 rfl) rfl (by kernel_rfl) (by kernel_rfl) (by kernel_rfl) fun a hF=>e_p (v:=(.bool true)) 9 hF rfl (ex_pick_t rfl rfl hc2) rfl rfl (by kernel_rfl) (by kernel_rfl) (by kernel_rfl) fun a hF=>e_p (v:=(.bool true)) 10 hF rfl (ex_move rfl) rfl rfl (by kernel_rfl) (by kernel_rfl) (by kernel_rfl) fun a hF=>e_skipP 11 hF rfl (wanted_f hF rfl rfl rfl rfl rfl) rfl (by kernel_rfl) (by kernel_rfl) (by kernel_rfl) fun a hF=>e_skipP 12 hF rfl (wanted_f hF rfl rfl rfl rfl rfl) rfl (by kernel_rfl) (by kernel_rfl) (by kernel_rfl) fun a hF=>e_skipP 13 hF rfl (wanted_f hF rfl rfl rfl rfl rfl) rfl (by kernel_rfl) (by kernel_rfl) (by kernel_rfl) fun a hF=>e_skipP 14 hF rfl (wanted_f hF rfl rfl rfl rfl rfl) rfl (by kernel_rfl) (by kernel_rfl) (by kernel_rfl) fun a hF=>e_skipP 15 hF rfl (wanted_f hF rfl rfl rfl rfl rfl) rfl (by kernel_rfl) (by kernel_rfl) (by kernel_rfl) fun a hF=>e_skipP 16 hF rfl (wanted_f hF rfl rfl rfl rfl rfl) rfl (by kernel_rfl) (by kernel_rfl) (by kernel_rfl) fun a hF=>e_skipP 17 hF rfl (wanted_f hF rfl rfl rfl rfl rfl) rfl (by kernel_rfl) (by kernel_rfl) (by kernel_rfl) fun a hF=>e_skipP 18 hF rfl (wanted_f hF rfl rfl rfl rfl rfl) rfl (by kernel_rfl) (by kernel_rfl) (by kernel_rfl) fun a hF=>e_skipP 19 hF rfl (wanted_f hF rfl rfl rfl rfl rfl) rfl (by kernel_rfl) (by kernel_rfl) (by kernel_rfl) fun a hF=>e_skipP 20 hF rfl (wanted_f hF rfl rfl rfl rfl rfl) rfl (by kernel_rfl) (by kernel_rfl) (by kernel_rfl) fun a hF=>e_p (v:=(.bool true)) 21 hF rfl (ex_pick_t rfl rfl rfl) rfl rfl (by kernel_rfl) (by kernel_rfl) (by kernel_rfl) fun a hF=>e_end (by kernel_rfl) (n_jn ?_) _
   obtain rfl:=someI hj1
   exact ⟨hF.sub ⟨rfl,rfl,trivial⟩,hS⟩
 ·rintro a w ⟨hF,hS⟩
  refine n_sq ?_
  rcases bcase (t_6) with hc4 | hc4
  ·have hr:=cond_f hc4 hr
   refine q_cond_f hF rfl hc4 (q_skipc (n_sq (q_seq (q_region (q_alloc (cs:=[(.bool false),(.bool false),(.bool false),(.bool false),(.bool false),(.bool false),(.bool false),(.bool false)]) hF hS rfl rfl rfl fun a w b7 hF hS=>q_end (n_sq (q_seq (q_region (q_x (v:=(iV 0)) hF hS (ex_assign rfl) rfl rfl fun a hF=>q_end (n_sq (q_seq (q_seq (q_region (q_x (v:=(.pointer (some ⟨b3,1,none⟩))) hF hS (ex_fieldAddr Tryd.underlying46 rfl sz42 rfl rfl) rfl rfl fun a hF=>q_x (v:=s2.v) hF hS (ex_load1 1 0 Tryd.underlying42 rfl rfl rfl rfl) rfl rfl fun a hF=>q_x (v:=(iV (goLen p_g.Groups))) hF hS (ex_len Tryd.underlying42 rfl h2.len) rfl rfl fun a hF=>q_x (v:=(iV 0)) hF hS (ex_move rfl) rfl rfl fun a hF=>q_end (n_sq (q_block ?_))))))))))))))))
   obtain ⟨o5,hl5,hr⟩:=bindS hr
   refine q_loop (fun (s : Int × Int × (Bool × Bool × Bool × Bool × Bool × Bool × Bool × Bool)) a w=>∃ k_8,∃ t_9,∃ used_10,s = (k_8,t_9,used_10)∧Fr a 66 [(5,(.pointer (some ⟨b7,0,none⟩))),(6,(iV k_8)),(34,s2.v),(35,(iV (goLen p_g.Groups))),(36,(iV t_9))]∧St [] w0 w m [[⟨b7,[(.bool used_10.1),(.bool used_10.2.1),(.bool used_10.2.2.1),(.bool used_10.2.2.2.1),(.bool used_10.2.2.2.2.1),(.bool used_10.2.2.2.2.2.1),(.bool used_10.2.2.2.2.2.2.1),(.bool used_10.2.2.2.2.2.2.2)],122⟩]]) (fun (o : (Int × (Bool × Bool × Bool × Bool × Bool × Bool × Bool × Bool)) ⊕ (Int)) e a w=>∃ k_16,∃ used_17,o = .inl (k_16,used_17)∧e = .exit 0∧Fr a 66 [(5,(.pointer (some ⟨b7,0,none⟩))),(6,(iV k_16))]∧St [] w0 w m [[⟨b7,[(.bool used_17.1),(.bool used_17.2.1),(.bool used_17.2.2.1),(.bool used_17.2.2.2.1),(.bool used_17.2.2.2.2.1),(.bool used_17.2.2.2.2.2.1),(.bool used_17.2.2.2.2.2.2.1),(.bool used_17.2.2.2.2.2.2.2)],122⟩]]) hl5 ⟨_,_,_,rfl,hF.sub ⟨rfl,rfl,rfl,rfl,rfl,trivial⟩,hS.mask [true,false]⟩ ?_ ?_
   ·clear hF hS
    rintro s a w st ⟨k_8,t_9,used_10,rfl,hF,hS⟩ hb5
    unfold impl_groupCount_l1 at hb5
    refine q_seq (q_region (q_x (v:=(.bool (decide (t_9 < (goLen p_g.Groups))))) hF hS (ex_ibin rfl rfl rfl) rfl rfl fun a hF=>q_end (n_sq (q_seq ?_))))
    rcases bcase (decide (t_9 < (goLen p_g.Groups))) with hc6 | hc6
    ·have hb5:=cond_f hc6 hb5
     refine q_cond_f hF rfl hc6 (q_exit (x_sq ?_))
     obtain rfl:=someI hb5
     exact ⟨nofun,.inl ⟨_,_,rfl,rfl,hF.sub ⟨rfl,rfl,trivial⟩,hS⟩⟩
    ·have hb5:=cond_t hc6 hb5
     refine q_cond_t hF rfl hc6 (q_skipc (n_sq (q_seq (q_block (q_seq (q_region ?_))))))
     obtain ⟨e_11,he_11,hb5⟩:=bindS hb5
     obtain ⟨vs12,at12,d12⟩:=h2.at he_11 1 rfl
     obtain rfl : vs12 = [(iV e_11)]:=d12
     refine q_x (v:=(elP s2 (t_9.toNat * 1))) hF hS (ex_indexAddr Tryd.underlying42 sz3 rfl rfl (h2.idx he_11)) rfl rfl fun a hF=>q_x (v:=(iV e_11)) hF hS (ex_loadE1 0 Tryd.underlying3 rfl rfl ((at12).at) rfl rfl) rfl rfl fun a hF=>q_x (v:=(iV e_11)) hF hS (ex_assign rfl) rfl rfl fun a hF=>q_end (n_sq (q_seq (q_seq ?_)))
     obtain ⟨t_13,hj7,hb5⟩:=bindS hb5
     refine q_join (fun a w=>Fr a 66 [(5,(.pointer (some ⟨b7,0,none⟩))),(6,(iV k_8)),(8,(iV e_11)),(34,s2.v),(35,(iV (goLen p_g.Groups))),(36,(iV t_9)),(45,(.bool t_13))]∧St [] w0 w m [[⟨b7,[(.bool used_10.1),(.bool used_10.2.1),(.bool used_10.2.2.1),(.bool used_10.2.2.2.1),(.bool used_10.2.2.2.2.1),(.bool used_10.2.2.2.2.2.1),(.bool used_10.2.2.2.2.2.2.1),(.bool used_10.2.2.2.2.2.2.2)],122⟩]]) ?_ ?_
     ·refine q_region (q_x (v:=(iV e_11)) hF hS (ex_move rfl) rfl rfl fun a hF=>q_x (v:=(.bool (decide (e_11 < 0)))) hF hS (ex_ibin rfl rfl rfl) rfl rfl fun a hF=>q_x (v:=(.bool (decide (e_11 < 0)))) hF hS (ex_move rfl) rfl rfl fun a hF=>?_)
      rcases bcase (decide (e_11 < 0)) with hc8 | hc8
      ·have hj7:=cond_f hc8 hj7
       refine q_xg (v:=(iV e_11)) hF hS (ex_move rfl) (wanted_t hF rfl rfl rfl hc8) rfl fun a hF=>q_xg (v:=(.bool (decide (8 ≤ e_11)))) hF hS (ex_ibin rfl rfl rfl) (wanted_t hF rfl rfl rfl hc8) rfl fun a hF=>q_x (v:=(.bool (decide (8 ≤ e_11)))) hF hS (ex_pick_f rfl rfl hc8) rfl rfl fun a hF=>q_end (n_jn ?_)
       obtain rfl:=someI hj7
       exact ⟨hF.sub ⟨rfl,rfl,rfl,rfl,rfl,rfl,rfl,trivial⟩,hS⟩
      ·have hj7:=cond_t hc8 hj7
       refine q_skip hF (wanted_f hF rfl rfl rfl hc8 rfl) rfl fun a hF=>q_skip hF (wanted_f hF rfl rfl rfl hc8 rfl) rfl fun a hF=>q_x (v:=(.bool true)) hF hS (ex_pick_t rfl rfl hc8) rfl rfl fun a hF=>q_end (n_jn ?_)
       obtain rfl:=someI hj7
       exact ⟨hF.sub ⟨rfl,rfl,rfl,rfl,rfl,rfl,rfl,trivial⟩,hS⟩
     ·rintro a w ⟨hF,hS⟩
      refine n_sq ?_
      rcases bcase (t_13) with hc9 | hc9
      ·have hb5:=cond_f hc9 hb5
       refine q_cond_f hF rfl hc9 (q_skipc (n_sq (q_seq (q_region (q_x (v:=(iV e_11)) hF hS (ex_move rfl) rfl rfl fun a hF=>?_)))))
       obtain ⟨u_14,hu_14,hb5⟩:=bindS hb5
       refine q_x (v:=(.pointer (some ⟨b7,e_11.toNat,none⟩))) hF hS (ex_indexAddrD Tryd.underlying122 sz4 rfl rfl hu_14) rfl rfl fun a hF=>?_
       obtain ⟨l_15,hl_15,hb5⟩:=bindS hb5
       refine q_store (vs:=[(.bool true)]) (cs':=[(.bool (l_15.getD 0 (false : Bool))),(.bool (l_15.getD 1 (false : Bool))),(.bool (l_15.getD 2 (false : Bool))),(.bool (l_15.getD 3 (false : Bool))),(.bool (l_15.getD 4 (false : Bool))),(.bool (l_15.getD 5 (false : Bool))),(.bool (l_15.getD 6 (false : Bool))),(.bool (l_15.getD 7 (false : Bool)))]) 0 0 hF hS sz4 rfl rfl rfl rfl rfl rfl (goIx_ble hu_14) (goSet_cs (enc:=fun (e : Bool)=>(.bool e)) (false : Bool) hu_14 rfl hl_15) fun a w hF hS=>q_end (n_sq (q_region (q_x (v:=(iV k_8)) hF hS (ex_move rfl) rfl rfl fun a hF=>q_x (v:=(iV e_11)) hF hS (ex_move rfl) rfl rfl fun a hF=>q_x (v:=(iV (w64 (e_11 + 1)))) hF hS (ex_ibin rfl rfl rfl) rfl rfl fun a hF=>q_x (v:=(iV (max k_8 (w64 (e_11 + 1))))) hF hS (ex_max rfl rfl) rfl rfl fun a hF=>q_x (v:=(iV (max k_8 (w64 (e_11 + 1))))) hF hS (ex_assign rfl) rfl rfl fun a hF=>q_end (n_ib (n_sq (q_region (q_x (v:=(iV (w64 (t_9 + 1)))) hF hS (ex_ibin rfl rfl rfl) rfl rfl fun a hF=>q_x (v:=(iV (w64 (t_9 + 1)))) hF hS (ex_move rfl) rfl rfl fun a hF=>q_end ?_)))))))
       obtain rfl:=someI hb5
       exact ⟨rfl,_,_,_,rfl,hF.sub ⟨rfl,rfl,rfl,rfl,rfl,trivial⟩,hS⟩
      ·have hb5:=cond_t hc9 hb5
       refine q_cond_t hF rfl hc9 (q_seq (q_region (q_x (v:=(iV 0)) hF hS (ex_assign rfl) rfl rfl fun a hF=>q_end (n_sq (q_ret (r_sq (r_ib (r_sq ?_))))))))
       obtain rfl:=someI hb5
       refine ⟨nofun,.inr fun ho=>?_⟩
       subst ho
       refine r_ib (r_sq ?_)
       obtain rfl:=someI hr
       exact ret_of hF hS rfl (.tmp rfl .nil) rfl
   ·rintro e a w ⟨k_16,used_17,rfl,rfl,hF,hS⟩
    refine x_ib (n_sq ?_)
    refine q_seq (q_seq (q_region (q_x (v:=(iV k_16)) hF hS (ex_move rfl) rfl rfl fun a hF=>?_)))
    obtain ⟨m18,hm18,hS,hz18⟩:=hS.freeze
    obtain ⟨l_19,hl_19,hr⟩:=bindS hr
    have h18 : Rd m18 (⟨some ⟨b7,0,none⟩,k_16.toNat,8⟩ : Sl) l_19:=rd_arr (enc:=fun (e : Bool)=>(.bool e)) (l:=([used_17.1,used_17.2.1,used_17.2.2.1,used_17.2.2.2.1,used_17.2.2.2.2.1,used_17.2.2.2.2.2.1,used_17.2.2.2.2.2.2.1,used_17.2.2.2.2.2.2.2] : List Bool)) rfl (fun _=>rfl) (hz18 _ (List.mem_singleton.2 rfl)) rfl (by decide) hl_19
    refine q_x (v:=(⟨some ⟨b7,0,none⟩,k_16.toNat,8⟩ : Sl).v) hF hS (ex_sliceA Tryd.underlying122 sz4 rfl rfl rfl hl_19) rfl rfl fun a hF=>q_x (v:=(iV (goLen l_19))) hF hS (ex_len Tryd.underlying123 rfl h18.len) rfl rfl fun a hF=>q_x (v:=(iV 0)) hF hS (ex_move rfl) rfl rfl fun a hF=>q_end (n_sq (q_block ?_))
    obtain ⟨o10,hl10,hr⟩:=bindS hr
    refine q_loop (fun (t_20 : Int) a w=>Fr a 66 [(6,(iV k_16)),(54,(⟨some ⟨b7,0,none⟩,k_16.toNat,8⟩ : Sl).v),(55,(iV (goLen l_19))),(56,(iV t_20))]∧St [] w0 w m18 []) (fun (o : (Unit) ⊕ (Int)) e a w=>o = .inl ()∧e = .exit 2∧Fr a 66 [(6,(iV k_16))]∧St [] w0 w m18 []) hl10 ⟨hF.sub ⟨rfl,rfl,rfl,rfl,trivial⟩,hS⟩ ?_ ?_
    ·clear hF hS
     rintro t_20 a w st ⟨hF,hS⟩ hb10
     unfold impl_groupCount_l2 at hb10
     refine q_seq (q_region (q_x (v:=(.bool (decide (t_20 < (goLen l_19))))) hF hS (ex_ibin rfl rfl rfl) rfl rfl fun a hF=>q_end (n_sq (q_seq ?_))))
     rcases bcase (decide (t_20 < (goLen l_19))) with hc11 | hc11
     ·have hb10:=cond_f hc11 hb10
      refine q_cond_f hF rfl hc11 (q_exit (x_sq ?_))
      obtain rfl:=someI hb10
      exact ⟨nofun,.inl ⟨rfl,rfl,hF.sub ⟨rfl,trivial⟩,hS⟩⟩
     ·have hb10:=cond_t hc11 hb10
      refine q_cond_t hF rfl hc11 (q_skipc (n_sq (q_seq (q_block (q_seq (q_region ?_))))))
      obtain ⟨e_21,he_21,hb10⟩:=bindS hb10
      obtain ⟨vs22,at22,d22⟩:=h18.at he_21 1 rfl
      obtain rfl : vs22 = [(.bool e_21)]:=d22
      refine q_x (v:=(elP (⟨some ⟨b7,0,none⟩,k_16.toNat,8⟩ : Sl) (t_20.toNat * 1))) hF hS (ex_indexAddr Tryd.underlying123 sz4 rfl rfl (h18.idx he_21)) rfl rfl fun a hF=>q_x (v:=(.bool e_21)) hF hS (ex_loadE1 0 Tryd.underlying4 rfl rfl ((at22).at) rfl rfl) rfl rfl fun a hF=>q_x (v:=(.bool e_21)) hF hS (ex_assign rfl) rfl rfl fun a hF=>q_end (n_sq (q_seq (q_region (q_x (v:=(.bool e_21)) hF hS (ex_move rfl) rfl rfl fun a hF=>q_x (v:=(.bool (!e_21))) hF hS (ex_not rfl) rfl rfl fun a hF=>q_end (n_sq ?_)))))
      rcases bcase (!e_21) with hc12 | hc12
      ·have hb10:=cond_f hc12 hb10
       refine q_cond_f hF rfl hc12 (q_skipc (n_ib (n_sq (q_region (q_x (v:=(iV (w64 (t_20 + 1)))) hF hS (ex_ibin rfl rfl rfl) rfl rfl fun a hF=>q_x (v:=(iV (w64 (t_20 + 1)))) hF hS (ex_move rfl) rfl rfl fun a hF=>q_end ?_)))))
       obtain rfl:=someI hb10
       exact ⟨rfl,hF.sub ⟨rfl,rfl,rfl,rfl,trivial⟩,hS⟩
      ·have hb10:=cond_t hc12 hb10
       refine q_cond_t hF rfl hc12 (q_seq (q_region (q_x (v:=(iV 0)) hF hS (ex_assign rfl) rfl rfl fun a hF=>q_end (n_sq (q_ret (r_ib (r_sq ?_)))))))
       obtain rfl:=someI hb10
       refine ⟨nofun,.inr fun ho=>?_⟩
       subst ho
       refine r_ib (r_sq ?_)
       obtain rfl:=someI hr
       exact ret_of hF hS rfl (.tmp rfl .nil) rfl
    ·rintro e a w ⟨rfl,rfl,hF,hS⟩
     refine x_ib (n_sq ?_)
     refine q_seq (q_seq (q_region (q_x (v:=(iV k_16)) hF hS (ex_move rfl) rfl rfl fun a hF=>q_x (v:=(.bool (decide (k_16 < 2)))) hF hS (ex_ibin rfl rfl rfl) rfl rfl fun a hF=>q_end (n_sq ?_))))
     rcases bcase (decide (k_16 < 2)) with hc13 | hc13
     ·have hr:=cond_f hc13 hr
      refine q_cond_f hF rfl hc13 (q_skipc (n_sq (q_seq (q_region (q_x (v:=(iV k_16)) hF hS (ex_move rfl) rfl rfl fun a hF=>q_x (v:=(iV k_16)) hF hS (ex_assign rfl) rfl rfl fun a hF=>q_end (n_sq (q_ret ?_)))))))
      obtain rfl:=someI hr
      exact ret_of hF hS rfl (.tmp rfl .nil) rfl
     ·have hr:=cond_t hc13 hr
      refine q_cond_t hF rfl hc13 (q_seq (q_region (q_x (v:=(iV 0)) hF hS (ex_assign rfl) rfl rfl fun a hF=>q_end (n_sq (q_ret (r_sq ?_))))))
      obtain rfl:=someI hr
      exact ret_of hF hS rfl (.tmp rfl .nil) rfl
  ·have hr:=cond_t hc4 hr
   refine q_cond_t hF rfl hc4 (q_seq (q_region (q_x (v:=(iV 0)) hF hS (ex_assign rfl) rfl rfl fun a hF=>q_end (n_sq (q_ret (r_sq ?_))))))
   obtain rfl:=someI hr
   exact ret_of hF hS rfl (.tmp rfl .nil) rfl

theorem c_impl_areValues (p_s : List impl_Variable) (p_values : List Int) (r : Bool) (hr : impl_areValues p_s p_values = some r) (w0 : World) (m : Mem) (hv : Vis m w0) (s1 : Sl) (h1 : Rd m s1 p_s) (s2 : Sl) (h2 : Rd m s2 p_values) :
  Ret Tryd.prog 80 [s1.v,s2.v] w0 (fun v _=>v = (.bool r)):=by
 unfold impl_areValues at hr
 refine ret_start Tryd.func80 rfl 31 rfl rfl m hv fun a hF hS=>q_seq (q_region (q_x (v:=(.bool false)) hF hS (ex_assign rfl) rfl rfl fun a hF=>q_end (n_sq (q_seq (q_seq (q_region (q_x (v:=s2.v) hF hS (ex_move rfl) rfl rfl fun a hF=>q_x (v:=(iV (goLen p_values))) hF hS (ex_len Tryd.underlying42 rfl h2.len) rfl rfl fun a hF=>q_x (v:=s1.v) hF hS (ex_move rfl) rfl rfl fun a hF=>q_x (v:=(iV (goLen p_s))) hF hS (ex_len Tryd.underlying39 rfl h1.len) rfl rfl fun a hF=>q_x (v:=(.bool ((goLen p_values) != (goLen p_s)))) hF hS (ex_ibin rfl rfl rfl) rfl rfl fun a hF=>q_end (n_sq ?_))))))))
 rcases bcase ((goLen p_values) != (goLen p_s)) with hc1 | hc1
 ·have hr:=cond_f hc1 hr
  refine q_cond_f hF rfl hc1 (q_skipc (n_sq (q_seq (q_seq (q_region (q_x (v:=s2.v) hF hS (ex_move rfl) rfl rfl fun a hF=>q_x (v:=(iV (goLen p_values))) hF hS (ex_len Tryd.underlying42 rfl h2.len) rfl rfl fun a hF=>q_x (v:=(iV 0)) hF hS (ex_move rfl) rfl rfl fun a hF=>q_end (n_sq (q_block ?_))))))))
  obtain ⟨o2,hl2,hr⟩:=bindS hr
  refine q_loop (fun (t_3 : Int) a w=>Fr a 31 [(0,s1.v),(12,s2.v),(13,(iV (goLen p_values))),(14,(iV t_3))]∧St [] w0 w m []) (fun (o : (Unit) ⊕ (Bool)) e a w=>o = .inl ()∧e = .exit 0∧Fr a 31 []∧St [] w0 w m []) hl2 ⟨hF.sub ⟨rfl,rfl,rfl,rfl,trivial⟩,hS⟩ ?_ ?_
  ·clear hF hS
   rintro t_3 a w st ⟨hF,hS⟩ hb2
   unfold impl_areValues_l1 at hb2
   refine q_seq (q_region (q_x (v:=(.bool (decide (t_3 < (goLen p_values))))) hF hS (ex_ibin rfl rfl rfl) rfl rfl fun a hF=>q_end (n_sq (q_seq ?_))))
   rcases bcase (decide (t_3 < (goLen p_values))) with hc3 | hc3
   ·have hb2:=cond_f hc3 hb2
    refine q_cond_f hF rfl hc3 (q_exit (x_sq ?_))
    obtain rfl:=someI hb2
    exact ⟨nofun,.inl ⟨rfl,rfl,hF.sub trivial,hS⟩⟩
   ·have hb2:=cond_t hc3 hb2
    refine q_cond_t hF rfl hc3 (q_skipc (n_sq (q_seq (q_block (q_seq (q_region (q_x (v:=(iV t_3)) hF hS (ex_move rfl) rfl rfl fun a hF=>?_)))))))
    obtain ⟨e_4,he_4,hb2⟩:=bindS hb2
    obtain ⟨vs5,at5,d5⟩:=h2.at he_4 1 rfl
    obtain rfl : vs5 = [(iV e_4)]:=d5
    refine q_x (v:=(elP s2 (t_3.toNat * 1))) hF hS (ex_indexAddr Tryd.underlying42 sz3 rfl rfl (h2.idx he_4)) rfl rfl fun a hF=>q_x (v:=(iV e_4)) hF hS (ex_loadE1 0 Tryd.underlying3 rfl rfl ((at5).at) rfl rfl) rfl rfl fun a hF=>q_x (v:=(iV t_3)) hF hS (ex_assign rfl) rfl rfl fun a hF=>q_x (v:=(iV e_4)) hF hS (ex_assign rfl) rfl rfl fun a hF=>q_end (n_sq (q_seq ?_))
    obtain ⟨t_8,hj4,hb2⟩:=bindS hb2
    refine q_join (fun a w=>Fr a 31 [(0,s1.v),(12,s2.v),(13,(iV (goLen p_values))),(14,(iV t_3)),(29,(.bool t_8))]∧St [] w0 w m []) ?_ ?_
    ·refine q_region (q_x (v:=(iV e_4)) hF hS (ex_move rfl) rfl rfl fun a hF=>q_x (v:=(.bool (decide (e_4 < 0)))) hF hS (ex_ibin rfl rfl rfl) rfl rfl fun a hF=>q_x (v:=(.bool (decide (e_4 < 0)))) hF hS (ex_move rfl) rfl rfl fun a hF=>?_)
     rcases bcase (decide (e_4 < 0)) with hc5 | hc5
     ·have hj4:=cond_f hc5 hj4
      refine q_xg (v:=(iV e_4)) hF hS (ex_move rfl) (wanted_t hF rfl rfl rfl hc5) rfl fun a hF=>q_xg (v:=s1.v) hF hS (ex_move rfl) (wanted_t hF rfl rfl rfl hc5) rfl fun a hF=>q_xg (v:=(iV t_3)) hF hS (ex_move rfl) (wanted_t hF rfl rfl rfl hc5) rfl fun a hF=>?_
      obtain ⟨e_6,he_6,hj4⟩:=bindS hj4
      obtain ⟨vs7,at7,d7⟩:=h1.at he_6 2 rfl
      obtain rfl : vs7 = [(strV e_6.Name),(iV e_6.Levels)]:=d7
      refine q_xg (v:=(elP s1 (t_3.toNat * 2))) hF hS (ex_indexAddr Tryd.underlying39 sz101 rfl rfl (h1.idx he_6)) (wanted_t hF rfl rfl rfl hc5) rfl fun a hF=>q_xg (v:=(elP s1 (t_3.toNat * 2 + 1))) hF hS (ex_fieldAddrE Tryd.underlying101 rfl sz3 rfl (h1.idx he_6) rfl) (wanted_t hF rfl rfl rfl hc5) rfl fun a hF=>q_xg (v:=(iV e_6.Levels)) hF hS (ex_loadE1 1 Tryd.underlying3 rfl rfl ((at7).at) rfl rfl) (wanted_t hF rfl rfl rfl hc5) rfl fun a hF=>q_xg (v:=(.bool (decide (e_6.Levels ≤ e_4)))) hF hS (ex_ibin rfl rfl rfl) (wanted_t hF rfl rfl rfl hc5) rfl fun a hF=>q_x (v:=(.bool (decide (e_6.Levels ≤ e_4)))) hF hS (ex_pick_f rfl rfl hc5) rfl rfl fun a hF=>q_end (n_jn ?_)
      obtain rfl:=someI hj4
      exact ⟨hF.sub ⟨rfl,rfl,rfl,rfl,rfl,trivial⟩,hS⟩
     ·have hj4:=cond_t hc5 hj4
      refine q_skip hF (wanted_f hF rfl rfl rfl hc5 rfl) rfl fun a hF=>q_skip hF (wanted_f hF rfl rfl rfl hc5 rfl) rfl fun a hF=>q_skip hF (wanted_f hF rfl rfl rfl hc5 rfl) rfl fun a hF=>q_skip hF (wanted_f hF rfl rfl rfl hc5 rfl) rfl fun a hF=>q_skip hF (wanted_f hF rfl rfl rfl hc5 rfl) rfl fun a hF=>q_skip hF (wanted_f hF rfl rfl rfl hc5 rfl) rfl fun a hF=>q_skip hF (wanted_f hF rfl rfl rfl hc5 rfl) rfl fun a hF=>q_x (v:=(.bool true)) hF hS (ex_pick_t rfl rfl hc5) rfl rfl fun a hF=>q_end (n_jn ?_)
      obtain rfl:=someI hj4
      exact ⟨hF.sub ⟨rfl,rfl,rfl,rfl,rfl,trivial⟩,hS⟩
    ·rintro a w ⟨hF,hS⟩
     refine n_sq ?_
     rcases bcase (t_8) with hc6 | hc6
     ·have hb2:=cond_f hc6 hb2
      refine q_cond_f hF rfl hc6 (q_skipc (n_ib (n_sq (q_region (q_x (v:=(iV (w64 (t_3 + 1)))) hF hS (ex_ibin rfl rfl rfl) rfl rfl fun a hF=>q_x (v:=(iV (w64 (t_3 + 1)))) hF hS (ex_move rfl) rfl rfl fun a hF=>q_end ?_)))))
      obtain rfl:=someI hb2
      exact ⟨rfl,hF.sub ⟨rfl,rfl,rfl,rfl,trivial⟩,hS⟩
     ·have hb2:=cond_t hc6 hb2
      refine q_cond_t hF rfl hc6 (q_seq (q_region (q_x (v:=(.bool false)) hF hS (ex_assign rfl) rfl rfl fun a hF=>q_end (n_sq (q_ret (r_ib (r_sq ?_)))))))
      obtain rfl:=someI hb2
      refine ⟨nofun,.inr fun ho=>?_⟩
      subst ho
      refine r_ib (r_sq ?_)
      obtain rfl:=someI hr
      exact ret_of hF hS rfl (.tmp rfl .nil) rfl
  ·rintro e a w ⟨rfl,rfl,hF,hS⟩
   refine x_ib (n_sq ?_)
   refine q_seq (q_region (q_x (v:=(.bool true)) hF hS (ex_assign rfl) rfl rfl fun a hF=>q_end (n_sq (q_ret ?_))))
   obtain rfl:=someI hr
   exact ret_of hF hS rfl (.tmp rfl .nil) rfl
 ·have hr:=cond_t hc1 hr
  refine q_cond_t hF rfl hc1 (q_seq (q_region (q_x (v:=(.bool false)) hF hS (ex_assign rfl) rfl rfl fun a hF=>q_end (n_sq (q_ret (r_sq ?_))))))
  obtain rfl:=someI hr
  exact ret_of hF hS rfl (.tmp rfl .nil) rfl

theorem c_slices_Clone_int_int (p_s : List Int) (r : (List Int)) (hr : slices_Clone_int_int p_s = some r) (w0 : World) (m : Mem) (hv : Vis m w0) (s1 : Sl) (h1 : Rd m s1 p_s) :
  Ret Tryd.prog 81 [s1.v] w0 (fun v w=>∃ (q0' : Piece) (s0' : Sl),v = s0'.v∧St [] w0 w m [q0']∧OwnL m 3 q0' s0' r):=by
 unfold slices_Clone_int_int at hr
 refine ret_start Tryd.func81 rfl 8 rfl rfl m hv fun a hF hS=>q_seq (q_region (q_x (v:=nilS.v) hF hS (ex_assign rfl) rfl rfl fun a hF=>q_end (n_sq (q_seq (q_seq (q_region (q_x (v:=s1.v) hF hS (ex_move rfl) rfl rfl fun a hF=>q_x (v:=(.bool s1.p.isNone)) hF hS (ex_eqNil Tryd.underlying42 rfl rfl) rfl rfl fun a hF=>q_end (n_sq ?_))))))))
 rcases bcase (s1.p.isNone) with hc1 | hc1
 ·refine q_cond_f hF rfl hc1 (q_skipc (n_sq (q_seq (q_region (q_do rfl fun _ hK=>wp_build0 (α:=Int) hF hS Tryd.underlying42 inf3 rfl fun a w q2 s2 hF hS h2 _=>hK _ _ (q_x (v:=s1.v) hF hS (ex_move rfl) rfl rfl fun a hF=>?_))))))
  obtain ⟨l_3,hl_3,hr⟩:=bindS hr
  refine q_do rfl fun _ hK=>wp_append hF hS h2 Tryd.underlying42 inf3 rfl rfl rfl rfl (h1.vw hS.vis) rfl (by decide) hl_3 rfl fun a w q4 s4 hF hS h4=>hK _ _ (q_x (v:=s4.v) hF hS (ex_assign rfl) rfl rfl fun a hF=>q_end (n_sq (q_ret ?_)))
  obtain rfl:=someI hr
  exact ret_of hF hS rfl (.tmp rfl .nil) ⟨q4,s4,rfl,hS.sel [0] (by decide),h4⟩
 ·have hnhc1:=h1.nilE hc1
  have hr : (some ([] : List Int)) = some r:=by rw [hnhc1] at hr; exact hr
  refine q_cond_t hF rfl hc1 (q_seq (q_region (q_x (v:=nilS.v) hF hS (ex_assign rfl) rfl rfl fun a hF=>q_end (n_sq (q_ret (r_sq ?_))))))
  obtain rfl:=someI hr
  exact ret_of hF hS rfl (.tmp rfl .nil) ⟨[],nilS,rfl,hS.sel [0] (by decide),(OwnL.nil (α:=Int) m 3)⟩

theorem c_impl_GroupValues (p_s : List impl_Variable) (p_g : impl_Grouping) (p_values : List Int) (r : (List Int) × Bool) (hr : impl_GroupValues p_s p_g p_values = some r) (w0 : World) (m : Mem) (hv : Vis m w0) (s1 : Sl) (h1 : Rd m s1 p_s) (s2 : Sl) (h2 : Rd m s2 p_g.Groups) (s3 : Sl) (h3 : Rd m s3 p_values) :
  Ret Tryd.prog 23 [s1.v,(.agg #[(iV p_g.Var),s2.v]),s3.v] w0 (fun v w=>∃ (q0' : Piece) (s0' : Sl),v = (.tuple #[s0'.v,(.bool r.2)])∧St [] w0 w m [q0']∧OwnL m 3 q0' s0' r.1):=by
 unfold impl_GroupValues at hr
 refine ret_start Tryd.func23 rfl 40 rfl rfl m hv fun a hF hS=>q_seq (q_region (q_box (cs:=[(iV p_g.Var),s2.v]) hF hS rfl rfl rfl fun a w b4 hF hS=>q_x (v:=nilS.v) hF hS (ex_assign rfl) rfl rfl fun a hF=>q_x (v:=(.bool false)) hF hS (ex_assign rfl) rfl rfl fun a hF=>q_end (n_sq (q_seq (q_seq ?_)))))
 obtain ⟨t_8,hj1,hr⟩:=bindS hr
 refine q_join (fun a w=>Fr a 40 [(2,s3.v),(4,(.pointer (some ⟨b4,0,none⟩))),(23,(.bool t_8))]∧St [] w0 w m [[⟨b4,[(iV p_g.Var),s2.v],46⟩]]) ?_ ?_
 ·refine q_region (q_x (v:=s1.v) hF hS (ex_move rfl) rfl rfl fun a hF=>?_)
  obtain ⟨t_5,ht_5,hj1⟩:=bindS hj1
  refine q_call (vs:=[s1.v]) hF hS Tryd.func72 (by kernel_rfl) rfl rfl rfl (c_impl_IsSchema p_s t_5 ht_5 _ m hS.vis s1 h1) ?_
  rintro a w _ rfl hF hS
  refine q_x (v:=(.bool (!t_5))) hF hS (ex_not rfl) rfl rfl fun a hF=>q_x (v:=(.bool (!t_5))) hF hS (ex_move rfl) rfl rfl fun a hF=>?_
  rcases bcase (!t_5) with hc2 | hc2
  ·have hj1:=cond_f hc2 hj1
   refine q_xg (v:=s1.v) hF hS (ex_move rfl) (wanted_t hF rfl rfl rfl hc2) rfl fun a hF=>q_xg (v:=(.agg #[(iV p_g.Var),s2.v])) hF hS (ex_loadA (vs:=[(iV p_g.Var),s2.v]) 0 0 Tryd.underlying46 rfl sz46 rfl rfl rfl rfl) (wanted_t hF rfl rfl rfl hc2) rfl fun a hF=>?_
   obtain ⟨t_6,ht_6,hj1⟩:=bindS hj1
   refine q_callg (vs:=[s1.v,(.agg #[(iV p_g.Var),s2.v])]) hF hS (wanted_t hF rfl rfl rfl hc2) Tryd.func79 (by kernel_rfl) rfl rfl rfl (c_impl_groupCount p_s p_g t_6 ht_6 _ m hS.vis s1 h1 s2 h2) ?_
   rintro a w _ rfl hF hS
   refine q_xg (v:=(.bool (t_6 == 0))) hF hS (ex_ibin rfl rfl rfl) (wanted_t hF rfl rfl rfl hc2) rfl fun a hF=>q_x (v:=(.bool (t_6 == 0))) hF hS (ex_pick_f rfl rfl hc2) rfl rfl fun a hF=>q_x (v:=(.bool (t_6 == 0))) hF hS (ex_move rfl) rfl rfl fun a hF=>?_
   rcases bcase (t_6 == 0) with hc3 | hc3
   ·have hj1:=cond_f hc3 hj1
    refine q_xg (v:=s1.v) hF hS (ex_move rfl) (wanted_t hF rfl rfl rfl hc3) rfl fun a hF=>q_xg (v:=s3.v) hF hS (ex_move rfl) (wanted_t hF rfl rfl rfl hc3) rfl fun a hF=>?_
    obtain ⟨t_7,ht_7,hj1⟩:=bindS hj1
    refine q_callg (vs:=[s1.v,s3.v]) hF hS (wanted_t hF rfl rfl rfl hc3) Tryd.func80 (by kernel_rfl) rfl rfl rfl (c_impl_areValues p_s p_values t_7 ht_7 _ m hS.vis s1 h1 s3 h3) ?_
    rintro a w _ rfl hF hS
    refine q_xg (v:=(.bool (!t_7))) hF hS (ex_not rfl) (wanted_t hF rfl rfl rfl hc3) rfl fun a hF=>q_x (v:=(.bool (!t_7))) hF hS (ex_pick_f rfl rfl hc3) rfl rfl fun a hF=>q_end (n_jn ?_)
    obtain rfl:=someI hj1
    exact ⟨hF.sub ⟨rfl,rfl,rfl,trivial⟩,hS⟩
   ·have hj1:=cond_t hc3 hj1
    refine q_skip hF (wanted_f hF rfl rfl rfl hc3 rfl) rfl fun a hF=>q_skip hF (wanted_f hF rfl rfl rfl hc3 rfl) rfl fun a hF=>q_skip hF (wanted_f hF rfl rfl rfl hc3 rfl) rfl fun a hF=>q_skip hF (wanted_f hF rfl rfl rfl hc3 rfl) rfl fun a hF=>q_x (v:=(.bool true)) hF hS (ex_pick_t rfl rfl hc3) rfl rfl fun a hF=>q_end (n_jn ?_)
    obtain rfl:=someI hj1
    exact ⟨hF.sub ⟨rfl,rfl,rfl,trivial⟩,hS⟩
  ·have hj1:=cond_t hc2 hj1
   refine q_skip hF (wanted_f hF rfl rfl rfl hc2 rfl) rfl fun a hF=>q_skip hF (wanted_f hF rfl rfl rfl hc2 rfl) rfl fun a hF=>q_skip hF (wanted_f hF rfl rfl rfl hc2 rfl) rfl fun a hF=>q_skip hF (wanted_f hF rfl rfl rfl hc2 rfl) rfl fun a hF=>q_x (v:=(.bool true)) hF hS (ex_pick_t rfl rfl hc2) rfl rfl fun a hF=>q_x (v:=(.bool true)) hF hS (ex_move rfl) rfl rfl fun a hF=>q_skip hF (wanted_f hF rfl rfl rfl rfl rfl) rfl fun a hF=>q_skip hF (wanted_f hF rfl rfl rfl rfl rfl) rfl fun a hF=>q_skip hF (wanted_f hF rfl rfl rfl rfl rfl) rfl fun a hF=>q_skip hF (wanted_f hF rfl rfl rfl rfl rfl) rfl fun a hF=>q_x (v:=(.bool true)) hF hS (ex_pick_t rfl rfl rfl) rfl rfl fun a hF=>q_end (n_jn ?_)
   obtain rfl:=someI hj1
   exact ⟨hF.sub ⟨rfl,rfl,rfl,trivial⟩,hS⟩
 ·rintro a w ⟨hF,hS⟩
  refine n_sq ?_
  rcases bcase (t_8) with hc4 | hc4
  ·have hr:=cond_f hc4 hr
   refine q_cond_f hF rfl hc4 (q_skipc (n_sq (q_seq (q_region (q_x (v:=s3.v) hF hS (ex_move rfl) rfl rfl fun a hF=>?_)))))
   obtain ⟨t_9,ht_9,hr⟩:=bindS hr
   refine q_call (vs:=[s3.v]) hF hS Tryd.func81 (by kernel_rfl) rfl rfl rfl (c_slices_Clone_int_int p_values t_9 ht_9 _ m hS.vis s3 h3) ?_
   rintro a w _ ⟨q11,s11,rfl,hR10,h11⟩ hF hS2
   have hS : St _ _ _ _ [q11,[⟨b4,[(iV p_g.Var),s2.v],46⟩]]:=hS.joinF hR10
   refine q_x (v:=s11.v) hF hS (ex_assign rfl) rfl rfl fun a hF=>q_end (n_sq (q_seq (e_region ⟨[13],[b4]⟩ mixed fun w' hw'=>?_)))
   have hS:=hS.below hw'
   refine e_p (v:=s11.v) 0 hF rfl (ex_move rfl) rfl rfl (by kernel_rfl) (by kernel_rfl) (by kernel_rfl) fun a hF=>e_p (v:=(.pointer (some ⟨b4,0,none⟩))) 1 hF rfl (ex_fieldAddr Tryd.underlying46 rfl sz3 rfl rfl) rfl rfl (by kernel_rfl) (by kernel_rfl) (by kernel_rfl) fun a hF=>e_xb (v:=(iV p_g.Var)) 2 1 hF hS (.head _) rfl rfl (ex_load1 0 0 Tryd.underlying3 rfl rfl rfl rfl) rfl rfl (by kernel_rfl) (by kernel_rfl) (by kernel_rfl) fun a hF=>e_p (v:=(.pointer (some ⟨b4,1,none⟩))) 3 hF rfl (ex_fieldAddr Tryd.underlying46 rfl sz42 rfl rfl) rfl rfl (by kernel_rfl) (by kernel_rfl) (by kernel_rfl) fun a hF=>e_xb (v:=s2.v) 4 1 hF hS (.head _) rfl rfl (ex_load1 0 0 Tryd.underlying42 rfl rfl rfl rfl) rfl rfl (by kernel_rfl) (by kernel_rfl) (by kernel_rfl) fun a hF=>e_p (v:=s3.v) 5 hF rfl (ex_move rfl) rfl rfl (by kernel_rfl) (by kernel_rfl) (by kernel_rfl) fun a hF=>e_p (v:=(.pointer (some ⟨b4,0,none⟩))) 6 hF rfl (ex_fieldAddr Tryd.underlying46 rfl sz3 rfl rfl) rfl rfl (by kernel_rfl) (by kernel_rfl) (by kernel_rfl) fun a hF=>e_xb (v:=(iV p_g.Var)) 7 1 hF hS (.head _) rfl rfl (ex_load1 0 0 Tryd.underlying3 rfl rfl rfl rfl) rfl rfl (by kernel_rfl) (by kernel_rfl) (by kernel_rfl) fun a hF=>?_
   obtain ⟨e_12,he_12,hr⟩:=bindS hr
   obtain ⟨vs13,at13,d13⟩:=h3.at he_12 1 rfl
   obtain rfl : vs13 = [(iV e_12)]:=d13
   refine e_p (v:=(elP s3 (p_g.Var.toNat * 1))) 8 hF rfl (ex_indexAddr Tryd.underlying42 sz3 rfl rfl (h3.idx he_12)) rfl rfl (by kernel_rfl) (by kernel_rfl) (by kernel_rfl) fun a hF=>e_x (v:=(iV e_12)) 9 hF hS rfl (ex_loadE1 0 Tryd.underlying3 rfl rfl ((at13).at) rfl rfl) rfl rfl (by kernel_rfl) (by kernel_rfl) (by kernel_rfl) (by kernel_rfl) fun a hF=>?_
   obtain ⟨e_14,he_14,hr⟩:=bindS hr
   obtain ⟨vs15,at15,d15⟩:=h2.at he_14 1 rfl
   obtain rfl : vs15 = [(iV e_14)]:=d15
   refine e_p (v:=(elP s2 (e_12.toNat * 1))) 10 hF rfl (ex_indexAddr Tryd.underlying42 sz3 rfl rfl (h2.idx he_14)) rfl rfl (by kernel_rfl) (by kernel_rfl) (by kernel_rfl) fun a hF=>e_x (v:=(iV e_14)) 11 hF hS rfl (ex_loadE1 0 Tryd.underlying3 rfl rfl ((at15).at) rfl rfl) rfl rfl (by kernel_rfl) (by kernel_rfl) (by kernel_rfl) (by kernel_rfl) fun a hF=>?_
   obtain ⟨e_16,he_16,hr⟩:=bindS hr
   obtain ⟨vs17,at17,d17⟩:=h11.at he_16 1 rfl
   obtain rfl : vs17 = [(iV e_16)]:=d17
   refine e_p (v:=(elP s11 (p_g.Var.toNat * 1))) 12 hF rfl (ex_indexAddr Tryd.underlying42 sz3 rfl rfl (h11.idx he_16)) rfl rfl (by kernel_rfl) (by kernel_rfl) (by kernel_rfl) fun a hF=>e_one 13 (by kernel_rfl) ?_
   have hSo:=hS
   refine e_opl rfl rfl rfl fun _ hK=>wp_storeE (e':=e_14) (us:=[(iV e_14)]) (vs:=[(iV e_16)]) 0 hF hS h11 sz3 rfl rfl rfl rfl rfl rfl rfl he_16 at17 rfl rfl rfl fun w q18 hS h18=>hK _ _ (⟨kpC hSo hS 1 1 rfl rfl kpN,?_⟩)
   refine e_end (by kernel_rfl) (n_sq ?_) _
   refine q_seq (q_region (q_x (v:=s11.v) hF hS (ex_move rfl) rfl rfl fun a hF=>q_x (v:=s11.v) hF hS (ex_assign rfl) rfl rfl fun a hF=>q_x (v:=(.bool true)) hF hS (ex_assign rfl) rfl rfl fun a hF=>q_end (n_sq (q_ret ?_))))
   obtain rfl:=someI hr
   exact ret_of hF hS rfl (.tmp rfl (.tmp rfl .nil)) ⟨q18,s11,rfl,hS.sel [0] (by decide),h18⟩
  ·have hr:=cond_t hc4 hr
   refine q_cond_t hF rfl hc4 (q_seq (q_region (q_x (v:=nilS.v) hF hS (ex_assign rfl) rfl rfl fun a hF=>q_x (v:=(.bool false)) hF hS (ex_assign rfl) rfl rfl fun a hF=>q_end (n_sq (q_ret (r_sq ?_))))))
   obtain rfl:=someI hr
   exact ret_of hF hS rfl (.tmp rfl (.tmp rfl .nil)) ⟨[],nilS,rfl,hS.sel [1] (by decide),(OwnL.nil (α:=Int) m 3)⟩

theorem c_spec_l1All (p_l : List Int) (p_lo : Int) (p_hi : Int) (r : Bool) (hr : spec_l1All p_l p_lo p_hi = some r) (w0 : World) (m : Mem) (hv : Vis m w0) (s1 : Sl) (h1 : Rd m s1 p_l) :
  Ret Tryd.prog 104 [s1.v,(iV p_lo),(iV p_hi)] w0 (fun v _=>v = (.bool r)):=by
 unfold spec_l1All at hr
 refine ret_start Tryd.func104 rfl 21 rfl rfl m hv fun a hF hS=>q_seq (q_region (q_x (v:=(.bool false)) hF hS (ex_assign rfl) rfl rfl fun a hF=>q_end (n_sq (q_seq (q_seq (q_region (q_x (v:=s1.v) hF hS (ex_move rfl) rfl rfl fun a hF=>q_x (v:=(iV (goLen p_l))) hF hS (ex_len Tryd.underlying42 rfl h1.len) rfl rfl fun a hF=>q_x (v:=(iV 0)) hF hS (ex_move rfl) rfl rfl fun a hF=>q_end (n_sq (q_block ?_)))))))))
 obtain ⟨o1,hl1,hr⟩:=bindS hr
 refine q_loop (fun (t_2 : Int) a w=>Fr a 21 [(1,(iV p_lo)),(2,(iV p_hi)),(9,s1.v),(10,(iV (goLen p_l))),(11,(iV t_2))]∧St [] w0 w m []) (fun (o : (Unit) ⊕ (Bool)) e a w=>o = .inl ()∧e = .exit 0∧Fr a 21 []∧St [] w0 w m []) hl1 ⟨hF.sub ⟨rfl,rfl,rfl,rfl,rfl,trivial⟩,hS⟩ ?_ ?_
 ·clear hF hS
  rintro t_2 a w st ⟨hF,hS⟩ hb1
  unfold spec_l1All_l1 at hb1
  refine q_seq (q_region (q_x (v:=(.bool (decide (t_2 < (goLen p_l))))) hF hS (ex_ibin rfl rfl rfl) rfl rfl fun a hF=>q_end (n_sq (q_seq ?_))))
  rcases bcase (decide (t_2 < (goLen p_l))) with hc2 | hc2
  ·have hb1:=cond_f hc2 hb1
   refine q_cond_f hF rfl hc2 (q_exit (x_sq ?_))
   obtain rfl:=someI hb1
   exact ⟨nofun,.inl ⟨rfl,rfl,hF.sub trivial,hS⟩⟩
  ·have hb1:=cond_t hc2 hb1
   refine q_cond_t hF rfl hc2 (q_skipc (n_sq (q_seq (q_block (q_seq (q_region ?_))))))
   obtain ⟨e_3,he_3,hb1⟩:=bindS hb1
   obtain ⟨vs4,at4,d4⟩:=h1.at he_3 1 rfl
   obtain rfl : vs4 = [(iV e_3)]:=d4
   refine q_x (v:=(elP s1 (t_2.toNat * 1))) hF hS (ex_indexAddr Tryd.underlying42 sz3 rfl rfl (h1.idx he_3)) rfl rfl fun a hF=>q_x (v:=(iV e_3)) hF hS (ex_loadE1 0 Tryd.underlying3 rfl rfl ((at4).at) rfl rfl) rfl rfl fun a hF=>q_x (v:=(iV e_3)) hF hS (ex_assign rfl) rfl rfl fun a hF=>q_end (n_sq (q_seq (q_region (q_x (v:=(iV e_3)) hF hS (ex_move rfl) rfl rfl fun a hF=>q_x (v:=(iV p_lo)) hF hS (ex_move rfl) rfl rfl fun a hF=>q_x (v:=(iV p_hi)) hF hS (ex_move rfl) rfl rfl fun a hF=>?_))))
   obtain ⟨t_5,ht_5,hb1⟩:=bindS hb1
   refine q_call (vs:=[(iV e_3),(iV p_lo),(iV p_hi)]) hF hS Tryd.func62 (by kernel_rfl) rfl rfl rfl (c_spec_l1In e_3 p_lo p_hi t_5 ht_5 _ m hS.vis) ?_
   rintro a w _ rfl hF hS
   refine q_x (v:=(.bool (!t_5))) hF hS (ex_not rfl) rfl rfl fun a hF=>q_end (n_sq ?_)
   rcases bcase (!t_5) with hc3 | hc3
   ·have hb1:=cond_f hc3 hb1
    refine q_cond_f hF rfl hc3 (q_skipc (n_ib (n_sq (q_region (q_x (v:=(iV (w64 (t_2 + 1)))) hF hS (ex_ibin rfl rfl rfl) rfl rfl fun a hF=>q_x (v:=(iV (w64 (t_2 + 1)))) hF hS (ex_move rfl) rfl rfl fun a hF=>q_end ?_)))))
    obtain rfl:=someI hb1
    exact ⟨rfl,hF.sub ⟨rfl,rfl,rfl,rfl,rfl,trivial⟩,hS⟩
   ·have hb1:=cond_t hc3 hb1
    refine q_cond_t hF rfl hc3 (q_seq (q_region (q_x (v:=(.bool false)) hF hS (ex_assign rfl) rfl rfl fun a hF=>q_end (n_sq (q_ret (r_ib (r_sq ?_)))))))
    obtain rfl:=someI hb1
    refine ⟨nofun,.inr fun ho=>?_⟩
    subst ho
    refine r_ib (r_sq ?_)
    obtain rfl:=someI hr
    exact ret_of hF hS rfl (.tmp rfl .nil) rfl
 ·rintro e a w ⟨rfl,rfl,hF,hS⟩
  refine x_ib (n_sq ?_)
  refine q_seq (q_region (q_x (v:=(.bool true)) hF hS (ex_assign rfl) rfl rfl fun a hF=>q_end (n_sq (q_ret ?_))))
  obtain rfl:=someI hr
  exact ret_of hF hS rfl (.tmp rfl .nil) rfl

theorem c_spec_l1Put (p_l : List Int) (p_n : Int) (r : (List Int)) (hr : spec_l1Put p_l p_n = some r) (w0 : World) (m : Mem) (hv : Vis m w0) (s1 : Sl) (h1 : Rd m s1 p_l) :
  Ret Tryd.prog 121 [s1.v,(iV p_n)] w0 (fun v w=>∃ (m' : Mem) (s0' : Sl),v = s0'.v∧MLe [] w0.heap.size m m'∧St [] w0 w m' []∧Rd m' s0' r):=by
 unfold spec_l1Put at hr
 refine ret_start Tryd.func121 rfl 48 rfl rfl m hv fun a hF hS=>q_seq (q_region (q_x (v:=nilS.v) hF hS (ex_assign rfl) rfl rfl fun a hF=>q_end (n_sq (q_seq (q_region (q_x (v:=(iV 0)) hF hS (ex_assign rfl) rfl rfl fun a hF=>q_end (n_sq (q_seq (q_block ?_)))))))))
 obtain ⟨k_6,hl1,hr⟩:=bindS hr
 refine q_loop (fun (k_2 : Int) a w=>Fr a 48 [(0,s1.v),(1,(iV p_n)),(5,(iV k_2))]∧St [] w0 w m []) (fun (k_6 : Int) e a w=>e = .exit 0∧Fr a 48 [(0,s1.v),(1,(iV p_n)),(5,(iV k_6))]∧St [] w0 w m []) hl1 ⟨hF.sub ⟨rfl,rfl,rfl,trivial⟩,hS⟩ ?_ ?_
 ·clear hF hS
  rintro k_2 a w st ⟨hF,hS⟩ hb1
  unfold spec_l1Put_l1 at hb1
  refine q_seq (q_seq ?_)
  obtain ⟨t_5,hj2,hb1⟩:=bindS hb1
  refine q_join (fun a w=>Fr a 48 [(0,s1.v),(1,(iV p_n)),(5,(iV k_2)),(18,(.bool t_5))]∧St [] w0 w m []) ?_ ?_
  ·refine q_region (q_x (v:=(iV k_2)) hF hS (ex_move rfl) rfl rfl fun a hF=>q_x (v:=s1.v) hF hS (ex_move rfl) rfl rfl fun a hF=>q_x (v:=(iV (goLen p_l))) hF hS (ex_len Tryd.underlying42 rfl h1.len) rfl rfl fun a hF=>q_x (v:=(.bool (decide (k_2 < (goLen p_l))))) hF hS (ex_ibin rfl rfl rfl) rfl rfl fun a hF=>q_x (v:=(.bool (decide (k_2 < (goLen p_l))))) hF hS (ex_move rfl) rfl rfl fun a hF=>?_)
   rcases bcase (decide (k_2 < (goLen p_l))) with hc3 | hc3
   ·have hj2:=cond_f hc3 hj2
    refine q_skip hF (wanted_f hF rfl rfl rfl hc3 rfl) rfl fun a hF=>q_skip hF (wanted_f hF rfl rfl rfl hc3 rfl) rfl fun a hF=>q_skip hF (wanted_f hF rfl rfl rfl hc3 rfl) rfl fun a hF=>q_skip hF (wanted_f hF rfl rfl rfl hc3 rfl) rfl fun a hF=>q_skip hF (wanted_f hF rfl rfl rfl hc3 rfl) rfl fun a hF=>q_skip hF (wanted_f hF rfl rfl rfl hc3 rfl) rfl fun a hF=>q_x (v:=(.bool false)) hF hS (ex_pick_f rfl rfl hc3) rfl rfl fun a hF=>q_end (n_jn ?_)
    obtain rfl:=someI hj2
    exact ⟨hF.sub ⟨rfl,rfl,rfl,rfl,trivial⟩,hS⟩
   ·have hj2:=cond_t hc3 hj2
    refine q_xg (v:=s1.v) hF hS (ex_move rfl) (wanted_t hF rfl rfl rfl hc3) rfl fun a hF=>q_xg (v:=(iV k_2)) hF hS (ex_move rfl) (wanted_t hF rfl rfl rfl hc3) rfl fun a hF=>?_
    obtain ⟨e_3,he_3,hj2⟩:=bindS hj2
    obtain ⟨vs4,at4,d4⟩:=h1.at he_3 1 rfl
    obtain rfl : vs4 = [(iV e_3)]:=d4
    refine q_xg (v:=(elP s1 (k_2.toNat * 1))) hF hS (ex_indexAddr Tryd.underlying42 sz3 rfl rfl (h1.idx he_3)) (wanted_t hF rfl rfl rfl hc3) rfl fun a hF=>q_xg (v:=(iV e_3)) hF hS (ex_loadE1 0 Tryd.underlying3 rfl rfl ((at4).at) rfl rfl) (wanted_t hF rfl rfl rfl hc3) rfl fun a hF=>q_xg (v:=(iV p_n)) hF hS (ex_move rfl) (wanted_t hF rfl rfl rfl hc3) rfl fun a hF=>q_xg (v:=(.bool (decide (e_3 < p_n)))) hF hS (ex_ibin rfl rfl rfl) (wanted_t hF rfl rfl rfl hc3) rfl fun a hF=>q_x (v:=(.bool (decide (e_3 < p_n)))) hF hS (ex_pick_t rfl rfl hc3) rfl rfl fun a hF=>q_end (n_jn ?_)
    obtain rfl:=someI hj2
    exact ⟨hF.sub ⟨rfl,rfl,rfl,rfl,trivial⟩,hS⟩
  ·rintro a w ⟨hF,hS⟩
   refine n_sq ?_
   rcases bcase (t_5) with hc4 | hc4
   ·have hb1:=cond_f hc4 hb1
    refine q_cond_f hF rfl hc4 (q_exit (x_sq ?_))
    obtain rfl:=someI hb1
    exact ⟨nofun,.inl ⟨rfl,hF.sub ⟨rfl,rfl,rfl,trivial⟩,hS⟩⟩
   ·have hb1:=cond_t hc4 hb1
    refine q_cond_t hF rfl hc4 (q_skipc (n_sq (q_block (q_region (q_x (v:=(iV k_2)) hF hS (ex_move rfl) rfl rfl fun a hF=>q_x (v:=(iV (w64 (k_2 + 1)))) hF hS (ex_ibin rfl rfl rfl) rfl rfl fun a hF=>q_x (v:=(iV (w64 (k_2 + 1)))) hF hS (ex_assign rfl) rfl rfl fun a hF=>q_end (n_ib ?_))))))
    obtain rfl:=someI hb1
    exact ⟨rfl,hF.sub ⟨rfl,rfl,rfl,trivial⟩,hS⟩
 ·rintro e a w ⟨rfl,hF,hS⟩
  refine x_ib (n_sq ?_)
  refine q_seq (q_seq ?_)
  obtain ⟨t_9,hj5,hr⟩:=bindS hr
  refine q_join (fun a w=>Fr a 48 [(0,s1.v),(1,(iV p_n)),(5,(iV k_6)),(32,(.bool t_9))]∧St [] w0 w m []) ?_ ?_
  ·refine q_region (q_x (v:=(iV k_6)) hF hS (ex_move rfl) rfl rfl fun a hF=>q_x (v:=s1.v) hF hS (ex_move rfl) rfl rfl fun a hF=>q_x (v:=(iV (goLen p_l))) hF hS (ex_len Tryd.underlying42 rfl h1.len) rfl rfl fun a hF=>q_x (v:=(.bool (decide (k_6 < (goLen p_l))))) hF hS (ex_ibin rfl rfl rfl) rfl rfl fun a hF=>q_x (v:=(.bool (decide (k_6 < (goLen p_l))))) hF hS (ex_move rfl) rfl rfl fun a hF=>?_)
   rcases bcase (decide (k_6 < (goLen p_l))) with hc6 | hc6
   ·have hj5:=cond_f hc6 hj5
    refine q_skip hF (wanted_f hF rfl rfl rfl hc6 rfl) rfl fun a hF=>q_skip hF (wanted_f hF rfl rfl rfl hc6 rfl) rfl fun a hF=>q_skip hF (wanted_f hF rfl rfl rfl hc6 rfl) rfl fun a hF=>q_skip hF (wanted_f hF rfl rfl rfl hc6 rfl) rfl fun a hF=>q_skip hF (wanted_f hF rfl rfl rfl hc6 rfl) rfl fun a hF=>q_skip hF (wanted_f hF rfl rfl rfl hc6 rfl) rfl fun a hF=>q_x (v:=(.bool false)) hF hS (ex_pick_f rfl rfl hc6) rfl rfl fun a hF=>q_end (n_jn ?_)
    obtain rfl:=someI hj5
    exact ⟨hF.sub ⟨rfl,rfl,rfl,rfl,trivial⟩,hS⟩
   ·have hj5:=cond_t hc6 hj5
    refine q_xg (v:=s1.v) hF hS (ex_move rfl) (wanted_t hF rfl rfl rfl hc6) rfl fun a hF=>q_xg (v:=(iV k_6)) hF hS (ex_move rfl) (wanted_t hF rfl rfl rfl hc6) rfl fun a hF=>?_
    obtain ⟨e_7,he_7,hj5⟩:=bindS hj5
    obtain ⟨vs8,at8,d8⟩:=h1.at he_7 1 rfl
    obtain rfl : vs8 = [(iV e_7)]:=d8
    refine q_xg (v:=(elP s1 (k_6.toNat * 1))) hF hS (ex_indexAddr Tryd.underlying42 sz3 rfl rfl (h1.idx he_7)) (wanted_t hF rfl rfl rfl hc6) rfl fun a hF=>q_xg (v:=(iV e_7)) hF hS (ex_loadE1 0 Tryd.underlying3 rfl rfl ((at8).at) rfl rfl) (wanted_t hF rfl rfl rfl hc6) rfl fun a hF=>q_xg (v:=(iV p_n)) hF hS (ex_move rfl) (wanted_t hF rfl rfl rfl hc6) rfl fun a hF=>q_xg (v:=(.bool (e_7 == p_n))) hF hS (ex_ibin rfl rfl rfl) (wanted_t hF rfl rfl rfl hc6) rfl fun a hF=>q_x (v:=(.bool (e_7 == p_n))) hF hS (ex_pick_t rfl rfl hc6) rfl rfl fun a hF=>q_end (n_jn ?_)
    obtain rfl:=someI hj5
    exact ⟨hF.sub ⟨rfl,rfl,rfl,rfl,trivial⟩,hS⟩
  ·rintro a w ⟨hF,hS⟩
   refine n_sq ?_
   rcases bcase (t_9) with hc7 | hc7
   ·have hr:=cond_f hc7 hr
    refine q_cond_f hF rfl hc7 (q_skipc (n_sq (q_seq (q_region (q_do rfl fun _ hK=>wp_build0 (α:=Int) hF hS Tryd.underlying42 inf3 rfl fun a w q10 s10 hF hS h10 _=>hK _ _ (q_x (v:=s1.v) hF hS (ex_move rfl) rfl rfl fun a hF=>q_x (v:=(iV k_6)) hF hS (ex_move rfl) rfl rfl fun a hF=>?_))))))
    obtain ⟨l_11,hl_11,hr⟩:=bindS hr
    have h12 : Rd m (subS s1 1 (0 : Int).toNat k_6.toNat s1.cap) l_11:=h1.sub' hl_11 1 rfl
    refine q_x (v:=(subS s1 1 (0 : Int).toNat k_6.toNat s1.cap).v) hF hS (ex_slice Tryd.underlying42 sz3 rfl rfl rfl (.inl ⟨rfl,rfl⟩) (.inr ⟨_,rfl⟩) (h1.subok hl_11)) rfl rfl fun a hF=>?_
    obtain ⟨l_13,hl_13,hr⟩:=bindS hr
    refine q_do rfl fun _ hK=>wp_append hF hS h10 Tryd.underlying42 inf3 rfl rfl rfl rfl (h12.vw hS.vis) rfl (by decide) hl_13 rfl fun a w q14 s14 hF hS h14=>hK _ _ (q_x (v:=s14.v) hF hS (ex_assign rfl) rfl rfl fun a hF=>q_end (n_sq (q_seq (q_region (q_x (v:=s14.v) hF hS (ex_move rfl) rfl rfl fun a hF=>q_x (v:=(iV p_n)) hF hS (ex_move rfl) rfl rfl fun a hF=>q_do rfl fun _ hK=>wp_buildSlice' (l:=([p_n] : List Int)) (cells:=[(iV p_n)]) hF hS Tryd.underlying42 inf3 rfl rfl (by kernel_rfl) rfl rfl rfl ⟨rfl,rfl⟩ rfl rfl fun a w q15 s15 hF hS h15 _=>hK _ _ ?_)))))
    have hS : St _ _ _ _ [q14,q15]:=hS.sel [1,0] (by decide)
    obtain ⟨l_16,hl_16,hr⟩:=bindS hr
    refine q_do rfl fun _ hK=>wp_append hF hS h14 Tryd.underlying42 inf3 rfl rfl rfl rfl (h15.vw hS (j:=1) rfl) rfl (by decide) hl_16 rfl fun a w q17 s17 hF hS h17=>hK _ _ (q_x (v:=s17.v) hF hS (ex_assign rfl) rfl rfl fun a hF=>q_end (n_sq (q_seq (q_region (q_x (v:=s17.v) hF hS (ex_move rfl) rfl rfl fun a hF=>q_x (v:=s1.v) hF hS (ex_move rfl) rfl rfl fun a hF=>q_x (v:=(iV k_6)) hF hS (ex_move rfl) rfl rfl fun a hF=>?_)))))
    obtain ⟨l_18,hl_18,hr⟩:=bindS hr
    have h19 : Rd m (subS s1 1 (k_6 : Int).toNat (goLen p_l).toNat s1.cap) l_18:=h1.sub' hl_18 1 rfl
    refine q_x (v:=(subS s1 1 (k_6 : Int).toNat (goLen p_l).toNat s1.cap).v) hF hS (ex_slice Tryd.underlying42 sz3 rfl rfl rfl (.inr ⟨_,rfl⟩) (.inl ⟨rfl,h1.jlen⟩) (h1.subok hl_18)) rfl rfl fun a hF=>?_
    obtain ⟨l_20,hl_20,hr⟩:=bindS hr
    refine q_do rfl fun _ hK=>wp_append hF hS h17 Tryd.underlying42 inf3 rfl rfl rfl rfl (h19.vw hS.vis) rfl (by decide) hl_20 rfl fun a w q21 s21 hF hS h21=>hK _ _ (q_x (v:=s21.v) hF hS (ex_assign rfl) rfl rfl fun a hF=>q_end (n_sq (q_ret ?_)))
    obtain rfl:=someI hr
    obtain ⟨m22,hm22,hS,hz22⟩:=hS.freeze
    have h22:=h21.froz hm22.le hz22
    exact ret_of hF hS rfl (.tmp rfl .nil) ⟨m22,s21,rfl,hm22,hS.sel [] (by decide),h22⟩
   ·have hr:=cond_t hc7 hr
    refine q_cond_t hF rfl hc7 (q_seq (q_region (q_x (v:=s1.v) hF hS (ex_move rfl) rfl rfl fun a hF=>q_x (v:=s1.v) hF hS (ex_assign rfl) rfl rfl fun a hF=>q_end (n_sq (q_ret (r_sq ?_))))))
    obtain rfl:=someI hr
    exact ret_of hF hS rfl (.tmp rfl .nil) ⟨m,s1,rfl,(MLe.refl _ _),hS.sel [] (by decide),h1⟩

end Go.Proofs.YtgaeknajcakinaaDoor
