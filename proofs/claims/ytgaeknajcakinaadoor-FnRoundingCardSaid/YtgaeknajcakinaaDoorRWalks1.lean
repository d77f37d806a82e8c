/- The walks of the functions: each returns what its plain function says. -/
import Derived.Test.YtgaeknajcakinaaDoorRDefs
import Derived.Test.YtgaeknajcakinaaDoorRows
import Derived.Test.YtgaeknajcakinaaDoorRItoa
namespace Go.Proofs.YtgaeknajcakinaaDoor
open Go.Gx Go.Gx.F Go.RowKit
set_option linter.all false
set_option maxRecDepth 10000

theorem mixed : Tryd.prog.follows .mixedOrders = true := by kernel_rfl
theorem inf3 : inf Tryd.prog 3 = some (1, 8, [(.int .i64 0)]) := by kernel_rfl
theorem inf24 : inf Tryd.prog 24 = some (2, 16, [(.int .i64 0), (.int .i64 0)]) := by kernel_rfl
theorem sz3 : szOf Tryd.prog 3 = some 1 := by kernel_rfl
theorem sz5 : szOf Tryd.prog 5 = some 1 := by kernel_rfl
theorem sz22 : szOf Tryd.prog 22 = some 1 := by kernel_rfl
theorem sz24 : szOf Tryd.prog 24 = some 2 := by kernel_rfl
theorem sz74 : szOf Tryd.prog 74 = some 1 := by kernel_rfl

theorem c_spec_l1Cur_next (p_c : spec_l1Cur) (r : Int × spec_l1Cur) (hr : spec_l1Cur_next p_c = some r) (w0 : World) (m : Mem) (b_p_c : Nat) (s1 : Sl) (h1 : Rd m s1 p_c.code) (X : List Nat) (hS : St X w0 w0 m [[⟨b_p_c,[s1.v,(iV p_c.at_),(.int .u64 p_c.seed.v)],76⟩]]) :
  RetX Tryd.prog 107 [(.pointer (some ⟨b_p_c,0,none⟩))] w0 (fun v w=>v = (iV r.1)∧St X w0 w m [[⟨b_p_c,[s1.v,(iV r.2.at_),(.int .u64 r.2.seed.v)],76⟩]]∧r.2.code = p_c.code):=by
 unfold spec_l1Cur_next at hr
 refine ret_startX Tryd.func107 rfl 62 rfl rfl fun a hF=>q_seq (q_region (q_x (v:=(iV 0)) hF hS (ex_assign rfl) rfl rfl fun a hF=>q_end (n_sq (q_seq (q_region (q_x (v:=(iV 0)) hF hS (ex_assign rfl) rfl rfl fun a hF=>q_end (n_sq (q_seq (q_seq (e_region ⟨[],[]⟩ mixed fun w' hw'=>?_))))))))))
 have hS:=hS.below hw'
 refine e_p (v:=(.pointer (some ⟨b_p_c,0,none⟩))) 0 hF rfl (ex_move rfl) rfl rfl (by kernel_rfl) (by kernel_rfl) (by kernel_rfl) fun a hF=>e_p (v:=(.pointer (some ⟨b_p_c,0,none⟩))) 1 hF rfl (ex_nilCheck rfl) rfl rfl (by kernel_rfl) (by kernel_rfl) (by kernel_rfl) fun a hF=>e_p (v:=(.pointer (some ⟨b_p_c,1,none⟩))) 2 hF rfl (ex_fieldAddr Tryd.underlying76 rfl sz3 rfl rfl) rfl rfl (by kernel_rfl) (by kernel_rfl) (by kernel_rfl) fun a hF=>e_x (v:=(iV p_c.at_)) 3 hF hS rfl (ex_load1 0 0 Tryd.underlying3 rfl rfl rfl rfl) rfl rfl (by kernel_rfl) (by kernel_rfl) (by kernel_rfl) (by kernel_rfl) fun a hF=>e_p (v:=(.pointer (some ⟨b_p_c,0,none⟩))) 4 hF rfl (ex_move rfl) rfl rfl (by kernel_rfl) (by kernel_rfl) (by kernel_rfl) fun a hF=>e_p (v:=(.pointer (some ⟨b_p_c,0,none⟩))) 5 hF rfl (ex_nilCheck rfl) rfl rfl (by kernel_rfl) (by kernel_rfl) (by kernel_rfl) fun a hF=>e_p (v:=(.pointer (some ⟨b_p_c,0,none⟩))) 6 hF rfl (ex_fieldAddr Tryd.underlying76 rfl sz22 rfl rfl) rfl rfl (by kernel_rfl) (by kernel_rfl) (by kernel_rfl) fun a hF=>e_x (v:=s1.v) 7 hF hS rfl (ex_load1 0 0 Tryd.underlying22 rfl rfl rfl rfl) rfl rfl (by kernel_rfl) (by kernel_rfl) (by kernel_rfl) (by kernel_rfl) fun a hF=>e_p (v:=(iV (goLen p_c.code))) 8 hF rfl (ex_len Tryd.underlying22 rfl h1.len) rfl rfl (by kernel_rfl) (by kernel_rfl) (by kernel_rfl) fun a hF=>e_p (v:=(.bool (decide (p_c.at_ < (goLen p_c.code))))) 9 hF rfl (ex_ibin rfl rfl rfl) rfl rfl (by kernel_rfl) (by kernel_rfl) (by kernel_rfl) fun a hF=>e_end (by kernel_rfl) (n_sq ?_) _
 obtain ⟨b_4,hj1,hr⟩:=bindS hr
 refine q_join (fun a w=>Fr a 62 [(0,(.pointer (some ⟨b_p_c,0,none⟩))),(3,(iV b_4))]∧St X w0 w m [[⟨b_p_c,[s1.v,(iV p_c.at_),(.int .u64 p_c.seed.v)],76⟩]]) ?_ ?_
 ·rcases bcase (decide (p_c.at_ < (goLen p_c.code))) with hc2 | hc2
  ·have hj1:=cond_f hc2 hj1
   refine q_cond_f hF rfl hc2 (q_skipc (n_jn ?_))
   obtain rfl:=someI hj1
   exact ⟨hF.sub ⟨rfl,rfl,trivial⟩,hS⟩
  ·have hj1:=cond_t hc2 hj1
   refine q_cond_t hF rfl hc2 (e_region ⟨[],[]⟩ mixed fun w' hw'=>?_)
   have hS:=hS.below hw'
   refine e_p (v:=(.pointer (some ⟨b_p_c,0,none⟩))) 0 hF rfl (ex_move rfl) rfl rfl (by kernel_rfl) (by kernel_rfl) (by kernel_rfl) fun a hF=>e_p (v:=(.pointer (some ⟨b_p_c,0,none⟩))) 1 hF rfl (ex_nilCheck rfl) rfl rfl (by kernel_rfl) (by kernel_rfl) (by kernel_rfl) fun a hF=>e_p (v:=(.pointer (some ⟨b_p_c,0,none⟩))) 2 hF rfl (ex_fieldAddr Tryd.underlying76 rfl sz22 rfl rfl) rfl rfl (by kernel_rfl) (by kernel_rfl) (by kernel_rfl) fun a hF=>e_x (v:=s1.v) 3 hF hS rfl (ex_load1 0 0 Tryd.underlying22 rfl rfl rfl rfl) rfl rfl (by kernel_rfl) (by kernel_rfl) (by kernel_rfl) (by kernel_rfl) fun a hF=>e_p (v:=(.pointer (some ⟨b_p_c,0,none⟩))) 4 hF rfl (ex_move rfl) rfl rfl (by kernel_rfl) (by kernel_rfl) (by kernel_rfl) fun a hF=>e_p (v:=(.pointer (some ⟨b_p_c,0,none⟩))) 5 hF rfl (ex_nilCheck rfl) rfl rfl (by kernel_rfl) (by kernel_rfl) (by kernel_rfl) fun a hF=>e_p (v:=(.pointer (some ⟨b_p_c,1,none⟩))) 6 hF rfl (ex_fieldAddr Tryd.underlying76 rfl sz3 rfl rfl) rfl rfl (by kernel_rfl) (by kernel_rfl) (by kernel_rfl) fun a hF=>e_x (v:=(iV p_c.at_)) 7 hF hS rfl (ex_load1 0 0 Tryd.underlying3 rfl rfl rfl rfl) rfl rfl (by kernel_rfl) (by kernel_rfl) (by kernel_rfl) (by kernel_rfl) fun a hF=>?_
   obtain ⟨e_2,he_2,hj1⟩:=bindS hj1
   obtain ⟨vs3,at3,d3⟩:=h1.at he_2 1 rfl
   obtain rfl : vs3 = [(.int .u8 e_2.v)]:=d3
   refine e_p (v:=(elP s1 (p_c.at_.toNat * 1))) 8 hF rfl (ex_indexAddr Tryd.underlying22 sz5 rfl rfl (h1.idx he_2)) rfl rfl (by kernel_rfl) (by kernel_rfl) (by kernel_rfl) fun a hF=>e_x (v:=(.int .u8 e_2.v)) 9 hF hS rfl (ex_loadE1 0 Tryd.underlying5 rfl rfl ((at3).at) rfl rfl) rfl rfl (by kernel_rfl) (by kernel_rfl) (by kernel_rfl) (by kernel_rfl) fun a hF=>e_p (v:=(iV (w64 e_2.v))) 10 hF rfl (ex_conv Tryd.underlying5 Tryd.underlying3 rfl) rfl rfl (by kernel_rfl) (by kernel_rfl) (by kernel_rfl) fun a hF=>e_p (v:=(iV (w64 e_2.v))) 11 hF rfl (ex_assign rfl) rfl rfl (by kernel_rfl) (by kernel_rfl) (by kernel_rfl) fun a hF=>e_end (by kernel_rfl) (n_jn ?_) _
   obtain rfl:=someI hj1
   exact ⟨hF.sub ⟨rfl,rfl,trivial⟩,hS⟩
 ·rintro a w ⟨hF,hS⟩
  refine n_sq ?_
  refine q_seq (q_region (q_x (v:=(.pointer (some ⟨b_p_c,0,none⟩))) hF hS (ex_move rfl) rfl rfl fun a hF=>q_x (v:=(.pointer (some ⟨b_p_c,0,none⟩))) hF hS (ex_nilCheck rfl) rfl rfl fun a hF=>q_x (v:=(.pointer (some ⟨b_p_c,1,none⟩))) hF hS (ex_fieldAddr Tryd.underlying76 rfl sz3 rfl rfl) rfl rfl fun a hF=>q_x (v:=(iV p_c.at_)) hF hS (ex_load1 0 0 Tryd.underlying3 rfl rfl rfl rfl) rfl rfl fun a hF=>q_x (v:=(iV (w64 (p_c.at_ + 1)))) hF hS (ex_ibin rfl rfl rfl) rfl rfl fun a hF=>q_x (v:=(.pointer (some ⟨b_p_c,0,none⟩))) hF hS (ex_nilCheck rfl) rfl rfl fun a hF=>q_x (v:=(.pointer (some ⟨b_p_c,1,none⟩))) hF hS (ex_fieldAddr Tryd.underlying76 rfl sz3 rfl rfl) rfl rfl fun a hF=>q_store (vs:=[(iV (w64 (p_c.at_ + 1)))]) (cs':=[s1.v,(iV (w64 (p_c.at_ + 1))),(.int .u64 p_c.seed.v)]) 0 0 hF hS sz3 rfl rfl rfl rfl rfl rfl rfl rfl fun a w hF hS=>q_end (n_sq (q_seq (q_region (q_x (v:=(.pointer (some ⟨b_p_c,0,none⟩))) hF hS (ex_move rfl) rfl rfl fun a hF=>q_x (v:=(.pointer (some ⟨b_p_c,0,none⟩))) hF hS (ex_move rfl) rfl rfl fun a hF=>q_x (v:=(.pointer (some ⟨b_p_c,0,none⟩))) hF hS (ex_nilCheck rfl) rfl rfl fun a hF=>q_x (v:=(.pointer (some ⟨b_p_c,2,none⟩))) hF hS (ex_fieldAddr Tryd.underlying76 rfl sz74 rfl rfl) rfl rfl fun a hF=>q_x (v:=(.int .u64 p_c.seed.v)) hF hS (ex_load1 0 0 Tryd.underlying74 rfl rfl rfl rfl) rfl rfl fun a hF=>q_x (v:=(.int .u64 (IntKind.wrap .u64 (p_c.seed.v * 6364136223846793005)))) hF hS (ex_ibin rfl rfl rfl) rfl rfl fun a hF=>q_x (v:=(iV b_4)) hF hS (ex_move rfl) rfl rfl fun a hF=>q_x (v:=(.int .u64 (IntKind.wrap .u64 b_4))) hF hS (ex_conv Tryd.underlying3 Tryd.underlying74 rfl) rfl rfl fun a hF=>q_x (v:=(.int .u64 (IntKind.wrap .u64 ((IntKind.wrap .u64 (p_c.seed.v * 6364136223846793005)) + (IntKind.wrap .u64 b_4))))) hF hS (ex_ibin rfl rfl rfl) rfl rfl fun a hF=>q_x (v:=(.int .u64 (IntKind.wrap .u64 ((IntKind.wrap .u64 ((IntKind.wrap .u64 (p_c.seed.v * 6364136223846793005)) + (IntKind.wrap .u64 b_4))) + 1442695040888963407)))) hF hS (ex_ibin rfl rfl rfl) rfl rfl fun a hF=>q_x (v:=(.pointer (some ⟨b_p_c,0,none⟩))) hF hS (ex_nilCheck rfl) rfl rfl fun a hF=>q_x (v:=(.pointer (some ⟨b_p_c,2,none⟩))) hF hS (ex_fieldAddr Tryd.underlying76 rfl sz74 rfl rfl) rfl rfl fun a hF=>?_))))))
  refine q_store (vs:=[(.int .u64 (IntKind.wrap .u64 ((IntKind.wrap .u64 ((IntKind.wrap .u64 (p_c.seed.v * 6364136223846793005)) + (IntKind.wrap .u64 b_4))) + 1442695040888963407)))]) (cs':=[s1.v,(iV (w64 (p_c.at_ + 1))),(.int .u64 (IntKind.wrap .u64 ((IntKind.wrap .u64 ((IntKind.wrap .u64 (p_c.seed.v * 6364136223846793005)) + (IntKind.wrap .u64 b_4))) + 1442695040888963407)))]) 0 0 hF hS sz74 rfl rfl rfl rfl rfl rfl rfl rfl fun a w hF hS=>q_end (n_sq (q_seq (q_seq (e_region ⟨[],[]⟩ mixed fun w' hw'=>?_))))
  have hS:=hS.below hw'
  refine e_p (v:=(.pointer (some ⟨b_p_c,0,none⟩))) 0 hF rfl (ex_move rfl) rfl rfl (by kernel_rfl) (by kernel_rfl) (by kernel_rfl) fun a hF=>e_p (v:=(.pointer (some ⟨b_p_c,0,none⟩))) 1 hF rfl (ex_nilCheck rfl) rfl rfl (by kernel_rfl) (by kernel_rfl) (by kernel_rfl) fun a hF=>e_p (v:=(.pointer (some ⟨b_p_c,1,none⟩))) 2 hF rfl (ex_fieldAddr Tryd.underlying76 rfl sz3 rfl rfl) rfl rfl (by kernel_rfl) (by kernel_rfl) (by kernel_rfl) fun a hF=>e_x (v:=(iV (w64 (p_c.at_ + 1)))) 3 hF hS rfl (ex_load1 0 0 Tryd.underlying3 rfl rfl rfl rfl) rfl rfl (by kernel_rfl) (by kernel_rfl) (by kernel_rfl) (by kernel_rfl) fun a hF=>e_p (v:=(.pointer (some ⟨b_p_c,0,none⟩))) 4 hF rfl (ex_move rfl) rfl rfl (by kernel_rfl) (by kernel_rfl) (by kernel_rfl) fun a hF=>e_p (v:=(.pointer (some ⟨b_p_c,0,none⟩))) 5 hF rfl (ex_nilCheck rfl) rfl rfl (by kernel_rfl) (by kernel_rfl) (by kernel_rfl) fun a hF=>e_p (v:=(.pointer (some ⟨b_p_c,0,none⟩))) 6 hF rfl (ex_fieldAddr Tryd.underlying76 rfl sz22 rfl rfl) rfl rfl (by kernel_rfl) (by kernel_rfl) (by kernel_rfl) fun a hF=>e_x (v:=s1.v) 7 hF hS rfl (ex_load1 0 0 Tryd.underlying22 rfl rfl rfl rfl) rfl rfl (by kernel_rfl) (by kernel_rfl) (by kernel_rfl) (by kernel_rfl) fun a hF=>e_p (v:=(iV (goLen p_c.code))) 8 hF rfl (ex_len Tryd.underlying22 rfl h1.len) rfl rfl (by kernel_rfl) (by kernel_rfl) (by kernel_rfl) fun a hF=>e_p (v:=(.bool (decide ((w64 (p_c.at_ + 1)) ≤ (goLen p_c.code))))) 9 hF rfl (ex_ibin rfl rfl rfl) rfl rfl (by kernel_rfl) (by kernel_rfl) (by kernel_rfl) fun a hF=>e_end (by kernel_rfl) (n_sq ?_) _
  rcases bcase (decide ((w64 (p_c.at_ + 1)) ≤ (goLen p_c.code))) with hc3 | hc3
  ·have hr:=cond_f hc3 hr
   refine q_cond_f hF rfl hc3 (q_skipc (n_sq (q_seq (q_region (q_x (v:=(.pointer (some ⟨b_p_c,0,none⟩))) hF hS (ex_move rfl) rfl rfl fun a hF=>q_x (v:=(.pointer (some ⟨b_p_c,0,none⟩))) hF hS (ex_nilCheck rfl) rfl rfl fun a hF=>q_x (v:=(.pointer (some ⟨b_p_c,2,none⟩))) hF hS (ex_fieldAddr Tryd.underlying76 rfl sz74 rfl rfl) rfl rfl fun a hF=>q_x (v:=(.int .u64 (IntKind.wrap .u64 ((IntKind.wrap .u64 ((IntKind.wrap .u64 (p_c.seed.v * 6364136223846793005)) + (IntKind.wrap .u64 b_4))) + 1442695040888963407)))) hF hS (ex_load1 0 0 Tryd.underlying74 rfl rfl rfl rfl) rfl rfl fun a hF=>?_)))))
   obtain ⟨t_5,ht_5,hr⟩:=bindS hr
   refine q_x (v:=(.int .u64 t_5)) hF hS (ex_shr rfl rfl ht_5) rfl rfl fun a hF=>q_x (v:=(.int .u64 (goBits .and .u64 t_5 255))) hF hS (ex_bits rfl rfl rfl) rfl rfl fun a hF=>q_x (v:=(iV (w64 (goBits .and .u64 t_5 255)))) hF hS (ex_conv Tryd.underlying74 Tryd.underlying3 rfl) rfl rfl fun a hF=>q_x (v:=(iV (w64 (goBits .and .u64 t_5 255)))) hF hS (ex_assign rfl) rfl rfl fun a hF=>q_end (n_sq (q_ret ?_))
   obtain rfl:=someI hr
   exact ret_ofX hF hS rfl (.tmp rfl .nil) ⟨rfl,hS.sel [0] (by decide),rfl⟩
  ·have hr:=cond_t hc3 hr
   refine q_cond_t hF rfl hc3 (q_seq (q_region (q_x (v:=(iV b_4)) hF hS (ex_move rfl) rfl rfl fun a hF=>q_x (v:=(iV b_4)) hF hS (ex_assign rfl) rfl rfl fun a hF=>q_end (n_sq (q_ret (r_sq ?_))))))
   obtain rfl:=someI hr
   exact ret_ofX hF hS rfl (.tmp rfl .nil) ⟨rfl,hS.sel [0] (by decide),rfl⟩

theorem c_spec_l1Cur_pick (p_c : spec_l1Cur) (p_n : Int) (r : Int × spec_l1Cur) (hr : spec_l1Cur_pick p_c p_n = some r) (w0 : World) (m : Mem) (b_p_c : Nat) (s1 : Sl) (h1 : Rd m s1 p_c.code) (X : List Nat) (hS : St X w0 w0 m [[⟨b_p_c,[s1.v,(iV p_c.at_),(.int .u64 p_c.seed.v)],76⟩]]) :
  RetX Tryd.prog 52 [(.pointer (some ⟨b_p_c,0,none⟩)),(iV p_n)] w0 (fun v w=>v = (iV r.1)∧St X w0 w m [[⟨b_p_c,[s1.v,(iV r.2.at_),(.int .u64 r.2.seed.v)],76⟩]]∧r.2.code = p_c.code):=by
 unfold spec_l1Cur_pick at hr
 refine ret_startX Tryd.func52 rfl 20 rfl rfl fun a hF=>q_seq (q_region (q_x (v:=(iV 0)) hF hS (ex_assign rfl) rfl rfl fun a hF=>q_end (n_sq (q_seq (q_seq (q_region (q_x (v:=(iV p_n)) hF hS (ex_move rfl) rfl rfl fun a hF=>q_x (v:=(.bool (decide (p_n ≤ 1)))) hF hS (ex_ibin rfl rfl rfl) rfl rfl fun a hF=>q_end (n_sq ?_))))))))
 rcases bcase (decide (p_n ≤ 1)) with hc1 | hc1
 ·have hr:=cond_f hc1 hr
  refine q_cond_f hF rfl hc1 (q_skipc (n_sq (q_seq (q_region (q_x (v:=(.pointer (some ⟨b_p_c,0,none⟩))) hF hS (ex_move rfl) rfl rfl fun a hF=>?_)))))
  have hS2 : St _ _ _ _ ([[⟨b_p_c,[s1.v,(iV p_c.at_),(.int .u64 p_c.seed.v)],76⟩]]++[]):=hS
  have hE2:=hS2.enter
  obtain ⟨t_3,ht_3,hr⟩:=bindS hr
  refine q_do rfl fun _ hK=>wp_callX (vs:=[(.pointer (some ⟨b_p_c,0,none⟩))]) hF Tryd.func107 (by kernel_rfl) rfl rfl rfl (c_spec_l1Cur_next p_c t_3 ht_3 _ m b_p_c s1 h1 _ hE2) fun a w _ hR hF=>hK _ _ ?_
  obtain ⟨rfl,hR2,hk4⟩:=hR
  have hS : St _ _ _ _ [[⟨b_p_c,[s1.v,(iV t_3.2.at_),(.int .u64 t_3.2.seed.v)],76⟩]]:=hS2.leaveF hR2
  have h4 : Rd m s1 t_3.2.code:=by rw [hk4]; exact h1
  refine q_x (v:=(iV t_3.1)) hF hS (ex_assign rfl) rfl rfl fun a hF=>q_end (n_sq (q_seq (q_seq (q_region (q_x (v:=(iV p_n)) hF hS (ex_move rfl) rfl rfl fun a hF=>q_x (v:=(.bool (decide (200 < p_n)))) hF hS (ex_ibin rfl rfl rfl) rfl rfl fun a hF=>q_end (n_sq ?_))))))
  obtain ⟨j2,hj2,hr⟩:=bindS hr
  refine q_join (fun a w=>∃ x_8,∃ p_c_9,j2 = (x_8,p_c_9)∧Fr a 20 [(1,(iV p_n)),(5,(iV x_8))]∧St X w0 w m [[⟨b_p_c,[s1.v,(iV p_c_9.at_),(.int .u64 p_c_9.seed.v)],76⟩]]∧Rd m s1 p_c_9.code∧p_c_9.code = p_c.code) ?_ ?_
  ·rcases bcase (decide (200 < p_n)) with hc3 | hc3
   ·have hj2:=cond_f hc3 hj2
    refine q_cond_f hF rfl hc3 (q_skipc (n_jn ?_))
    obtain rfl:=someI hj2
    exact ⟨_,_,rfl,hF.sub ⟨rfl,rfl,trivial⟩,hS,h4,hk4⟩
   ·have hj2:=cond_t hc3 hj2
    refine q_cond_t hF rfl hc3 (q_region (q_x (v:=(iV t_3.1)) hF hS (ex_move rfl) rfl rfl fun a hF=>q_x (v:=(iV (w64 (t_3.1 * 256)))) hF hS (ex_ibin rfl rfl rfl) rfl rfl fun a hF=>q_x (v:=(.pointer (some ⟨b_p_c,0,none⟩))) hF hS (ex_move rfl) rfl rfl fun a hF=>?_))
    have hS5 : St _ _ _ _ ([[⟨b_p_c,[s1.v,(iV t_3.2.at_),(.int .u64 t_3.2.seed.v)],76⟩]]++[]):=hS
    have hE5:=hS5.enter
    obtain ⟨t_6,ht_6,hj2⟩:=bindS hj2
    refine q_do rfl fun _ hK=>wp_callX (vs:=[(.pointer (some ⟨b_p_c,0,none⟩))]) hF Tryd.func107 (by kernel_rfl) rfl rfl rfl (c_spec_l1Cur_next t_3.2 t_6 ht_6 _ m b_p_c s1 h4 _ hE5) fun a w _ hR hF=>hK _ _ ?_
    obtain ⟨rfl,hR5,hk7⟩:=hR
    have hS : St _ _ _ _ [[⟨b_p_c,[s1.v,(iV t_6.2.at_),(.int .u64 t_6.2.seed.v)],76⟩]]:=hS5.leaveF hR5
    have h7 : Rd m s1 t_6.2.code:=by rw [hk7]; exact h4
    refine q_x (v:=(iV (w64 ((w64 (t_3.1 * 256)) + t_6.1)))) hF hS (ex_ibin rfl rfl rfl) rfl rfl fun a hF=>q_x (v:=(iV (w64 ((w64 (t_3.1 * 256)) + t_6.1)))) hF hS (ex_assign rfl) rfl rfl fun a hF=>q_end (n_jn ?_)
    obtain rfl:=someI hj2
    exact ⟨_,_,rfl,hF.sub ⟨rfl,rfl,trivial⟩,hS,h7,(hk7.trans hk4)⟩
  ·rintro a w ⟨x_8,p_c_9,rfl,hF,hS,h10,h10k⟩
   refine n_sq ?_
   refine q_seq (q_region (q_x (v:=(iV x_8)) hF hS (ex_move rfl) rfl rfl fun a hF=>q_x (v:=(iV p_n)) hF hS (ex_move rfl) rfl rfl fun a hF=>?_))
   obtain ⟨t_11,ht_11,hr⟩:=bindS hr
   refine q_x (v:=(iV t_11)) hF hS (ex_rem rfl rfl ht_11) rfl rfl fun a hF=>q_x (v:=(iV t_11)) hF hS (ex_assign rfl) rfl rfl fun a hF=>q_end (n_sq (q_ret ?_))
   obtain rfl:=someI hr
   exact ret_ofX hF hS rfl (.tmp rfl .nil) ⟨rfl,hS.sel [0] (by decide),h10k⟩
 ·have hr:=cond_t hc1 hr
  refine q_cond_t hF rfl hc1 (q_seq (q_region (q_x (v:=(iV 0)) hF hS (ex_assign rfl) rfl rfl fun a hF=>q_end (n_sq (q_ret (r_sq ?_))))))
  obtain rfl:=someI hr
  exact ret_ofX hF hS rfl (.tmp rfl .nil) ⟨rfl,hS.sel [0] (by decide),rfl⟩

theorem c_spec_l1Cur_one (p_c : spec_l1Cur) (p_n : Int) (r : Bool × spec_l1Cur) (hr : spec_l1Cur_one p_c p_n = some r) (w0 : World) (m : Mem) (b_p_c : Nat) (s1 : Sl) (h1 : Rd m s1 p_c.code) (X : List Nat) (hS : St X w0 w0 m [[⟨b_p_c,[s1.v,(iV p_c.at_),(.int .u64 p_c.seed.v)],76⟩]]) :
  RetX Tryd.prog 50 [(.pointer (some ⟨b_p_c,0,none⟩)),(iV p_n)] w0 (fun v w=>v = (.bool r.1)∧St X w0 w m [[⟨b_p_c,[s1.v,(iV r.2.at_),(.int .u64 r.2.seed.v)],76⟩]]∧r.2.code = p_c.code):=by
 unfold spec_l1Cur_one at hr
 refine ret_startX Tryd.func50 rfl 9 rfl rfl fun a hF=>q_seq (q_region (q_x (v:=(.bool false)) hF hS (ex_assign rfl) rfl rfl fun a hF=>q_end (n_sq (q_seq (q_region (q_x (v:=(.pointer (some ⟨b_p_c,0,none⟩))) hF hS (ex_move rfl) rfl rfl fun a hF=>q_x (v:=(iV p_n)) hF hS (ex_move rfl) rfl rfl fun a hF=>?_))))))
 have hS2 : St _ _ _ _ ([[⟨b_p_c,[s1.v,(iV p_c.at_),(.int .u64 p_c.seed.v)],76⟩]]++[]):=hS
 have hE2:=hS2.enter
 obtain ⟨t_3,ht_3,hr⟩:=bindS hr
 refine q_do rfl fun _ hK=>wp_callX (vs:=[(.pointer (some ⟨b_p_c,0,none⟩)),(iV p_n)]) hF Tryd.func52 (by kernel_rfl) rfl rfl rfl (c_spec_l1Cur_pick p_c p_n t_3 ht_3 _ m b_p_c s1 h1 _ hE2) fun a w _ hR hF=>hK _ _ ?_
 obtain ⟨rfl,hR2,hk4⟩:=hR
 have hS : St _ _ _ _ [[⟨b_p_c,[s1.v,(iV t_3.2.at_),(.int .u64 t_3.2.seed.v)],76⟩]]:=hS2.leaveF hR2
 have h4 : Rd m s1 t_3.2.code:=by rw [hk4]; exact h1
 refine q_x (v:=(.bool (t_3.1 == 0))) hF hS (ex_ibin rfl rfl rfl) rfl rfl fun a hF=>q_x (v:=(.bool (t_3.1 == 0))) hF hS (ex_assign rfl) rfl rfl fun a hF=>q_end (n_sq (q_ret ?_))
 obtain rfl:=someI hr
 exact ret_ofX hF hS rfl (.tmp rfl .nil) ⟨rfl,hS.sel [0] (by decide),hk4⟩

theorem c_spec_l1Most (p_a : Int) (p_b : Int) (r : Int) (hr : spec_l1Most p_a p_b = some r) (w0 : World) (m : Mem) (hv : Vis m w0) :
  Ret Tryd.prog 130 [(iV p_a),(iV p_b)] w0 (fun v _=>v = (iV r)):=by
 unfold spec_l1Most at hr
 refine ret_start Tryd.func130 rfl 10 rfl rfl m hv fun a hF hS=>q_seq (q_region (q_x (v:=(iV 0)) hF hS (ex_assign rfl) rfl rfl fun a hF=>q_end (n_sq (q_seq (q_seq (q_region (q_x (v:=(iV p_a)) hF hS (ex_move rfl) rfl rfl fun a hF=>q_x (v:=(iV p_b)) hF hS (ex_move rfl) rfl rfl fun a hF=>q_x (v:=(.bool (decide (p_b < p_a)))) hF hS (ex_ibin rfl rfl rfl) rfl rfl fun a hF=>q_end (n_sq ?_))))))))
 rcases bcase (decide (p_b < p_a)) with hc1 | hc1
 ·have hr:=cond_f hc1 hr
  refine q_cond_f hF rfl hc1 (q_skipc (n_sq (q_seq (q_region (q_x (v:=(iV p_b)) hF hS (ex_move rfl) rfl rfl fun a hF=>q_x (v:=(iV p_b)) hF hS (ex_assign rfl) rfl rfl fun a hF=>q_end (n_sq (q_ret ?_)))))))
  obtain rfl:=someI hr
  exact ret_of hF hS rfl (.tmp rfl .nil) rfl
 ·have hr:=cond_t hc1 hr
  refine q_cond_t hF rfl hc1 (q_seq (q_region (q_x (v:=(iV p_a)) hF hS (ex_move rfl) rfl rfl fun a hF=>q_x (v:=(iV p_a)) hF hS (ex_assign rfl) rfl rfl fun a hF=>q_end (n_sq (q_ret (r_sq ?_))))))
  obtain rfl:=someI hr
  exact ret_of hF hS rfl (.tmp rfl .nil) rfl

theorem c_spec_l1Abs (p_n : Int) (r : Int) (hr : spec_l1Abs p_n = some r) (w0 : World) (m : Mem) (hv : Vis m w0) :
  Ret Tryd.prog 131 [(iV p_n)] w0 (fun v _=>v = (iV r)):=by
 unfold spec_l1Abs at hr
 refine ret_start Tryd.func131 rfl 7 rfl rfl m hv fun a hF hS=>q_seq (q_region (q_x (v:=(iV 0)) hF hS (ex_assign rfl) rfl rfl fun a hF=>q_end (n_sq (q_seq (q_region (q_x (v:=(iV p_n)) hF hS (ex_move rfl) rfl rfl fun a hF=>q_x (v:=(iV p_n)) hF hS (ex_move rfl) rfl rfl fun a hF=>q_x (v:=(iV (w64 (-p_n)))) hF hS (ex_neg rfl) rfl rfl fun a hF=>?_))))))
 obtain ⟨t_1,ht_1,hr⟩:=bindS hr
 refine q_call (vs:=[(iV p_n),(iV (w64 (-p_n)))]) hF hS Tryd.func130 (by kernel_rfl) rfl rfl rfl (c_spec_l1Most p_n (w64 (-p_n)) t_1 ht_1 _ m hS.vis) ?_
 rintro a w _ rfl hF hS
 refine q_x (v:=(iV t_1)) hF hS (ex_assign rfl) rfl rfl fun a hF=>q_end (n_sq (q_ret ?_))
 obtain rfl:=someI hr
 exact ret_of hF hS rfl (.tmp rfl .nil) rfl

theorem c_spec_fGcd (p_a : Int) (p_b : Int) (r : Int) (hr : spec_fGcd p_a p_b = some r) (w0 : World) (m : Mem) (hv : Vis m w0) :
  Ret Tryd.prog 106 [(iV p_a),(iV p_b)] w0 (fun v _=>v = (iV r)):=by
 unfold spec_fGcd at hr
 refine ret_start Tryd.func106 rfl 15 rfl rfl m hv fun a hF hS=>q_seq (q_region (q_x (v:=(iV 0)) hF hS (ex_assign rfl) rfl rfl fun a hF=>q_end (n_sq (q_seq (q_block ?_)))))
 obtain ⟨a_4,hl1,hr⟩:=bindS hr
 refine q_loop (fun (s : Int × Int) a w=>∃ a_1,∃ b_2,s = (a_1,b_2)∧Fr a 15 [(0,(iV a_1)),(1,(iV b_2))]∧St [] w0 w m []) (fun (a_4 : Int) e a w=>e = .exit 0∧Fr a 15 [(0,(iV a_4))]∧St [] w0 w m []) hl1 ⟨_,_,rfl,hF.sub ⟨rfl,rfl,trivial⟩,hS⟩ ?_ ?_
 ·clear hF hS
  rintro s a w st ⟨a_1,b_2,rfl,hF,hS⟩ hb1
  unfold spec_fGcd_l1 at hb1
  refine q_seq (q_seq (q_region (q_x (v:=(iV b_2)) hF hS (ex_move rfl) rfl rfl fun a hF=>q_x (v:=(.bool (b_2 != 0))) hF hS (ex_ibin rfl rfl rfl) rfl rfl fun a hF=>q_end (n_sq ?_))))
  rcases bcase (b_2 != 0) with hc2 | hc2
  ·have hb1:=cond_f hc2 hb1
   refine q_cond_f hF rfl hc2 (q_exit (x_sq ?_))
   obtain rfl:=someI hb1
   exact ⟨nofun,.inl ⟨rfl,hF.sub ⟨rfl,trivial⟩,hS⟩⟩
  ·have hb1:=cond_t hc2 hb1
   refine q_cond_t hF rfl hc2 (q_skipc (n_sq (q_block (q_seq (q_region (q_x (v:=(iV a_1)) hF hS (ex_move rfl) rfl rfl fun a hF=>q_x (v:=(iV b_2)) hF hS (ex_move rfl) rfl rfl fun a hF=>?_))))))
   obtain ⟨t_3,ht_3,hb1⟩:=bindS hb1
   refine q_x (v:=(iV t_3)) hF hS (ex_rem rfl rfl ht_3) rfl rfl fun a hF=>q_x (v:=(iV t_3)) hF hS (ex_assign rfl) rfl rfl fun a hF=>q_end (n_sq (q_seq (q_region (q_x (v:=(iV b_2)) hF hS (ex_move rfl) rfl rfl fun a hF=>q_x (v:=(iV b_2)) hF hS (ex_assign rfl) rfl rfl fun a hF=>q_end (n_sq (q_region (q_x (v:=(iV t_3)) hF hS (ex_move rfl) rfl rfl fun a hF=>q_x (v:=(iV t_3)) hF hS (ex_assign rfl) rfl rfl fun a hF=>q_end (n_ib ?_))))))))
   obtain rfl:=someI hb1
   exact ⟨rfl,_,_,rfl,hF.sub ⟨rfl,rfl,trivial⟩,hS⟩
 ·rintro e a w ⟨rfl,hF,hS⟩
  refine x_ib (n_sq ?_)
  refine q_seq (q_region (q_x (v:=(iV a_4)) hF hS (ex_move rfl) rfl rfl fun a hF=>?_))
  obtain ⟨t_5,ht_5,hr⟩:=bindS hr
  refine q_call (vs:=[(iV a_4)]) hF hS Tryd.func131 (by kernel_rfl) rfl rfl rfl (c_spec_l1Abs a_4 t_5 ht_5 _ m hS.vis) ?_
  rintro a w _ rfl hF hS
  refine q_x (v:=(iV t_5)) hF hS (ex_assign rfl) rfl rfl fun a hF=>q_end (n_sq (q_ret ?_))
  obtain rfl:=someI hr
  exact ret_of hF hS rfl (.tmp rfl .nil) rfl

theorem c_spec_l1In (p_n : Int) (p_lo : Int) (p_hi : Int) (r : Bool) (hr : spec_l1In p_n p_lo p_hi = some r) (w0 : World) (m : Mem) (hv : Vis m w0) :
  Ret Tryd.prog 62 [(iV p_n),(iV p_lo),(iV p_hi)] w0 (fun v _=>v = (.bool r)):=by
 unfold spec_l1In at hr
 refine ret_start Tryd.func62 rfl 15 rfl rfl m hv fun a hF hS=>q_seq (q_region (q_x (v:=(.bool false)) hF hS (ex_assign rfl) rfl rfl fun a hF=>q_end (n_sq (q_seq ?_))))
 obtain ⟨t_1,hj1,hr⟩:=bindS hr
 refine q_join (fun a w=>Fr a 15 [(6,(.bool t_1))]∧St [] w0 w m []) ?_ ?_
 ·refine q_region (q_x (v:=(iV p_n)) hF hS (ex_move rfl) rfl rfl fun a hF=>q_x (v:=(iV p_lo)) hF hS (ex_move rfl) rfl rfl fun a hF=>q_x (v:=(.bool (decide (p_lo ≤ p_n)))) hF hS (ex_ibin rfl rfl rfl) rfl rfl fun a hF=>q_x (v:=(.bool (decide (p_lo ≤ p_n)))) hF hS (ex_move rfl) rfl rfl fun a hF=>?_)
  rcases bcase (decide (p_lo ≤ p_n)) with hc2 | hc2
  ·have hj1:=cond_f hc2 hj1
   refine q_skip hF (wanted_f hF rfl rfl rfl hc2 rfl) rfl fun a hF=>q_skip hF (wanted_f hF rfl rfl rfl hc2 rfl) rfl fun a hF=>q_skip hF (wanted_f hF rfl rfl rfl hc2 rfl) rfl fun a hF=>q_x (v:=(.bool false)) hF hS (ex_pick_f rfl rfl hc2) rfl rfl fun a hF=>q_x (v:=(.bool false)) hF hS (ex_assign rfl) rfl rfl fun a hF=>q_end (n_jn ?_)
   obtain rfl:=someI hj1
   exact ⟨hF.sub ⟨rfl,trivial⟩,hS⟩
  ·have hj1:=cond_t hc2 hj1
   refine q_xg (v:=(iV p_n)) hF hS (ex_move rfl) (wanted_t hF rfl rfl rfl hc2) rfl fun a hF=>q_xg (v:=(iV p_hi)) hF hS (ex_move rfl) (wanted_t hF rfl rfl rfl hc2) rfl fun a hF=>q_xg (v:=(.bool (decide (p_n ≤ p_hi)))) hF hS (ex_ibin rfl rfl rfl) (wanted_t hF rfl rfl rfl hc2) rfl fun a hF=>q_x (v:=(.bool (decide (p_n ≤ p_hi)))) hF hS (ex_pick_t rfl rfl hc2) rfl rfl fun a hF=>q_x (v:=(.bool (decide (p_n ≤ p_hi)))) hF hS (ex_assign rfl) rfl rfl fun a hF=>q_end (n_jn ?_)
   obtain rfl:=someI hj1
   exact ⟨hF.sub ⟨rfl,trivial⟩,hS⟩
 ·rintro a w ⟨hF,hS⟩
  refine n_sq (q_ret ?_)
  obtain rfl:=someI hr
  exact ret_of hF hS rfl (.tmp rfl .nil) rfl

theorem c_spec_fGood (p_f : impl_Frac) (r : Bool) (hr : spec_fGood p_f = some r) (w0 : World) (m : Mem) (hv : Vis m w0) :
  Ret Tryd.prog 56 [(.agg #[(iV p_f.Num),(iV p_f.Den)])] w0 (fun v _=>v = (.bool r)):=by
 unfold spec_fGood at hr
 refine ret_start Tryd.func56 rfl 19 rfl rfl m hv fun a hF hS=>q_seq (q_region (q_box (cs:=[(iV p_f.Num),(iV p_f.Den)]) hF hS rfl rfl rfl fun a w b1 hF hS=>q_x (v:=(.bool false)) hF hS (ex_assign rfl) rfl rfl fun a hF=>q_end (n_sq (q_seq ?_))))
 obtain ⟨t_5,hj1,hr⟩:=bindS hr
 refine q_join (fun a w=>Fr a 19 [(2,(.bool t_5))]∧St [] w0 w m []) ?_ ?_
 ·refine q_region (q_x (v:=(.pointer (some ⟨b1,1,none⟩))) hF hS (ex_fieldAddr Tryd.underlying24 rfl sz3 rfl rfl) rfl rfl fun a hF=>q_x (v:=(iV p_f.Den)) hF hS (ex_load1 0 0 Tryd.underlying3 rfl rfl rfl rfl) rfl rfl fun a hF=>?_)
  obtain ⟨t_2,ht_2,hj1⟩:=bindS hj1
  refine q_call (vs:=[(iV p_f.Den),(iV 1),(iV 1000000000)]) hF hS Tryd.func62 (by kernel_rfl) rfl rfl rfl (c_spec_l1In p_f.Den 1 1000000000 t_2 ht_2 _ m hS.vis) ?_
  rintro a w _ rfl hF hS
  refine q_x (v:=(.bool t_2)) hF hS (ex_move rfl) rfl rfl fun a hF=>?_
  rcases bcase (t_2) with hc2 | hc2
  ·have hj1:=cond_f hc2 hj1
   refine q_skip hF (wanted_f hF rfl rfl rfl hc2 rfl) rfl fun a hF=>q_skip hF (wanted_f hF rfl rfl rfl hc2 rfl) rfl fun a hF=>q_skip hF (wanted_f hF rfl rfl rfl hc2 rfl) rfl fun a hF=>q_x (v:=(.bool false)) hF hS (ex_pick_f rfl rfl hc2) rfl rfl fun a hF=>q_x (v:=(.bool false)) hF hS (ex_move rfl) rfl rfl fun a hF=>q_skip hF (wanted_f hF rfl rfl rfl rfl rfl) rfl fun a hF=>q_skip hF (wanted_f hF rfl rfl rfl rfl rfl) rfl fun a hF=>q_skip hF (wanted_f hF rfl rfl rfl rfl rfl) rfl fun a hF=>q_skip hF (wanted_f hF rfl rfl rfl rfl rfl) rfl fun a hF=>q_skip hF (wanted_f hF rfl rfl rfl rfl rfl) rfl fun a hF=>q_skip hF (wanted_f hF rfl rfl rfl rfl rfl) rfl fun a hF=>q_x (v:=(.bool false)) hF hS (ex_pick_f rfl rfl rfl) rfl rfl fun a hF=>q_x (v:=(.bool false)) hF hS (ex_assign rfl) rfl rfl fun a hF=>q_end (n_jn ?_)
   obtain rfl:=someI hj1
   exact ⟨hF.sub ⟨rfl,trivial⟩,hS.mask [false]⟩
  ·have hj1:=cond_t hc2 hj1
   refine q_xg (v:=(.pointer (some ⟨b1,0,none⟩))) hF hS (ex_fieldAddr Tryd.underlying24 rfl sz3 rfl rfl) (wanted_t hF rfl rfl rfl hc2) rfl fun a hF=>q_xg (v:=(iV p_f.Num)) hF hS (ex_load1 0 0 Tryd.underlying3 rfl rfl rfl rfl) (wanted_t hF rfl rfl rfl hc2) rfl fun a hF=>?_
   obtain ⟨t_3,ht_3,hj1⟩:=bindS hj1
   refine q_callg (vs:=[(iV p_f.Num),(iV (-1000000000)),(iV 1000000000)]) hF hS (wanted_t hF rfl rfl rfl hc2) Tryd.func62 (by kernel_rfl) rfl rfl rfl (c_spec_l1In p_f.Num (-1000000000) 1000000000 t_3 ht_3 _ m hS.vis) ?_
   rintro a w _ rfl hF hS
   refine q_x (v:=(.bool t_3)) hF hS (ex_pick_t rfl rfl hc2) rfl rfl fun a hF=>q_x (v:=(.bool t_3)) hF hS (ex_move rfl) rfl rfl fun a hF=>?_
   rcases bcase (t_3) with hc3 | hc3
   ·have hj1:=cond_f hc3 hj1
    refine q_skip hF (wanted_f hF rfl rfl rfl hc3 rfl) rfl fun a hF=>q_skip hF (wanted_f hF rfl rfl rfl hc3 rfl) rfl fun a hF=>q_skip hF (wanted_f hF rfl rfl rfl hc3 rfl) rfl fun a hF=>q_skip hF (wanted_f hF rfl rfl rfl hc3 rfl) rfl fun a hF=>q_skip hF (wanted_f hF rfl rfl rfl hc3 rfl) rfl fun a hF=>q_skip hF (wanted_f hF rfl rfl rfl hc3 rfl) rfl fun a hF=>q_x (v:=(.bool false)) hF hS (ex_pick_f rfl rfl hc3) rfl rfl fun a hF=>q_x (v:=(.bool false)) hF hS (ex_assign rfl) rfl rfl fun a hF=>q_end (n_jn ?_)
    obtain rfl:=someI hj1
    exact ⟨hF.sub ⟨rfl,trivial⟩,hS.mask [false]⟩
   ·have hj1:=cond_t hc3 hj1
    refine q_xg (v:=(.pointer (some ⟨b1,0,none⟩))) hF hS (ex_fieldAddr Tryd.underlying24 rfl sz3 rfl rfl) (wanted_t hF rfl rfl rfl hc3) rfl fun a hF=>q_xg (v:=(iV p_f.Num)) hF hS (ex_load1 0 0 Tryd.underlying3 rfl rfl rfl rfl) (wanted_t hF rfl rfl rfl hc3) rfl fun a hF=>q_xg (v:=(.pointer (some ⟨b1,1,none⟩))) hF hS (ex_fieldAddr Tryd.underlying24 rfl sz3 rfl rfl) (wanted_t hF rfl rfl rfl hc3) rfl fun a hF=>q_xg (v:=(iV p_f.Den)) hF hS (ex_load1 0 0 Tryd.underlying3 rfl rfl rfl rfl) (wanted_t hF rfl rfl rfl hc3) rfl fun a hF=>?_
    obtain ⟨t_4,ht_4,hj1⟩:=bindS hj1
    refine q_callg (vs:=[(iV p_f.Num),(iV p_f.Den)]) hF hS (wanted_t hF rfl rfl rfl hc3) Tryd.func106 (by kernel_rfl) rfl rfl rfl (c_spec_fGcd p_f.Num p_f.Den t_4 ht_4 _ m hS.vis) ?_
    rintro a w _ rfl hF hS
    refine q_xg (v:=(.bool (t_4 == 1))) hF hS (ex_ibin rfl rfl rfl) (wanted_t hF rfl rfl rfl hc3) rfl fun a hF=>q_x (v:=(.bool (t_4 == 1))) hF hS (ex_pick_t rfl rfl hc3) rfl rfl fun a hF=>q_x (v:=(.bool (t_4 == 1))) hF hS (ex_assign rfl) rfl rfl fun a hF=>q_end (n_jn ?_)
    obtain rfl:=someI hj1
    exact ⟨hF.sub ⟨rfl,trivial⟩,hS.mask [false]⟩
 ·rintro a w ⟨hF,hS⟩
  refine n_sq (q_ret ?_)
  obtain rfl:=someI hr
  exact ret_of hF hS rfl (.tmp rfl .nil) rfl

theorem c_spec_fMake (p_n : Int) (p_d : Int) (r : impl_Frac × Bool) (hr : spec_fMake p_n p_d = some r) (w0 : World) (m : Mem) (hv : Vis m w0) :
  Ret Tryd.prog 51 [(iV p_n),(iV p_d)] w0 (fun v _=>v = (.tuple #[(.agg #[(iV r.1.Num),(iV r.1.Den)]),(.bool r.2)])):=by
 unfold spec_fMake at hr
 refine ret_start Tryd.func51 rfl 30 rfl rfl m hv fun a hF hS=>q_seq (q_region (q_alloc (cs:=[(iV 0),(iV 0)]) hF hS rfl rfl rfl fun a w b1 hF hS=>q_x (v:=(.bool false)) hF hS (ex_assign rfl) rfl rfl fun a hF=>q_end (n_sq (q_seq (q_seq (q_region (q_x (v:=(iV p_d)) hF hS (ex_move rfl) rfl rfl fun a hF=>q_x (v:=(.bool (p_d == 0))) hF hS (ex_ibin rfl rfl rfl) rfl rfl fun a hF=>q_end (n_sq ?_))))))))
 rcases bcase (p_d == 0) with hc1 | hc1
 ·have hr:=cond_f hc1 hr
  refine q_cond_f hF rfl hc1 (q_skipc (n_sq (q_seq (q_region (q_x (v:=(iV p_n)) hF hS (ex_move rfl) rfl rfl fun a hF=>q_x (v:=(iV p_d)) hF hS (ex_move rfl) rfl rfl fun a hF=>?_)))))
  obtain ⟨t_2,ht_2,hr⟩:=bindS hr
  refine q_call (vs:=[(iV p_n),(iV p_d)]) hF hS Tryd.func106 (by kernel_rfl) rfl rfl rfl (c_spec_fGcd p_n p_d t_2 ht_2 _ m hS.vis) ?_
  rintro a w _ rfl hF hS
  refine q_x (v:=(iV t_2)) hF hS (ex_assign rfl) rfl rfl fun a hF=>q_end (n_sq (q_seq (q_seq (q_region (q_x (v:=(iV p_d)) hF hS (ex_move rfl) rfl rfl fun a hF=>q_x (v:=(.bool (decide (p_d < 0)))) hF hS (ex_ibin rfl rfl rfl) rfl rfl fun a hF=>q_end (n_sq ?_))))))
  obtain ⟨g_3,hj2,hr⟩:=bindS hr
  refine q_join (fun a w=>Fr a 30 [(0,(iV p_n)),(1,(iV p_d)),(4,(.pointer (some ⟨b1,0,none⟩))),(6,(iV g_3))]∧St [] w0 w m [[⟨b1,[(iV 0),(iV 0)],24⟩]]) ?_ ?_
  ·rcases bcase (decide (p_d < 0)) with hc3 | hc3
   ·have hj2:=cond_f hc3 hj2
    refine q_cond_f hF rfl hc3 (q_skipc (n_jn ?_))
    obtain rfl:=someI hj2
    exact ⟨hF.sub ⟨rfl,rfl,rfl,rfl,trivial⟩,hS⟩
   ·have hj2:=cond_t hc3 hj2
    refine q_cond_t hF rfl hc3 (q_region (q_x (v:=(iV t_2)) hF hS (ex_move rfl) rfl rfl fun a hF=>q_x (v:=(iV (w64 (-t_2)))) hF hS (ex_neg rfl) rfl rfl fun a hF=>q_x (v:=(iV (w64 (-t_2)))) hF hS (ex_assign rfl) rfl rfl fun a hF=>q_end (n_jn ?_)))
    obtain rfl:=someI hj2
    exact ⟨hF.sub ⟨rfl,rfl,rfl,rfl,trivial⟩,hS⟩
  ·rintro a w ⟨hF,hS⟩
   refine n_sq ?_
   refine q_seq (e_region ⟨[8],[]⟩ mixed fun w' hw'=>?_)
   have hS:=hS.below hw'
   refine e_p (v:=(iV p_n)) 0 hF rfl (ex_move rfl) rfl rfl (by kernel_rfl) (by kernel_rfl) (by kernel_rfl) fun a hF=>e_p (v:=(iV g_3)) 1 hF rfl (ex_move rfl) rfl rfl (by kernel_rfl) (by kernel_rfl) (by kernel_rfl) fun a hF=>?_
   obtain ⟨t_4,ht_4,hr⟩:=bindS hr
   refine e_p (v:=(iV t_4)) 2 hF rfl (ex_quo rfl rfl ht_4) rfl rfl (by kernel_rfl) (by kernel_rfl) (by kernel_rfl) fun a hF=>e_p (v:=(iV p_d)) 3 hF rfl (ex_move rfl) rfl rfl (by kernel_rfl) (by kernel_rfl) (by kernel_rfl) fun a hF=>e_p (v:=(iV g_3)) 4 hF rfl (ex_move rfl) rfl rfl (by kernel_rfl) (by kernel_rfl) (by kernel_rfl) fun a hF=>?_
   obtain ⟨t_5,ht_5,hr⟩:=bindS hr
   refine e_p (v:=(iV t_5)) 5 hF rfl (ex_quo rfl rfl ht_5) rfl rfl (by kernel_rfl) (by kernel_rfl) (by kernel_rfl) fun a hF=>e_p (v:=(.agg #[(iV t_4),(iV t_5)])) 6 hF rfl (ex_build (cells:=[(iV t_4),(iV t_5)]) rfl (by kernel_rfl)) rfl rfl (by kernel_rfl) (by kernel_rfl) (by kernel_rfl) fun a hF=>e_one 7 (by kernel_rfl) (e_alloc (cs:=[(iV 0),(iV 0)]) hF hS rfl rfl rfl rfl fun a w b6 hF hS=>e_one 8 (by kernel_rfl) (e_store (vs:=[(iV t_4),(iV t_5)]) (cs':=[(iV t_4),(iV t_5)]) 0 0 hF hS rfl rfl sz24 rfl rfl rfl rfl rfl rfl rfl rfl fun a w hF hS=>⟨kpN,?_⟩))
   refine e_end (by kernel_rfl) (n_sq ?_) _
   refine q_seq (q_seq (q_region (q_x (v:=(.agg #[(iV t_4),(iV t_5)])) hF hS (ex_loadA (vs:=[(iV t_4),(iV t_5)]) 0 0 Tryd.underlying24 rfl sz24 rfl rfl rfl rfl) rfl rfl fun a hF=>?_)))
   obtain ⟨t_7,ht_7,hr⟩:=bindS hr
   refine q_call (vs:=[(.agg #[(iV t_4),(iV t_5)])]) hF hS Tryd.func56 (by kernel_rfl) rfl rfl rfl (c_spec_fGood (impl_Frac.mk t_4 t_5) t_7 ht_7 _ m hS.vis) ?_
   rintro a w _ rfl hF hS
   refine q_x (v:=(.bool (!t_7))) hF hS (ex_not rfl) rfl rfl fun a hF=>q_end (n_sq ?_)
   rcases bcase (!t_7) with hc4 | hc4
   ·have hr:=cond_f hc4 hr
    refine q_cond_f hF rfl hc4 (q_skipc (n_sq (q_seq (q_region (q_x (v:=(.agg #[(iV t_4),(iV t_5)])) hF hS (ex_loadA (vs:=[(iV t_4),(iV t_5)]) 0 0 Tryd.underlying24 rfl sz24 rfl rfl rfl rfl) rfl rfl fun a hF=>q_store (vs:=[(iV t_4),(iV t_5)]) (cs':=[(iV t_4),(iV t_5)]) 1 0 hF hS sz24 rfl rfl rfl rfl rfl rfl rfl rfl fun a w hF hS=>q_x (v:=(.bool true)) hF hS (ex_assign rfl) rfl rfl fun a hF=>q_end (n_sq (q_ret ?_)))))))
    obtain rfl:=someI hr
    exact ret_of hF hS rfl (.cellA (us:=[(iV t_4),(iV t_5)]) 1 0 Tryd.underlying24 rfl sz24 rfl rfl rfl rfl (.tmp rfl .nil)) rfl
   ·have hr:=cond_t hc4 hr
    refine q_cond_t hF rfl hc4 (q_seq (q_region (q_x (v:=(.agg #[(iV 0),(iV 0)])) hF hS (ex_build (cells:=[(iV 0),(iV 0)]) rfl (by kernel_rfl)) rfl rfl fun a hF=>q_store (vs:=[(iV 0),(iV 0)]) (cs':=[(iV 0),(iV 0)]) 1 0 hF hS sz24 rfl rfl rfl rfl rfl rfl rfl rfl fun a w hF hS=>q_x (v:=(.bool false)) hF hS (ex_assign rfl) rfl rfl fun a hF=>q_end (n_sq (q_ret (r_sq ?_))))))
    obtain rfl:=someI hr
    exact ret_of hF hS rfl (.cellA (us:=[(iV 0),(iV 0)]) 1 0 Tryd.underlying24 rfl sz24 rfl rfl rfl rfl (.tmp rfl .nil)) rfl
 ·have hr:=cond_t hc1 hr
  refine q_cond_t hF rfl hc1 (q_seq (q_region (q_x (v:=(.agg #[(iV 0),(iV 0)])) hF hS (ex_build (cells:=[(iV 0),(iV 0)]) rfl (by kernel_rfl)) rfl rfl fun a hF=>q_store (vs:=[(iV 0),(iV 0)]) (cs':=[(iV 0),(iV 0)]) 0 0 hF hS sz24 rfl rfl rfl rfl rfl rfl rfl rfl fun a w hF hS=>q_x (v:=(.bool false)) hF hS (ex_assign rfl) rfl rfl fun a hF=>q_end (n_sq (q_ret (r_sq ?_))))))
  obtain rfl:=someI hr
  exact ret_of hF hS rfl (.cellA (us:=[(iV 0),(iV 0)]) 0 0 Tryd.underlying24 rfl sz24 rfl rfl rfl rfl (.tmp rfl .nil)) rfl

theorem c_spec_l1Cur_among (p_c : spec_l1Cur) (p_list : List Int) (r : Int × spec_l1Cur) (hr : spec_l1Cur_among p_c p_list = some r) (w0 : World) (m : Mem) (b_p_c : Nat) (s1 : Sl) (h1 : Rd m s1 p_c.code) (s2 : Sl) (h2 : Rd m s2 p_list) (X : List Nat) (hS : St X w0 w0 m [[⟨b_p_c,[s1.v,(iV p_c.at_),(.int .u64 p_c.seed.v)],76⟩]]) :
  RetX Tryd.prog 60 [(.pointer (some ⟨b_p_c,0,none⟩)),s2.v] w0 (fun v w=>v = (iV r.1)∧St X w0 w m [[⟨b_p_c,[s1.v,(iV r.2.at_),(.int .u64 r.2.seed.v)],76⟩]]∧r.2.code = p_c.code):=by
 unfold spec_l1Cur_among at hr
 refine ret_startX Tryd.func60 rfl 12 rfl rfl fun a hF=>q_seq (q_region (q_x (v:=(iV 0)) hF hS (ex_assign rfl) rfl rfl fun a hF=>q_end (n_sq (q_seq (q_region (q_x (v:=s2.v) hF hS (ex_move rfl) rfl rfl fun a hF=>q_x (v:=(.pointer (some ⟨b_p_c,0,none⟩))) hF hS (ex_move rfl) rfl rfl fun a hF=>q_x (v:=s2.v) hF hS (ex_move rfl) rfl rfl fun a hF=>q_x (v:=(iV (goLen p_list))) hF hS (ex_len Tryd.underlying42 rfl h2.len) rfl rfl fun a hF=>?_))))))
 have hS3 : St _ _ _ _ ([[⟨b_p_c,[s1.v,(iV p_c.at_),(.int .u64 p_c.seed.v)],76⟩]]++[]):=hS
 have hE3:=hS3.enter
 obtain ⟨t_4,ht_4,hr⟩:=bindS hr
 refine q_do rfl fun _ hK=>wp_callX (vs:=[(.pointer (some ⟨b_p_c,0,none⟩)),(iV (goLen p_list))]) hF Tryd.func52 (by kernel_rfl) rfl rfl rfl (c_spec_l1Cur_pick p_c (goLen p_list) t_4 ht_4 _ m b_p_c s1 h1 _ hE3) fun a w _ hR hF=>hK _ _ ?_
 obtain ⟨rfl,hR3,hk5⟩:=hR
 have hS : St _ _ _ _ [[⟨b_p_c,[s1.v,(iV t_4.2.at_),(.int .u64 t_4.2.seed.v)],76⟩]]:=hS3.leaveF hR3
 have h5 : Rd m s1 t_4.2.code:=by rw [hk5]; exact h1
 obtain ⟨e_6,he_6,hr⟩:=bindS hr
 obtain ⟨vs7,at7,d7⟩:=h2.at he_6 1 rfl
 obtain rfl : vs7 = [(iV e_6)]:=d7
 refine q_x (v:=(elP s2 (t_4.1.toNat * 1))) hF hS (ex_indexAddr Tryd.underlying42 sz3 rfl rfl (h2.idx he_6)) rfl rfl fun a hF=>q_x (v:=(iV e_6)) hF hS (ex_loadE1 0 Tryd.underlying3 rfl rfl ((at7).at) rfl rfl) rfl rfl fun a hF=>q_x (v:=(iV e_6)) hF hS (ex_assign rfl) rfl rfl fun a hF=>q_end (n_sq (q_ret ?_))
 obtain rfl:=someI hr
 exact ret_ofX hF hS rfl (.tmp rfl .nil) ⟨rfl,hS.sel [0] (by decide),hk5⟩

theorem c_spec_l1Cur_frac (p_c : spec_l1Cur) (r : impl_Frac × spec_l1Cur) (hr : spec_l1Cur_frac p_c = some r) (w0 : World) (m : Mem) (b_p_c : Nat) (s1 : Sl) (h1 : Rd m s1 p_c.code) (X : List Nat) (hS : St X w0 w0 m [[⟨b_p_c,[s1.v,(iV p_c.at_),(.int .u64 p_c.seed.v)],76⟩]]) :
  RetX Tryd.prog 64 [(.pointer (some ⟨b_p_c,0,none⟩))] w0 (fun v w=>v = (.agg #[(iV r.1.Num),(iV r.1.Den)])∧St X w0 w m [[⟨b_p_c,[s1.v,(iV r.2.at_),(.int .u64 r.2.seed.v)],76⟩]]∧r.2.code = p_c.code):=by
 unfold spec_l1Cur_frac at hr
 refine ret_startX Tryd.func64 rfl 16 rfl rfl fun a hF=>q_seq (q_region (q_alloc (cs:=[(iV 0),(iV 0)]) hF hS rfl rfl rfl fun a w b2 hF hS=>q_end (n_sq (q_seq (q_region (q_x (v:=(.pointer (some ⟨b_p_c,0,none⟩))) hF hS (ex_move rfl) rfl rfl fun a hF=>?_))))))
 have hS : St _ _ _ _ [[⟨b_p_c,[s1.v,(iV p_c.at_),(.int .u64 p_c.seed.v)],76⟩],[⟨b2,[(iV 0),(iV 0)],24⟩]]:=hS.sel [1,0] (by decide)
 have hS3 : St _ _ _ _ ([[⟨b_p_c,[s1.v,(iV p_c.at_),(.int .u64 p_c.seed.v)],76⟩]]++[[⟨b2,[(iV 0),(iV 0)],24⟩]]):=hS
 have hE3:=hS3.enter
 obtain ⟨t_4,ht_4,hr⟩:=bindS hr
 refine q_do rfl fun _ hK=>wp_callX (vs:=[(.pointer (some ⟨b_p_c,0,none⟩)),(iV 41)]) hF Tryd.func52 (by kernel_rfl) rfl rfl rfl (c_spec_l1Cur_pick p_c 41 t_4 ht_4 _ m b_p_c s1 h1 _ hE3) fun a w _ hR hF=>hK _ _ ?_
 obtain ⟨rfl,hR3,hk5⟩:=hR
 have hS : St _ _ _ _ [[⟨b_p_c,[s1.v,(iV t_4.2.at_),(.int .u64 t_4.2.seed.v)],76⟩],[⟨b2,[(iV 0),(iV 0)],24⟩]]:=hS3.leaveF hR3
 have h5 : Rd m s1 t_4.2.code:=by rw [hk5]; exact h1
 refine q_x (v:=(iV (w64 (t_4.1 - 20)))) hF hS (ex_ibin rfl rfl rfl) rfl rfl fun a hF=>q_x (v:=(.pointer (some ⟨b_p_c,0,none⟩))) hF hS (ex_move rfl) rfl rfl fun a hF=>?_
 have hS6 : St _ _ _ _ ([[⟨b_p_c,[s1.v,(iV t_4.2.at_),(.int .u64 t_4.2.seed.v)],76⟩]]++[[⟨b2,[(iV 0),(iV 0)],24⟩]]):=hS
 have hE6:=hS6.enter
 obtain ⟨t_7,ht_7,hr⟩:=bindS hr
 refine q_do rfl fun _ hK=>wp_callX (vs:=[(.pointer (some ⟨b_p_c,0,none⟩)),(iV 12)]) hF Tryd.func52 (by kernel_rfl) rfl rfl rfl (c_spec_l1Cur_pick t_4.2 12 t_7 ht_7 _ m b_p_c s1 h5 _ hE6) fun a w _ hR hF=>hK _ _ ?_
 obtain ⟨rfl,hR6,hk8⟩:=hR
 have hS : St _ _ _ _ [[⟨b_p_c,[s1.v,(iV t_7.2.at_),(.int .u64 t_7.2.seed.v)],76⟩],[⟨b2,[(iV 0),(iV 0)],24⟩]]:=hS6.leaveF hR6
 have h8 : Rd m s1 t_7.2.code:=by rw [hk8]; exact h5
 refine q_x (v:=(iV (w64 (1 + t_7.1)))) hF hS (ex_ibin rfl rfl rfl) rfl rfl fun a hF=>?_
 obtain ⟨t_9,ht_9,hr⟩:=bindS hr
 refine q_call (vs:=[(iV (w64 (t_4.1 - 20))),(iV (w64 (1 + t_7.1)))]) hF hS Tryd.func51 (by kernel_rfl) rfl rfl rfl (c_spec_fMake (w64 (t_4.1 - 20)) (w64 (1 + t_7.1)) t_9 ht_9 _ m hS.vis) ?_
 rintro a w _ rfl hF hS
 refine q_x (v:=(.tuple #[(.agg #[(iV t_9.1.Num),(iV t_9.1.Den)]),(.bool t_9.2)])) hF hS (ex_move rfl) rfl rfl fun a hF=>q_x (v:=(.agg #[(iV t_9.1.Num),(iV t_9.1.Den)])) hF hS (ex_extract rfl rfl) rfl rfl fun a hF=>q_x (v:=(.bool t_9.2)) hF hS (ex_extract rfl rfl) rfl rfl fun a hF=>q_alloc (cs:=[(iV 0),(iV 0)]) hF hS rfl rfl rfl fun a w b10 hF hS=>q_store (vs:=[(iV t_9.1.Num),(iV t_9.1.Den)]) (cs':=[(iV t_9.1.Num),(iV t_9.1.Den)]) 0 0 hF hS sz24 rfl rfl rfl rfl rfl rfl rfl rfl fun a w hF hS=>q_x (v:=(.bool t_9.2)) hF hS (ex_assign rfl) rfl rfl fun a hF=>q_end (n_sq (q_seq (q_region (q_x (v:=(.agg #[(iV t_9.1.Num),(iV t_9.1.Den)])) hF hS (ex_loadA (vs:=[(iV t_9.1.Num),(iV t_9.1.Den)]) 0 0 Tryd.underlying24 rfl sz24 rfl rfl rfl rfl) rfl rfl fun a hF=>q_store (vs:=[(iV t_9.1.Num),(iV t_9.1.Den)]) (cs':=[(iV t_9.1.Num),(iV t_9.1.Den)]) 2 0 hF hS sz24 rfl rfl rfl rfl rfl rfl rfl rfl fun a w hF hS=>q_end (n_sq (q_ret ?_))))))
 obtain rfl:=someI hr
 exact ret_ofX hF hS rfl (.cellA (us:=[(iV t_9.1.Num),(iV t_9.1.Den)]) 2 0 Tryd.underlying24 rfl sz24 rfl rfl rfl rfl .nil) ⟨rfl,hS.sel [1] (by decide),(hk8.trans hk5)⟩

theorem c_spec_l1Cur_anyFrac (p_c : spec_l1Cur) (r : impl_Frac × spec_l1Cur) (hr : spec_l1Cur_anyFrac p_c = some r) (w0 : World) (m : Mem) (b_p_c : Nat) (s1 : Sl) (h1 : Rd m s1 p_c.code) (X : List Nat) (hS : St X w0 w0 m [[⟨b_p_c,[s1.v,(iV p_c.at_),(.int .u64 p_c.seed.v)],76⟩]]) :
  RetX Tryd.prog 53 [(.pointer (some ⟨b_p_c,0,none⟩))] w0 (fun v w=>v = (.agg #[(iV r.1.Num),(iV r.1.Den)])∧St X w0 w m [[⟨b_p_c,[s1.v,(iV r.2.at_),(.int .u64 r.2.seed.v)],76⟩]]∧r.2.code = p_c.code):=by
 unfold spec_l1Cur_anyFrac at hr
 refine ret_startX Tryd.func53 rfl 33 rfl rfl fun a hF=>q_seq (q_region (q_alloc (cs:=[(iV 0),(iV 0)]) hF hS rfl rfl rfl fun a w b2 hF hS=>q_end (n_sq (q_seq (q_seq (q_region (q_x (v:=(.pointer (some ⟨b_p_c,0,none⟩))) hF hS (ex_move rfl) rfl rfl fun a hF=>?_)))))))
 have hS : St _ _ _ _ [[⟨b_p_c,[s1.v,(iV p_c.at_),(.int .u64 p_c.seed.v)],76⟩],[⟨b2,[(iV 0),(iV 0)],24⟩]]:=hS.sel [1,0] (by decide)
 have hS3 : St _ _ _ _ ([[⟨b_p_c,[s1.v,(iV p_c.at_),(.int .u64 p_c.seed.v)],76⟩]]++[[⟨b2,[(iV 0),(iV 0)],24⟩]]):=hS
 have hE3:=hS3.enter
 obtain ⟨t_4,ht_4,hr⟩:=bindS hr
 refine q_do rfl fun _ hK=>wp_callX (vs:=[(.pointer (some ⟨b_p_c,0,none⟩)),(iV 16)]) hF Tryd.func52 (by kernel_rfl) rfl rfl rfl (c_spec_l1Cur_pick p_c 16 t_4 ht_4 _ m b_p_c s1 h1 _ hE3) fun a w _ hR hF=>hK _ _ ?_
 obtain ⟨rfl,hR3,hk5⟩:=hR
 have hS : St _ _ _ _ [[⟨b_p_c,[s1.v,(iV t_4.2.at_),(.int .u64 t_4.2.seed.v)],76⟩],[⟨b2,[(iV 0),(iV 0)],24⟩]]:=hS3.leaveF hR3
 have h5 : Rd m s1 t_4.2.code:=by rw [hk5]; exact h1
 refine q_end (n_sq (q_block (q_seq (q_region (q_x (v:=(.bool (t_4.1 == 0))) hF hS (ex_ibin rfl rfl rfl) rfl rfl fun a hF=>q_x (v:=(.bool (t_4.1 == 0))) hF hS (ex_assign rfl) rfl rfl fun a hF=>q_end (n_sq ?_))))))
 rcases bcase (t_4.1 == 0) with hc1 | hc1
 ·have hr:=cond_f hc1 hr
  refine q_cond_f hF rfl hc1 (q_seq (q_region (q_x (v:=(.bool (t_4.1 == 1))) hF hS (ex_ibin rfl rfl rfl) rfl rfl fun a hF=>q_x (v:=(.bool (t_4.1 == 1))) hF hS (ex_assign rfl) rfl rfl fun a hF=>q_end (n_sq ?_))))
  rcases bcase (t_4.1 == 1) with hc2 | hc2
  ·have hr:=cond_f hc2 hr
   refine q_cond_f hF rfl hc2 (q_seq (q_region (q_x (v:=(.bool (t_4.1 == 2))) hF hS (ex_ibin rfl rfl rfl) rfl rfl fun a hF=>q_x (v:=(.bool (t_4.1 == 2))) hF hS (ex_assign rfl) rfl rfl fun a hF=>q_end (n_sq ?_))))
   rcases bcase (t_4.1 == 2) with hc3 | hc3
   ·have hr:=cond_f hc3 hr
    refine q_cond_f hF rfl hc3 (q_skipc (n_ib (n_sq (q_seq (q_region (q_x (v:=(.pointer (some ⟨b_p_c,0,none⟩))) hF hS (ex_move rfl) rfl rfl fun a hF=>?_))))))
    have hS6 : St _ _ _ _ ([[⟨b_p_c,[s1.v,(iV t_4.2.at_),(.int .u64 t_4.2.seed.v)],76⟩]]++[[⟨b2,[(iV 0),(iV 0)],24⟩]]):=hS
    have hE6:=hS6.enter
    obtain ⟨t_7,ht_7,hr⟩:=bindS hr
    refine q_do rfl fun _ hK=>wp_callX (vs:=[(.pointer (some ⟨b_p_c,0,none⟩))]) hF Tryd.func64 (by kernel_rfl) rfl rfl rfl (c_spec_l1Cur_frac t_4.2 t_7 ht_7 _ m b_p_c s1 h5 _ hE6) fun a w _ hR hF=>hK _ _ ?_
    obtain ⟨rfl,hR6,hk8⟩:=hR
    have hS : St _ _ _ _ [[⟨b_p_c,[s1.v,(iV t_7.2.at_),(.int .u64 t_7.2.seed.v)],76⟩],[⟨b2,[(iV 0),(iV 0)],24⟩]]:=hS6.leaveF hR6
    have h8 : Rd m s1 t_7.2.code:=by rw [hk8]; exact h5
    refine q_store (vs:=[(iV t_7.1.Num),(iV t_7.1.Den)]) (cs':=[(iV t_7.1.Num),(iV t_7.1.Den)]) 1 0 hF hS sz24 rfl rfl rfl rfl rfl rfl rfl rfl fun a w hF hS=>q_end (n_sq (q_ret ?_))
    obtain rfl:=someI hr
    exact ret_ofX hF hS rfl (.cellA (us:=[(iV t_7.1.Num),(iV t_7.1.Den)]) 1 0 Tryd.underlying24 rfl sz24 rfl rfl rfl rfl .nil) ⟨rfl,hS.sel [0] (by decide),(hk8.trans hk5)⟩
   ·have hr:=cond_t hc3 hr
    refine q_cond_t hF rfl hc3 (q_seq (q_region (q_x (v:=(.pointer (some ⟨b_p_c,0,none⟩))) hF hS (ex_move rfl) rfl rfl fun a hF=>?_)))
    have hS9 : St _ _ _ _ ([[⟨b_p_c,[s1.v,(iV t_4.2.at_),(.int .u64 t_4.2.seed.v)],76⟩]]++[[⟨b2,[(iV 0),(iV 0)],24⟩]]):=hS
    have hE9:=hS9.enter
    obtain ⟨t_10,ht_10,hr⟩:=bindS hr
    refine q_do rfl fun _ hK=>wp_callX (vs:=[(.pointer (some ⟨b_p_c,0,none⟩)),(iV 3)]) hF Tryd.func52 (by kernel_rfl) rfl rfl rfl (c_spec_l1Cur_pick t_4.2 3 t_10 ht_10 _ m b_p_c s1 h5 _ hE9) fun a w _ hR hF=>hK _ _ ?_
    obtain ⟨rfl,hR9,hk11⟩:=hR
    have hS : St _ _ _ _ [[⟨b_p_c,[s1.v,(iV t_10.2.at_),(.int .u64 t_10.2.seed.v)],76⟩],[⟨b2,[(iV 0),(iV 0)],24⟩]]:=hS9.leaveF hR9
    have h11 : Rd m s1 t_10.2.code:=by rw [hk11]; exact h5
    refine q_x (v:=(.pointer (some ⟨b_p_c,0,none⟩))) hF hS (ex_move rfl) rfl rfl fun a hF=>q_do rfl fun _ hK=>wp_buildSlice' (l:=([1000000000,1000000001,999999937] : List Int)) (cells:=[(iV 1000000000),(iV 1000000001),(iV 999999937)]) hF hS Tryd.underlying42 inf3 rfl rfl (by kernel_rfl) rfl rfl rfl ⟨rfl,rfl,rfl,rfl⟩ rfl rfl fun a w q12 s12 hF hS h12 _=>hK _ _ ?_
    have hS : St _ _ _ _ [[⟨b_p_c,[s1.v,(iV t_10.2.at_),(.int .u64 t_10.2.seed.v)],76⟩],q12,[⟨b2,[(iV 0),(iV 0)],24⟩]]:=hS.sel [1,0,2] (by decide)
    have hS13 : St _ _ _ _ ([[⟨b_p_c,[s1.v,(iV t_10.2.at_),(.int .u64 t_10.2.seed.v)],76⟩]]++[q12,[⟨b2,[(iV 0),(iV 0)],24⟩]]):=hS
    obtain ⟨m13,hl13,hE13,hz13⟩:=hS13.lendX
    obtain ⟨t_14,ht_14,hr⟩:=bindS hr
    refine q_do rfl fun _ hK=>wp_callX (vs:=[(.pointer (some ⟨b_p_c,0,none⟩)),s12.v]) hF Tryd.func60 (by kernel_rfl) rfl rfl rfl (c_spec_l1Cur_among t_10.2 ([1000000000,1000000001,999999937] : List Int) t_14 ht_14 _ m13 b_p_c s1 (h11.mono hl13) s12 (h12.froz hl13 (hz13 0 _ rfl)) _ hE13) fun a w _ hR hF=>hK _ _ ?_
    obtain ⟨rfl,hR13,hk15⟩:=hR
    have hS : St _ _ _ _ [[⟨b_p_c,[s1.v,(iV t_14.2.at_),(.int .u64 t_14.2.seed.v)],76⟩],q12,[⟨b2,[(iV 0),(iV 0)],24⟩]]:=hS13.leaveF hR13
    have h15 : Rd m s1 t_14.2.code:=by rw [hk15]; exact h11
    refine q_x (v:=(.agg #[(iV t_10.1),(iV t_14.1)])) hF hS (ex_build (cells:=[(iV t_10.1),(iV t_14.1)]) rfl (by kernel_rfl)) rfl rfl fun a hF=>q_store (vs:=[(iV t_10.1),(iV t_14.1)]) (cs':=[(iV t_10.1),(iV t_14.1)]) 2 0 hF hS sz24 rfl rfl rfl rfl rfl rfl rfl rfl fun a w hF hS=>q_end (n_sq (q_ret (r_ib (r_sq ?_))))
    obtain rfl:=someI hr
    exact ret_ofX hF hS rfl (.cellA (us:=[(iV t_10.1),(iV t_14.1)]) 2 0 Tryd.underlying24 rfl sz24 rfl rfl rfl rfl .nil) ⟨rfl,hS.sel [0] (by decide),(hk15.trans (hk11.trans hk5))⟩
  ·have hr:=cond_t hc2 hr
   refine q_cond_t hF rfl hc2 (q_seq (q_region (q_x (v:=(.pointer (some ⟨b_p_c,0,none⟩))) hF hS (ex_move rfl) rfl rfl fun a hF=>?_)))
   have hS16 : St _ _ _ _ ([[⟨b_p_c,[s1.v,(iV t_4.2.at_),(.int .u64 t_4.2.seed.v)],76⟩]]++[[⟨b2,[(iV 0),(iV 0)],24⟩]]):=hS
   have hE16:=hS16.enter
   obtain ⟨t_17,ht_17,hr⟩:=bindS hr
   refine q_do rfl fun _ hK=>wp_callX (vs:=[(.pointer (some ⟨b_p_c,0,none⟩)),(iV 9)]) hF Tryd.func52 (by kernel_rfl) rfl rfl rfl (c_spec_l1Cur_pick t_4.2 9 t_17 ht_17 _ m b_p_c s1 h5 _ hE16) fun a w _ hR hF=>hK _ _ ?_
   obtain ⟨rfl,hR16,hk18⟩:=hR
   have hS : St _ _ _ _ [[⟨b_p_c,[s1.v,(iV t_17.2.at_),(.int .u64 t_17.2.seed.v)],76⟩],[⟨b2,[(iV 0),(iV 0)],24⟩]]:=hS16.leaveF hR16
   have h18 : Rd m s1 t_17.2.code:=by rw [hk18]; exact h5
   refine q_x (v:=(iV (w64 (t_17.1 - 4)))) hF hS (ex_ibin rfl rfl rfl) rfl rfl fun a hF=>q_x (v:=(.pointer (some ⟨b_p_c,0,none⟩))) hF hS (ex_move rfl) rfl rfl fun a hF=>?_
   have hS19 : St _ _ _ _ ([[⟨b_p_c,[s1.v,(iV t_17.2.at_),(.int .u64 t_17.2.seed.v)],76⟩]]++[[⟨b2,[(iV 0),(iV 0)],24⟩]]):=hS
   have hE19:=hS19.enter
   obtain ⟨t_20,ht_20,hr⟩:=bindS hr
   refine q_do rfl fun _ hK=>wp_callX (vs:=[(.pointer (some ⟨b_p_c,0,none⟩)),(iV 7)]) hF Tryd.func52 (by kernel_rfl) rfl rfl rfl (c_spec_l1Cur_pick t_17.2 7 t_20 ht_20 _ m b_p_c s1 h18 _ hE19) fun a w _ hR hF=>hK _ _ ?_
   obtain ⟨rfl,hR19,hk21⟩:=hR
   have hS : St _ _ _ _ [[⟨b_p_c,[s1.v,(iV t_20.2.at_),(.int .u64 t_20.2.seed.v)],76⟩],[⟨b2,[(iV 0),(iV 0)],24⟩]]:=hS19.leaveF hR19
   have h21 : Rd m s1 t_20.2.code:=by rw [hk21]; exact h18
   refine q_x (v:=(iV (w64 (t_20.1 - 1)))) hF hS (ex_ibin rfl rfl rfl) rfl rfl fun a hF=>q_x (v:=(.agg #[(iV (w64 (t_17.1 - 4))),(iV (w64 (t_20.1 - 1)))])) hF hS (ex_build (cells:=[(iV (w64 (t_17.1 - 4))),(iV (w64 (t_20.1 - 1)))]) rfl (by kernel_rfl)) rfl rfl fun a hF=>q_store (vs:=[(iV (w64 (t_17.1 - 4))),(iV (w64 (t_20.1 - 1)))]) (cs':=[(iV (w64 (t_17.1 - 4))),(iV (w64 (t_20.1 - 1)))]) 1 0 hF hS sz24 rfl rfl rfl rfl rfl rfl rfl rfl fun a w hF hS=>q_end (n_sq (q_ret (r_ib (r_sq ?_))))
   obtain rfl:=someI hr
   exact ret_ofX hF hS rfl (.cellA (us:=[(iV (w64 (t_17.1 - 4))),(iV (w64 (t_20.1 - 1)))]) 1 0 Tryd.underlying24 rfl sz24 rfl rfl rfl rfl .nil) ⟨rfl,hS.sel [0] (by decide),(hk21.trans (hk18.trans hk5))⟩
 ·have hr:=cond_t hc1 hr
  refine q_cond_t hF rfl hc1 (q_seq (q_region (q_x (v:=(.pointer (some ⟨b_p_c,0,none⟩))) hF hS (ex_move rfl) rfl rfl fun a hF=>q_do rfl fun _ hK=>wp_buildSlice' (l:=([1000000000,-1000000000,999999999,1000000001] : List Int)) (cells:=[(iV 1000000000),(iV (-1000000000)),(iV 999999999),(iV 1000000001)]) hF hS Tryd.underlying42 inf3 rfl rfl (by kernel_rfl) rfl rfl rfl ⟨rfl,rfl,rfl,rfl,rfl⟩ rfl rfl fun a w q22 s22 hF hS h22 _=>hK _ _ ?_)))
  have hS : St _ _ _ _ [[⟨b_p_c,[s1.v,(iV t_4.2.at_),(.int .u64 t_4.2.seed.v)],76⟩],q22,[⟨b2,[(iV 0),(iV 0)],24⟩]]:=hS.sel [1,0,2] (by decide)
  have hS23 : St _ _ _ _ ([[⟨b_p_c,[s1.v,(iV t_4.2.at_),(.int .u64 t_4.2.seed.v)],76⟩]]++[q22,[⟨b2,[(iV 0),(iV 0)],24⟩]]):=hS
  obtain ⟨m23,hl23,hE23,hz23⟩:=hS23.lendX
  obtain ⟨t_24,ht_24,hr⟩:=bindS hr
  refine q_do rfl fun _ hK=>wp_callX (vs:=[(.pointer (some ⟨b_p_c,0,none⟩)),s22.v]) hF Tryd.func60 (by kernel_rfl) rfl rfl rfl (c_spec_l1Cur_among t_4.2 ([1000000000,-1000000000,999999999,1000000001] : List Int) t_24 ht_24 _ m23 b_p_c s1 (h5.mono hl23) s22 (h22.froz hl23 (hz23 0 _ rfl)) _ hE23) fun a w _ hR hF=>hK _ _ ?_
  obtain ⟨rfl,hR23,hk25⟩:=hR
  have hS : St _ _ _ _ [[⟨b_p_c,[s1.v,(iV t_24.2.at_),(.int .u64 t_24.2.seed.v)],76⟩],q22,[⟨b2,[(iV 0),(iV 0)],24⟩]]:=hS23.leaveF hR23
  have h25 : Rd m s1 t_24.2.code:=by rw [hk25]; exact h5
  refine q_x (v:=(.pointer (some ⟨b_p_c,0,none⟩))) hF hS (ex_move rfl) rfl rfl fun a hF=>q_do rfl fun _ hK=>wp_buildSlice' (l:=([1,7,999999999,999999937] : List Int)) (cells:=[(iV 1),(iV 7),(iV 999999999),(iV 999999937)]) hF hS Tryd.underlying42 inf3 rfl rfl (by kernel_rfl) rfl rfl rfl ⟨rfl,rfl,rfl,rfl,rfl⟩ rfl rfl fun a w q26 s26 hF hS h26 _=>hK _ _ ?_
  have hS : St _ _ _ _ [[⟨b_p_c,[s1.v,(iV t_24.2.at_),(.int .u64 t_24.2.seed.v)],76⟩],q26,q22,[⟨b2,[(iV 0),(iV 0)],24⟩]]:=hS.sel [1,0,2,3] (by decide)
  have hS27 : St _ _ _ _ ([[⟨b_p_c,[s1.v,(iV t_24.2.at_),(.int .u64 t_24.2.seed.v)],76⟩]]++[q26,q22,[⟨b2,[(iV 0),(iV 0)],24⟩]]):=hS
  obtain ⟨m27,hl27,hE27,hz27⟩:=hS27.lendX
  obtain ⟨t_28,ht_28,hr⟩:=bindS hr
  refine q_do rfl fun _ hK=>wp_callX (vs:=[(.pointer (some ⟨b_p_c,0,none⟩)),s26.v]) hF Tryd.func60 (by kernel_rfl) rfl rfl rfl (c_spec_l1Cur_among t_24.2 ([1,7,999999999,999999937] : List Int) t_28 ht_28 _ m27 b_p_c s1 (h25.mono hl27) s26 (h26.froz hl27 (hz27 0 _ rfl)) _ hE27) fun a w _ hR hF=>hK _ _ ?_
  obtain ⟨rfl,hR27,hk29⟩:=hR
  have hS : St _ _ _ _ [[⟨b_p_c,[s1.v,(iV t_28.2.at_),(.int .u64 t_28.2.seed.v)],76⟩],q26,q22,[⟨b2,[(iV 0),(iV 0)],24⟩]]:=hS27.leaveF hR27
  have h29 : Rd m s1 t_28.2.code:=by rw [hk29]; exact h25
  refine q_x (v:=(.agg #[(iV t_24.1),(iV t_28.1)])) hF hS (ex_build (cells:=[(iV t_24.1),(iV t_28.1)]) rfl (by kernel_rfl)) rfl rfl fun a hF=>q_store (vs:=[(iV t_24.1),(iV t_28.1)]) (cs':=[(iV t_24.1),(iV t_28.1)]) 3 0 hF hS sz24 rfl rfl rfl rfl rfl rfl rfl rfl fun a w hF hS=>q_end (n_sq (q_ret (r_ib (r_sq ?_))))
  obtain rfl:=someI hr
  exact ret_ofX hF hS rfl (.cellA (us:=[(iV t_24.1),(iV t_28.1)]) 3 0 Tryd.underlying24 rfl sz24 rfl rfl rfl rfl .nil) ⟨rfl,hS.sel [0] (by decide),(hk29.trans (hk25.trans hk5))⟩

theorem c_spec_DrawRoundFrac (p_code : List (K .u8)) (r : impl_Frac) (hr : spec_DrawRoundFrac p_code = some r) (w0 : World) (m : Mem) (hv : Vis m w0) (s1 : Sl) (h1 : Rd m s1 p_code) :
  Ret Tryd.prog 6 [s1.v] w0 (fun v _=>v = (.agg #[(iV r.Num),(iV r.Den)])):=by
 unfold spec_DrawRoundFrac at hr
 refine ret_start Tryd.func6 rfl 22 rfl rfl m hv fun a hF hS=>q_seq (q_region (q_alloc (cs:=[(iV 0),(iV 0)]) hF hS rfl rfl rfl fun a w b2 hF hS=>q_end (n_sq (q_seq (q_region (q_x (v:=s1.v) hF hS (ex_move rfl) rfl rfl fun a hF=>q_x (v:=(.agg #[s1.v,(iV 0),(.int .u64 0)])) hF hS (ex_build (cells:=[s1.v,(iV 0),(.int .u64 0)]) rfl (by kernel_rfl)) rfl rfl fun a hF=>q_box (cs:=[s1.v,(iV 0),(.int .u64 0)]) hF hS rfl rfl rfl fun a w b3 hF hS=>q_x (v:=(.pointer (some ⟨b3,0,none⟩))) hF hS (ex_assign rfl) rfl rfl fun a hF=>q_end (n_sq (q_seq (q_seq (q_region (q_x (v:=(.pointer (some ⟨b3,0,none⟩))) hF hS (ex_move rfl) rfl rfl fun a hF=>?_)))))))))))
 have hS4 : St _ _ _ _ ([[⟨b3,[s1.v,(iV 0),(.int .u64 0)],76⟩]]++[[⟨b2,[(iV 0),(iV 0)],24⟩]]):=hS
 have hE4:=hS4.enter
 obtain ⟨t_5,ht_5,hr⟩:=bindS hr
 refine q_do rfl fun _ hK=>wp_callX (vs:=[(.pointer (some ⟨b3,0,none⟩)),(iV 2)]) hF Tryd.func50 (by kernel_rfl) rfl rfl rfl (c_spec_l1Cur_one (spec_l1Cur.mk p_code 0 (⟨0⟩ : K .u64)) 2 t_5 ht_5 _ m b3 s1 h1 _ hE4) fun a w _ hR hF=>hK _ _ ?_
 obtain ⟨rfl,hR4,hk6⟩:=hR
 have hS : St _ _ _ _ [[⟨b3,[s1.v,(iV t_5.2.at_),(.int .u64 t_5.2.seed.v)],76⟩],[⟨b2,[(iV 0),(iV 0)],24⟩]]:=hS4.leaveF hR4
 have h6 : Rd m s1 t_5.2.code:=by rw [hk6]; exact h1
 refine q_end (n_sq ?_)
 rcases bcase (t_5.1) with hc1 | hc1
 ·have hr:=cond_f hc1 hr
  refine q_cond_f hF rfl hc1 (q_skipc (n_sq (q_seq (q_region (q_x (v:=(.pointer (some ⟨b3,0,none⟩))) hF hS (ex_move rfl) rfl rfl fun a hF=>?_)))))
  have hS7 : St _ _ _ _ ([[⟨b3,[s1.v,(iV t_5.2.at_),(.int .u64 t_5.2.seed.v)],76⟩]]++[[⟨b2,[(iV 0),(iV 0)],24⟩]]):=hS
  have hE7:=hS7.enter
  obtain ⟨t_8,ht_8,hr⟩:=bindS hr
  refine q_do rfl fun _ hK=>wp_callX (vs:=[(.pointer (some ⟨b3,0,none⟩))]) hF Tryd.func53 (by kernel_rfl) rfl rfl rfl (c_spec_l1Cur_anyFrac t_5.2 t_8 ht_8 _ m b3 s1 h6 _ hE7) fun a w _ hR hF=>hK _ _ ?_
  obtain ⟨rfl,hR7,hk9⟩:=hR
  have hS : St _ _ _ _ [[⟨b3,[s1.v,(iV t_8.2.at_),(.int .u64 t_8.2.seed.v)],76⟩],[⟨b2,[(iV 0),(iV 0)],24⟩]]:=hS7.leaveF hR7
  have h9 : Rd m s1 t_8.2.code:=by rw [hk9]; exact h6
  refine q_store (vs:=[(iV t_8.1.Num),(iV t_8.1.Den)]) (cs':=[(iV t_8.1.Num),(iV t_8.1.Den)]) 1 0 hF hS sz24 rfl rfl rfl rfl rfl rfl rfl rfl fun a w hF hS=>q_end (n_sq (q_ret ?_))
  obtain rfl:=someI hr
  exact ret_of hF hS rfl (.cellA (us:=[(iV t_8.1.Num),(iV t_8.1.Den)]) 1 0 Tryd.underlying24 rfl sz24 rfl rfl rfl rfl .nil) rfl
 ·have hr:=cond_t hc1 hr
  refine q_cond_t hF rfl hc1 (q_seq (q_region (q_x (v:=(.pointer (some ⟨b3,0,none⟩))) hF hS (ex_move rfl) rfl rfl fun a hF=>?_)))
  have hS10 : St _ _ _ _ ([[⟨b3,[s1.v,(iV t_5.2.at_),(.int .u64 t_5.2.seed.v)],76⟩]]++[[⟨b2,[(iV 0),(iV 0)],24⟩]]):=hS
  have hE10:=hS10.enter
  obtain ⟨t_11,ht_11,hr⟩:=bindS hr
  refine q_do rfl fun _ hK=>wp_callX (vs:=[(.pointer (some ⟨b3,0,none⟩)),(iV 20)]) hF Tryd.func52 (by kernel_rfl) rfl rfl rfl (c_spec_l1Cur_pick t_5.2 20 t_11 ht_11 _ m b3 s1 h6 _ hE10) fun a w _ hR hF=>hK _ _ ?_
  obtain ⟨rfl,hR10,hk12⟩:=hR
  have hS : St _ _ _ _ [[⟨b3,[s1.v,(iV t_11.2.at_),(.int .u64 t_11.2.seed.v)],76⟩],[⟨b2,[(iV 0),(iV 0)],24⟩]]:=hS10.leaveF hR10
  have h12 : Rd m s1 t_11.2.code:=by rw [hk12]; exact h6
  refine q_x (v:=(iV (w64 (2 * t_11.1)))) hF hS (ex_ibin rfl rfl rfl) rfl rfl fun a hF=>q_x (v:=(iV (w64 ((w64 (2 * t_11.1)) - 19)))) hF hS (ex_ibin rfl rfl rfl) rfl rfl fun a hF=>?_
  obtain ⟨t_13,ht_13,hr⟩:=bindS hr
  refine q_call (vs:=[(iV (w64 ((w64 (2 * t_11.1)) - 19))),(iV 2)]) hF hS Tryd.func51 (by kernel_rfl) rfl rfl rfl (c_spec_fMake (w64 ((w64 (2 * t_11.1)) - 19)) 2 t_13 ht_13 _ m hS.vis) ?_
  rintro a w _ rfl hF hS
  refine q_x (v:=(.tuple #[(.agg #[(iV t_13.1.Num),(iV t_13.1.Den)]),(.bool t_13.2)])) hF hS (ex_move rfl) rfl rfl fun a hF=>q_x (v:=(.agg #[(iV t_13.1.Num),(iV t_13.1.Den)])) hF hS (ex_extract rfl rfl) rfl rfl fun a hF=>q_x (v:=(.bool t_13.2)) hF hS (ex_extract rfl rfl) rfl rfl fun a hF=>q_alloc (cs:=[(iV 0),(iV 0)]) hF hS rfl rfl rfl fun a w b14 hF hS=>q_store (vs:=[(iV t_13.1.Num),(iV t_13.1.Den)]) (cs':=[(iV t_13.1.Num),(iV t_13.1.Den)]) 0 0 hF hS sz24 rfl rfl rfl rfl rfl rfl rfl rfl fun a w hF hS=>q_x (v:=(.bool t_13.2)) hF hS (ex_assign rfl) rfl rfl fun a hF=>q_end (n_sq (q_seq (q_region (q_x (v:=(.agg #[(iV t_13.1.Num),(iV t_13.1.Den)])) hF hS (ex_loadA (vs:=[(iV t_13.1.Num),(iV t_13.1.Den)]) 0 0 Tryd.underlying24 rfl sz24 rfl rfl rfl rfl) rfl rfl fun a hF=>q_store (vs:=[(iV t_13.1.Num),(iV t_13.1.Den)]) (cs':=[(iV t_13.1.Num),(iV t_13.1.Den)]) 2 0 hF hS sz24 rfl rfl rfl rfl rfl rfl rfl rfl fun a w hF hS=>q_end (n_sq (q_ret (r_sq ?_)))))))
  obtain rfl:=someI hr
  exact ret_of hF hS rfl (.cellA (us:=[(iV t_13.1.Num),(iV t_13.1.Den)]) 2 0 Tryd.underlying24 rfl sz24 rfl rfl rfl rfl .nil) rfl

theorem c_impl_gcdOf (p_a : Int) (p_b : Int) (r : Int) (hr : impl_gcdOf p_a p_b = some r) (w0 : World) (m : Mem) (hv : Vis m w0) :
  Ret Tryd.prog 108 [(iV p_a),(iV p_b)] w0 (fun v _=>v = (iV r)):=by
 unfold impl_gcdOf at hr
 refine ret_start Tryd.func108 rfl 20 rfl rfl m hv fun a hF hS=>q_seq (q_region (q_x (v:=(iV 0)) hF hS (ex_assign rfl) rfl rfl fun a hF=>q_end (n_sq (q_seq (q_seq (q_region (q_x (v:=(iV p_a)) hF hS (ex_move rfl) rfl rfl fun a hF=>q_x (v:=(.bool (decide (p_a < 0)))) hF hS (ex_ibin rfl rfl rfl) rfl rfl fun a hF=>q_end (n_sq ?_))))))))
 obtain ⟨a_1,hj1,hr⟩:=bindS hr
 refine q_join (fun a w=>Fr a 20 [(0,(iV a_1)),(1,(iV p_b))]∧St [] w0 w m []) ?_ ?_
 ·rcases bcase (decide (p_a < 0)) with hc2 | hc2
  ·have hj1:=cond_f hc2 hj1
   refine q_cond_f hF rfl hc2 (q_skipc (n_jn ?_))
   obtain rfl:=someI hj1
   exact ⟨hF.sub ⟨rfl,rfl,trivial⟩,hS⟩
  ·have hj1:=cond_t hc2 hj1
   refine q_cond_t hF rfl hc2 (q_region (q_x (v:=(iV p_a)) hF hS (ex_move rfl) rfl rfl fun a hF=>q_x (v:=(iV (w64 (-p_a)))) hF hS (ex_neg rfl) rfl rfl fun a hF=>q_x (v:=(iV (w64 (-p_a)))) hF hS (ex_assign rfl) rfl rfl fun a hF=>q_end (n_jn ?_)))
   obtain rfl:=someI hj1
   exact ⟨hF.sub ⟨rfl,rfl,trivial⟩,hS⟩
 ·rintro a w ⟨hF,hS⟩
  refine n_sq ?_
  refine q_seq (q_seq (q_region (q_x (v:=(iV p_b)) hF hS (ex_move rfl) rfl rfl fun a hF=>q_x (v:=(.bool (decide (p_b < 0)))) hF hS (ex_ibin rfl rfl rfl) rfl rfl fun a hF=>q_end (n_sq ?_))))
  obtain ⟨b_2,hj3,hr⟩:=bindS hr
  refine q_join (fun a w=>Fr a 20 [(0,(iV a_1)),(1,(iV b_2))]∧St [] w0 w m []) ?_ ?_
  ·rcases bcase (decide (p_b < 0)) with hc4 | hc4
   ·have hj3:=cond_f hc4 hj3
    refine q_cond_f hF rfl hc4 (q_skipc (n_jn ?_))
    obtain rfl:=someI hj3
    exact ⟨hF.sub ⟨rfl,rfl,trivial⟩,hS⟩
   ·have hj3:=cond_t hc4 hj3
    refine q_cond_t hF rfl hc4 (q_region (q_x (v:=(iV p_b)) hF hS (ex_move rfl) rfl rfl fun a hF=>q_x (v:=(iV (w64 (-p_b)))) hF hS (ex_neg rfl) rfl rfl fun a hF=>q_x (v:=(iV (w64 (-p_b)))) hF hS (ex_assign rfl) rfl rfl fun a hF=>q_end (n_jn ?_)))
    obtain rfl:=someI hj3
    exact ⟨hF.sub ⟨rfl,rfl,trivial⟩,hS⟩
  ·rintro a w ⟨hF,hS⟩
   refine n_sq ?_
   refine q_seq (q_block ?_)
   obtain ⟨a_6,hl5,hr⟩:=bindS hr
   refine q_loop (fun (s : Int × Int) a w=>∃ a_3,∃ b_4,s = (a_3,b_4)∧Fr a 20 [(0,(iV a_3)),(1,(iV b_4))]∧St [] w0 w m []) (fun (a_6 : Int) e a w=>e = .exit 0∧Fr a 20 [(0,(iV a_6))]∧St [] w0 w m []) hl5 ⟨_,_,rfl,hF.sub ⟨rfl,rfl,trivial⟩,hS⟩ ?_ ?_
   ·clear hF hS
    rintro s a w st ⟨a_3,b_4,rfl,hF,hS⟩ hb5
    unfold impl_gcdOf_l1 at hb5
    refine q_seq (q_seq (q_region (q_x (v:=(iV b_4)) hF hS (ex_move rfl) rfl rfl fun a hF=>q_x (v:=(.bool (b_4 != 0))) hF hS (ex_ibin rfl rfl rfl) rfl rfl fun a hF=>q_end (n_sq ?_))))
    rcases bcase (b_4 != 0) with hc6 | hc6
    ·have hb5:=cond_f hc6 hb5
     refine q_cond_f hF rfl hc6 (q_exit (x_sq ?_))
     obtain rfl:=someI hb5
     exact ⟨nofun,.inl ⟨rfl,hF.sub ⟨rfl,trivial⟩,hS⟩⟩
    ·have hb5:=cond_t hc6 hb5
     refine q_cond_t hF rfl hc6 (q_skipc (n_sq (q_block (e_region ⟨[],[]⟩ mixed fun w' hw'=>?_))))
     have hS:=hS.below hw'
     refine e_p (v:=(iV b_4)) 0 hF rfl (ex_move rfl) rfl rfl (by kernel_rfl) (by kernel_rfl) (by kernel_rfl) fun a hF=>e_p (v:=(iV a_3)) 1 hF rfl (ex_move rfl) rfl rfl (by kernel_rfl) (by kernel_rfl) (by kernel_rfl) fun a hF=>e_p (v:=(iV b_4)) 2 hF rfl (ex_move rfl) rfl rfl (by kernel_rfl) (by kernel_rfl) (by kernel_rfl) fun a hF=>?_
     obtain ⟨t_5,ht_5,hb5⟩:=bindS hb5
     refine e_p (v:=(iV t_5)) 3 hF rfl (ex_rem rfl rfl ht_5) rfl rfl (by kernel_rfl) (by kernel_rfl) (by kernel_rfl) fun a hF=>e_p (v:=(iV b_4)) 4 hF rfl (ex_assign rfl) rfl rfl (by kernel_rfl) (by kernel_rfl) (by kernel_rfl) fun a hF=>e_p (v:=(iV t_5)) 5 hF rfl (ex_assign rfl) rfl rfl (by kernel_rfl) (by kernel_rfl) (by kernel_rfl) fun a hF=>e_end (by kernel_rfl) (n_ib ?_) _
     obtain rfl:=someI hb5
     exact ⟨rfl,_,_,rfl,hF.sub ⟨rfl,rfl,trivial⟩,hS⟩
   ·rintro e a w ⟨rfl,hF,hS⟩
    refine x_ib (n_sq ?_)
    refine q_seq (q_region (q_x (v:=(iV a_6)) hF hS (ex_move rfl) rfl rfl fun a hF=>q_x (v:=(iV a_6)) hF hS (ex_assign rfl) rfl rfl fun a hF=>q_end (n_sq (q_ret ?_))))
    obtain rfl:=someI hr
    exact ret_of hF hS rfl (.tmp rfl .nil) rfl

theorem c_impl_IsFrac (p_f : impl_Frac) (r : Bool) (hr : impl_IsFrac p_f = some r) (w0 : World) (m : Mem) (hv : Vis m w0) :
  Ret Tryd.prog 54 [(.agg #[(iV p_f.Num),(iV p_f.Den)])] w0 (fun v _=>v = (.bool r)):=by
 unfold impl_IsFrac at hr
 refine ret_start Tryd.func54 rfl 29 rfl rfl m hv fun a hF hS=>q_seq (q_region (q_box (cs:=[(iV p_f.Num),(iV p_f.Den)]) hF hS rfl rfl rfl fun a w b1 hF hS=>q_x (v:=(.bool false)) hF hS (ex_assign rfl) rfl rfl fun a hF=>q_end (n_sq (q_seq ?_))))
 obtain ⟨t_3,hj1,hr⟩:=bindS hr
 refine q_join (fun a w=>Fr a 29 [(2,(.bool t_3))]∧St [] w0 w m []) ?_ ?_
 ·refine q_region (q_x (v:=(.pointer (some ⟨b1,1,none⟩))) hF hS (ex_fieldAddr Tryd.underlying24 rfl sz3 rfl rfl) rfl rfl fun a hF=>q_x (v:=(iV p_f.Den)) hF hS (ex_load1 0 0 Tryd.underlying3 rfl rfl rfl rfl) rfl rfl fun a hF=>q_x (v:=(.bool (decide (1 ≤ p_f.Den)))) hF hS (ex_ibin rfl rfl rfl) rfl rfl fun a hF=>q_x (v:=(.bool (decide (1 ≤ p_f.Den)))) hF hS (ex_move rfl) rfl rfl fun a hF=>?_)
  rcases bcase (decide (1 ≤ p_f.Den)) with hc2 | hc2
  ·have hj1:=cond_f hc2 hj1
   refine q_skip hF (wanted_f hF rfl rfl rfl hc2 rfl) rfl fun a hF=>q_skip hF (wanted_f hF rfl rfl rfl hc2 rfl) rfl fun a hF=>q_skip hF (wanted_f hF rfl rfl rfl hc2 rfl) rfl fun a hF=>q_x (v:=(.bool false)) hF hS (ex_pick_f rfl rfl hc2) rfl rfl fun a hF=>q_x (v:=(.bool false)) hF hS (ex_move rfl) rfl rfl fun a hF=>q_skip hF (wanted_f hF rfl rfl rfl rfl rfl) rfl fun a hF=>q_skip hF (wanted_f hF rfl rfl rfl rfl rfl) rfl fun a hF=>q_skip hF (wanted_f hF rfl rfl rfl rfl rfl) rfl fun a hF=>q_x (v:=(.bool false)) hF hS (ex_pick_f rfl rfl rfl) rfl rfl fun a hF=>q_x (v:=(.bool false)) hF hS (ex_move rfl) rfl rfl fun a hF=>q_skip hF (wanted_f hF rfl rfl rfl rfl rfl) rfl fun a hF=>q_skip hF (wanted_f hF rfl rfl rfl rfl rfl) rfl fun a hF=>q_skip hF (wanted_f hF rfl rfl rfl rfl rfl) rfl fun a hF=>q_x (v:=(.bool false)) hF hS (ex_pick_f rfl rfl rfl) rfl rfl fun a hF=>q_x (v:=(.bool false)) hF hS (ex_move rfl) rfl rfl fun a hF=>q_skip hF (wanted_f hF rfl rfl rfl rfl rfl) rfl fun a hF=>q_skip hF (wanted_f hF rfl rfl rfl rfl rfl) rfl fun a hF=>q_skip hF (wanted_f hF rfl rfl rfl rfl rfl) rfl fun a hF=>q_skip hF (wanted_f hF rfl rfl rfl rfl rfl) rfl fun a hF=>q_skip hF (wanted_f hF rfl rfl rfl rfl rfl) rfl fun a hF=>q_skip hF (wanted_f hF rfl rfl rfl rfl rfl) rfl fun a hF=>q_x (v:=(.bool false)) hF hS (ex_pick_f rfl rfl rfl) rfl rfl fun a hF=>q_x (v:=(.bool false)) hF hS (ex_assign rfl) rfl rfl fun a hF=>q_end (n_jn ?_)
   obtain rfl:=someI hj1
   exact ⟨hF.sub ⟨rfl,trivial⟩,hS.mask [false]⟩
  ·have hj1:=cond_t hc2 hj1
   refine q_xg (v:=(.pointer (some ⟨b1,1,none⟩))) hF hS (ex_fieldAddr Tryd.underlying24 rfl sz3 rfl rfl) (wanted_t hF rfl rfl rfl hc2) rfl fun a hF=>q_xg (v:=(iV p_f.Den)) hF hS (ex_load1 0 0 Tryd.underlying3 rfl rfl rfl rfl) (wanted_t hF rfl rfl rfl hc2) rfl fun a hF=>q_xg (v:=(.bool (decide (p_f.Den ≤ 1000000000)))) hF hS (ex_ibin rfl rfl rfl) (wanted_t hF rfl rfl rfl hc2) rfl fun a hF=>q_x (v:=(.bool (decide (p_f.Den ≤ 1000000000)))) hF hS (ex_pick_t rfl rfl hc2) rfl rfl fun a hF=>q_x (v:=(.bool (decide (p_f.Den ≤ 1000000000)))) hF hS (ex_move rfl) rfl rfl fun a hF=>?_
   rcases bcase (decide (p_f.Den ≤ 1000000000)) with hc3 | hc3
   ·have hj1:=cond_f hc3 hj1
    refine q_skip hF (wanted_f hF rfl rfl rfl hc3 rfl) rfl fun a hF=>q_skip hF (wanted_f hF rfl rfl rfl hc3 rfl) rfl fun a hF=>q_skip hF (wanted_f hF rfl rfl rfl hc3 rfl) rfl fun a hF=>q_x (v:=(.bool false)) hF hS (ex_pick_f rfl rfl hc3) rfl rfl fun a hF=>q_x (v:=(.bool false)) hF hS (ex_move rfl) rfl rfl fun a hF=>q_skip hF (wanted_f hF rfl rfl rfl rfl rfl) rfl fun a hF=>q_skip hF (wanted_f hF rfl rfl rfl rfl rfl) rfl fun a hF=>q_skip hF (wanted_f hF rfl rfl rfl rfl rfl) rfl fun a hF=>q_x (v:=(.bool false)) hF hS (ex_pick_f rfl rfl rfl) rfl rfl fun a hF=>q_x (v:=(.bool false)) hF hS (ex_move rfl) rfl rfl fun a hF=>q_skip hF (wanted_f hF rfl rfl rfl rfl rfl) rfl fun a hF=>q_skip hF (wanted_f hF rfl rfl rfl rfl rfl) rfl fun a hF=>q_skip hF (wanted_f hF rfl rfl rfl rfl rfl) rfl fun a hF=>q_skip hF (wanted_f hF rfl rfl rfl rfl rfl) rfl fun a hF=>q_skip hF (wanted_f hF rfl rfl rfl rfl rfl) rfl fun a hF=>q_skip hF (wanted_f hF rfl rfl rfl rfl rfl) rfl fun a hF=>q_x (v:=(.bool false)) hF hS (ex_pick_f rfl rfl rfl) rfl rfl fun a hF=>q_x (v:=(.bool false)) hF hS (ex_assign rfl) rfl rfl fun a hF=>q_end (n_jn ?_)
    obtain rfl:=someI hj1
    exact ⟨hF.sub ⟨rfl,trivial⟩,hS.mask [false]⟩
   ·have hj1:=cond_t hc3 hj1
    refine q_xg (v:=(.pointer (some ⟨b1,0,none⟩))) hF hS (ex_fieldAddr Tryd.underlying24 rfl sz3 rfl rfl) (wanted_t hF rfl rfl rfl hc3) rfl fun a hF=>q_xg (v:=(iV p_f.Num)) hF hS (ex_load1 0 0 Tryd.underlying3 rfl rfl rfl rfl) (wanted_t hF rfl rfl rfl hc3) rfl fun a hF=>q_xg (v:=(.bool (decide ((-1000000000) ≤ p_f.Num)))) hF hS (ex_ibin rfl rfl rfl) (wanted_t hF rfl rfl rfl hc3) rfl fun a hF=>q_x (v:=(.bool (decide ((-1000000000) ≤ p_f.Num)))) hF hS (ex_pick_t rfl rfl hc3) rfl rfl fun a hF=>q_x (v:=(.bool (decide ((-1000000000) ≤ p_f.Num)))) hF hS (ex_move rfl) rfl rfl fun a hF=>?_
    rcases bcase (decide ((-1000000000) ≤ p_f.Num)) with hc4 | hc4
    ·have hj1:=cond_f hc4 hj1
     refine q_skip hF (wanted_f hF rfl rfl rfl hc4 rfl) rfl fun a hF=>q_skip hF (wanted_f hF rfl rfl rfl hc4 rfl) rfl fun a hF=>q_skip hF (wanted_f hF rfl rfl rfl hc4 rfl) rfl fun a hF=>q_x (v:=(.bool false)) hF hS (ex_pick_f rfl rfl hc4) rfl rfl fun a hF=>q_x (v:=(.bool false)) hF hS (ex_move rfl) rfl rfl fun a hF=>q_skip hF (wanted_f hF rfl rfl rfl rfl rfl) rfl fun a hF=>q_skip hF (wanted_f hF rfl rfl rfl rfl rfl) rfl fun a hF=>q_skip hF (wanted_f hF rfl rfl rfl rfl rfl) rfl fun a hF=>q_skip hF (wanted_f hF rfl rfl rfl rfl rfl) rfl fun a hF=>q_skip hF (wanted_f hF rfl rfl rfl rfl rfl) rfl fun a hF=>q_skip hF (wanted_f hF rfl rfl rfl rfl rfl) rfl fun a hF=>q_x (v:=(.bool false)) hF hS (ex_pick_f rfl rfl rfl) rfl rfl fun a hF=>q_x (v:=(.bool false)) hF hS (ex_assign rfl) rfl rfl fun a hF=>q_end (n_jn ?_)
     obtain rfl:=someI hj1
     exact ⟨hF.sub ⟨rfl,trivial⟩,hS.mask [false]⟩
    ·have hj1:=cond_t hc4 hj1
     refine q_xg (v:=(.pointer (some ⟨b1,0,none⟩))) hF hS (ex_fieldAddr Tryd.underlying24 rfl sz3 rfl rfl) (wanted_t hF rfl rfl rfl hc4) rfl fun a hF=>q_xg (v:=(iV p_f.Num)) hF hS (ex_load1 0 0 Tryd.underlying3 rfl rfl rfl rfl) (wanted_t hF rfl rfl rfl hc4) rfl fun a hF=>q_xg (v:=(.bool (decide (p_f.Num ≤ 1000000000)))) hF hS (ex_ibin rfl rfl rfl) (wanted_t hF rfl rfl rfl hc4) rfl fun a hF=>q_x (v:=(.bool (decide (p_f.Num ≤ 1000000000)))) hF hS (ex_pick_t rfl rfl hc4) rfl rfl fun a hF=>q_x (v:=(.bool (decide (p_f.Num ≤ 1000000000)))) hF hS (ex_move rfl) rfl rfl fun a hF=>?_
     rcases bcase (decide (p_f.Num ≤ 1000000000)) with hc5 | hc5
     ·have hj1:=cond_f hc5 hj1
      refine q_skip hF (wanted_f hF rfl rfl rfl hc5 rfl) rfl fun a hF=>q_skip hF (wanted_f hF rfl rfl rfl hc5 rfl) rfl fun a hF=>q_skip hF (wanted_f hF rfl rfl rfl hc5 rfl) rfl fun a hF=>q_skip hF (wanted_f hF rfl rfl rfl hc5 rfl) rfl fun a hF=>q_skip hF (wanted_f hF rfl rfl rfl hc5 rfl) rfl fun a hF=>q_skip hF (wanted_f hF rfl rfl rfl hc5 rfl) rfl fun a hF=>q_x (v:=(.bool false)) hF hS (ex_pick_f rfl rfl hc5) rfl rfl fun a hF=>q_x (v:=(.bool false)) hF hS (ex_assign rfl) rfl rfl fun a hF=>q_end (n_jn ?_)
      obtain rfl:=someI hj1
      exact ⟨hF.sub ⟨rfl,trivial⟩,hS.mask [false]⟩
     ·have hj1:=cond_t hc5 hj1
      refine q_xg (v:=(.pointer (some ⟨b1,0,none⟩))) hF hS (ex_fieldAddr Tryd.underlying24 rfl sz3 rfl rfl) (wanted_t hF rfl rfl rfl hc5) rfl fun a hF=>q_xg (v:=(iV p_f.Num)) hF hS (ex_load1 0 0 Tryd.underlying3 rfl rfl rfl rfl) (wanted_t hF rfl rfl rfl hc5) rfl fun a hF=>q_xg (v:=(.pointer (some ⟨b1,1,none⟩))) hF hS (ex_fieldAddr Tryd.underlying24 rfl sz3 rfl rfl) (wanted_t hF rfl rfl rfl hc5) rfl fun a hF=>q_xg (v:=(iV p_f.Den)) hF hS (ex_load1 0 0 Tryd.underlying3 rfl rfl rfl rfl) (wanted_t hF rfl rfl rfl hc5) rfl fun a hF=>?_
      obtain ⟨t_2,ht_2,hj1⟩:=bindS hj1
      refine q_callg (vs:=[(iV p_f.Num),(iV p_f.Den)]) hF hS (wanted_t hF rfl rfl rfl hc5) Tryd.func108 (by kernel_rfl) rfl rfl rfl (c_impl_gcdOf p_f.Num p_f.Den t_2 ht_2 _ m hS.vis) ?_
      rintro a w _ rfl hF hS
      refine q_xg (v:=(.bool (t_2 == 1))) hF hS (ex_ibin rfl rfl rfl) (wanted_t hF rfl rfl rfl hc5) rfl fun a hF=>q_x (v:=(.bool (t_2 == 1))) hF hS (ex_pick_t rfl rfl hc5) rfl rfl fun a hF=>q_x (v:=(.bool (t_2 == 1))) hF hS (ex_assign rfl) rfl rfl fun a hF=>q_end (n_jn ?_)
      obtain rfl:=someI hj1
      exact ⟨hF.sub ⟨rfl,trivial⟩,hS.mask [false]⟩
 ·rintro a w ⟨hF,hS⟩
  refine n_sq (q_ret ?_)
  obtain rfl:=someI hr
  exact ret_of hF hS rfl (.tmp rfl .nil) rfl

theorem c_impl_floorDiv (p_n : Int) (p_d : Int) (r : Int) (hr : impl_floorDiv p_n p_d = some r) (w0 : World) (m : Mem) (hv : Vis m w0) :
  Ret Tryd.prog 58 [(iV p_n),(iV p_d)] w0 (fun v _=>v = (iV r)):=by
 unfold impl_floorDiv at hr
 refine ret_start Tryd.func58 rfl 16 rfl rfl m hv fun a hF hS=>q_seq (q_region (q_x (v:=(iV 0)) hF hS (ex_assign rfl) rfl rfl fun a hF=>q_end (n_sq (q_seq (q_region (q_x (v:=(iV p_n)) hF hS (ex_move rfl) rfl rfl fun a hF=>q_x (v:=(iV p_d)) hF hS (ex_move rfl) rfl rfl fun a hF=>?_))))))
 obtain ⟨t_1,ht_1,hr⟩:=bindS hr
 refine q_x (v:=(iV t_1)) hF hS (ex_quo rfl rfl ht_1) rfl rfl fun a hF=>q_x (v:=(iV t_1)) hF hS (ex_assign rfl) rfl rfl fun a hF=>q_end (n_sq (q_seq (q_seq (q_region (q_x (v:=(iV p_n)) hF hS (ex_move rfl) rfl rfl fun a hF=>q_x (v:=(iV p_d)) hF hS (ex_move rfl) rfl rfl fun a hF=>?_)))))
 obtain ⟨t_2,ht_2,hr⟩:=bindS hr
 refine q_x (v:=(iV t_2)) hF hS (ex_rem rfl rfl ht_2) rfl rfl fun a hF=>q_x (v:=(.bool (decide (t_2 < 0)))) hF hS (ex_ibin rfl rfl rfl) rfl rfl fun a hF=>q_end (n_sq ?_)
 obtain ⟨q_3,hj1,hr⟩:=bindS hr
 refine q_join (fun a w=>Fr a 16 [(5,(iV q_3))]∧St [] w0 w m []) ?_ ?_
 ·rcases bcase (decide (t_2 < 0)) with hc2 | hc2
  ·have hj1:=cond_f hc2 hj1
   refine q_cond_f hF rfl hc2 (q_skipc (n_jn ?_))
   obtain rfl:=someI hj1
   exact ⟨hF.sub ⟨rfl,trivial⟩,hS⟩
  ·have hj1:=cond_t hc2 hj1
   refine q_cond_t hF rfl hc2 (q_region (q_x (v:=(iV t_1)) hF hS (ex_move rfl) rfl rfl fun a hF=>q_x (v:=(iV (w64 (t_1 - 1)))) hF hS (ex_ibin rfl rfl rfl) rfl rfl fun a hF=>q_x (v:=(iV (w64 (t_1 - 1)))) hF hS (ex_assign rfl) rfl rfl fun a hF=>q_end (n_jn ?_)))
   obtain rfl:=someI hj1
   exact ⟨hF.sub ⟨rfl,trivial⟩,hS⟩
 ·rintro a w ⟨hF,hS⟩
  refine n_sq ?_
  refine q_seq (q_region (q_x (v:=(iV q_3)) hF hS (ex_move rfl) rfl rfl fun a hF=>q_x (v:=(iV q_3)) hF hS (ex_assign rfl) rfl rfl fun a hF=>q_end (n_sq (q_ret ?_))))
  obtain rfl:=someI hr
  exact ret_of hF hS rfl (.tmp rfl .nil) rfl

theorem c_impl_roundDiv (p_n : Int) (p_d : Int) (r : Int) (hr : impl_roundDiv p_n p_d = some r) (w0 : World) (m : Mem) (hv : Vis m w0) :
  Ret Tryd.prog 55 [(iV p_n),(iV p_d)] w0 (fun v _=>v = (iV r)):=by
 unfold impl_roundDiv at hr
 refine ret_start Tryd.func55 rfl 32 rfl rfl m hv fun a hF hS=>q_seq (q_region (q_x (v:=(iV 0)) hF hS (ex_assign rfl) rfl rfl fun a hF=>q_end (n_sq (q_seq (q_region (q_x (v:=(iV p_n)) hF hS (ex_move rfl) rfl rfl fun a hF=>q_x (v:=(iV p_d)) hF hS (ex_move rfl) rfl rfl fun a hF=>?_))))))
 obtain ⟨t_1,ht_1,hr⟩:=bindS hr
 refine q_call (vs:=[(iV p_n),(iV p_d)]) hF hS Tryd.func58 (by kernel_rfl) rfl rfl rfl (c_impl_floorDiv p_n p_d t_1 ht_1 _ m hS.vis) ?_
 rintro a w _ rfl hF hS
 refine q_x (v:=(iV t_1)) hF hS (ex_assign rfl) rfl rfl fun a hF=>q_end (n_sq (q_seq (q_region (q_x (v:=(iV p_n)) hF hS (ex_move rfl) rfl rfl fun a hF=>q_x (v:=(iV t_1)) hF hS (ex_move rfl) rfl rfl fun a hF=>q_x (v:=(iV p_d)) hF hS (ex_move rfl) rfl rfl fun a hF=>q_x (v:=(iV (w64 (t_1 * p_d)))) hF hS (ex_ibin rfl rfl rfl) rfl rfl fun a hF=>q_x (v:=(iV (w64 (p_n - (w64 (t_1 * p_d)))))) hF hS (ex_ibin rfl rfl rfl) rfl rfl fun a hF=>q_x (v:=(iV (w64 (2 * (w64 (p_n - (w64 (t_1 * p_d)))))))) hF hS (ex_ibin rfl rfl rfl) rfl rfl fun a hF=>q_x (v:=(iV (w64 (2 * (w64 (p_n - (w64 (t_1 * p_d)))))))) hF hS (ex_assign rfl) rfl rfl fun a hF=>q_end (n_sq (q_seq (q_seq ?_)))))))
 obtain ⟨t_3,hj1,hr⟩:=bindS hr
 refine q_join (fun a w=>Fr a 32 [(5,(iV t_1)),(28,(.bool t_3))]∧St [] w0 w m []) ?_ ?_
 ·refine q_region (q_x (v:=(iV (w64 (2 * (w64 (p_n - (w64 (t_1 * p_d)))))))) hF hS (ex_move rfl) rfl rfl fun a hF=>q_x (v:=(iV p_d)) hF hS (ex_move rfl) rfl rfl fun a hF=>q_x (v:=(.bool (decide (p_d < (w64 (2 * (w64 (p_n - (w64 (t_1 * p_d)))))))))) hF hS (ex_ibin rfl rfl rfl) rfl rfl fun a hF=>q_x (v:=(.bool (decide (p_d < (w64 (2 * (w64 (p_n - (w64 (t_1 * p_d)))))))))) hF hS (ex_move rfl) rfl rfl fun a hF=>?_)
  rcases bcase (decide (p_d < (w64 (2 * (w64 (p_n - (w64 (t_1 * p_d)))))))) with hc2 | hc2
  ·have hj1:=cond_f hc2 hj1
   refine q_xg (v:=(iV (w64 (2 * (w64 (p_n - (w64 (t_1 * p_d)))))))) hF hS (ex_move rfl) (wanted_t hF rfl rfl rfl hc2) rfl fun a hF=>q_xg (v:=(iV p_d)) hF hS (ex_move rfl) (wanted_t hF rfl rfl rfl hc2) rfl fun a hF=>q_xg (v:=(.bool ((w64 (2 * (w64 (p_n - (w64 (t_1 * p_d)))))) == p_d))) hF hS (ex_ibin rfl rfl rfl) (wanted_t hF rfl rfl rfl hc2) rfl fun a hF=>q_xg (v:=(.bool ((w64 (2 * (w64 (p_n - (w64 (t_1 * p_d)))))) == p_d))) hF hS (ex_move rfl) (wanted_t hF rfl rfl rfl hc2) rfl fun a hF=>?_
   rcases bcase ((w64 (2 * (w64 (p_n - (w64 (t_1 * p_d)))))) == p_d) with hc3 | hc3
   ·have hj1:=cond_f hc3 hj1
    refine q_skip hF (wanted_f hF rfl rfl rfl hc3 rfl) rfl fun a hF=>q_skip hF (wanted_f hF rfl rfl rfl hc3 rfl) rfl fun a hF=>q_skip hF (wanted_f hF rfl rfl rfl hc3 rfl) rfl fun a hF=>q_xg (v:=(.bool false)) hF hS (ex_pick_f rfl rfl hc3) (wanted_t hF rfl rfl rfl hc2) rfl fun a hF=>q_x (v:=(.bool false)) hF hS (ex_pick_f rfl rfl hc2) rfl rfl fun a hF=>q_end (n_jn ?_)
    obtain rfl:=someI hj1
    exact ⟨hF.sub ⟨rfl,rfl,trivial⟩,hS⟩
   ·have hj1:=cond_t hc3 hj1
    refine q_xg (v:=(iV t_1)) hF hS (ex_move rfl) (wanted_t hF rfl rfl rfl hc3) rfl fun a hF=>?_
    obtain ⟨t_2,ht_2,hj1⟩:=bindS hj1
    refine q_xg (v:=(iV t_2)) hF hS (ex_rem rfl rfl ht_2) (wanted_t hF rfl rfl rfl hc3) rfl fun a hF=>q_xg (v:=(.bool (t_2 != 0))) hF hS (ex_ibin rfl rfl rfl) (wanted_t hF rfl rfl rfl hc3) rfl fun a hF=>q_xg (v:=(.bool (t_2 != 0))) hF hS (ex_pick_t rfl rfl hc3) (wanted_t hF rfl rfl rfl hc2) rfl fun a hF=>q_x (v:=(.bool (t_2 != 0))) hF hS (ex_pick_f rfl rfl hc2) rfl rfl fun a hF=>q_end (n_jn ?_)
    obtain rfl:=someI hj1
    exact ⟨hF.sub ⟨rfl,rfl,trivial⟩,hS⟩
  ·have hj1:=cond_t hc2 hj1
   refine q_skip hF (wanted_f hF rfl rfl rfl hc2 rfl) rfl fun a hF=>q_skip hF (wanted_f hF rfl rfl rfl hc2 rfl) rfl fun a hF=>q_skip hF (wanted_f hF rfl rfl rfl hc2 rfl) rfl fun a hF=>q_skip hF (wanted_f hF rfl rfl rfl hc2 rfl) rfl fun a hF=>q_skip hF (wanted_u hF rfl rfl rfl) rfl fun a hF=>q_skip hF (wanted_u hF rfl rfl rfl) rfl fun a hF=>q_skip hF (wanted_u hF rfl rfl rfl) rfl fun a hF=>q_skip hF (wanted_f hF rfl rfl rfl hc2 rfl) rfl fun a hF=>q_x (v:=(.bool true)) hF hS (ex_pick_t rfl rfl hc2) rfl rfl fun a hF=>q_end (n_jn ?_)
   obtain rfl:=someI hj1
   exact ⟨hF.sub ⟨rfl,rfl,trivial⟩,hS⟩
 ·rintro a w ⟨hF,hS⟩
  refine n_sq ?_
  obtain ⟨q_4,hj4,hr⟩:=bindS hr
  refine q_join (fun a w=>Fr a 32 [(5,(iV q_4))]∧St [] w0 w m []) ?_ ?_
  ·rcases bcase (t_3) with hc5 | hc5
   ·have hj4:=cond_f hc5 hj4
    refine q_cond_f hF rfl hc5 (q_skipc (n_jn ?_))
    obtain rfl:=someI hj4
    exact ⟨hF.sub ⟨rfl,trivial⟩,hS⟩
   ·have hj4:=cond_t hc5 hj4
    refine q_cond_t hF rfl hc5 (q_region (q_x (v:=(iV t_1)) hF hS (ex_move rfl) rfl rfl fun a hF=>q_x (v:=(iV (w64 (t_1 + 1)))) hF hS (ex_ibin rfl rfl rfl) rfl rfl fun a hF=>q_x (v:=(iV (w64 (t_1 + 1)))) hF hS (ex_assign rfl) rfl rfl fun a hF=>q_end (n_jn ?_)))
    obtain rfl:=someI hj4
    exact ⟨hF.sub ⟨rfl,trivial⟩,hS⟩
  ·rintro a w ⟨hF,hS⟩
   refine n_sq ?_
   refine q_seq (q_region (q_x (v:=(iV q_4)) hF hS (ex_move rfl) rfl rfl fun a hF=>q_x (v:=(iV q_4)) hF hS (ex_assign rfl) rfl rfl fun a hF=>q_end (n_sq (q_ret ?_))))
   obtain rfl:=someI hr
   exact ret_of hF hS rfl (.tmp rfl .nil) rfl

theorem c_impl_RoundFrac (p_f : impl_Frac) (r : Int × Bool) (hr : impl_RoundFrac p_f = some r) (w0 : World) (m : Mem) (hv : Vis m w0) :
  Ret Tryd.prog 7 [(.agg #[(iV p_f.Num),(iV p_f.Den)])] w0 (fun v _=>v = (.tuple #[(iV r.1),(.bool r.2)])):=by
 unfold impl_RoundFrac at hr
 refine ret_start Tryd.func7 rfl 12 rfl rfl m hv fun a hF hS=>q_seq (q_region (q_box (cs:=[(iV p_f.Num),(iV p_f.Den)]) hF hS rfl rfl rfl fun a w b1 hF hS=>q_x (v:=(iV 0)) hF hS (ex_assign rfl) rfl rfl fun a hF=>q_x (v:=(.bool false)) hF hS (ex_assign rfl) rfl rfl fun a hF=>q_end (n_sq (q_seq (q_seq (q_region (q_x (v:=(.agg #[(iV p_f.Num),(iV p_f.Den)])) hF hS (ex_loadA (vs:=[(iV p_f.Num),(iV p_f.Den)]) 0 0 Tryd.underlying24 rfl sz24 rfl rfl rfl rfl) rfl rfl fun a hF=>?_)))))))
 obtain ⟨t_2,ht_2,hr⟩:=bindS hr
 refine q_call (vs:=[(.agg #[(iV p_f.Num),(iV p_f.Den)])]) hF hS Tryd.func54 (by kernel_rfl) rfl rfl rfl (c_impl_IsFrac p_f t_2 ht_2 _ m hS.vis) ?_
 rintro a w _ rfl hF hS
 refine q_x (v:=(.bool (!t_2))) hF hS (ex_not rfl) rfl rfl fun a hF=>q_end (n_sq ?_)
 rcases bcase (!t_2) with hc1 | hc1
 ·have hr:=cond_f hc1 hr
  refine q_cond_f hF rfl hc1 (q_skipc (n_sq (q_seq (q_region (q_x (v:=(.pointer (some ⟨b1,0,none⟩))) hF hS (ex_fieldAddr Tryd.underlying24 rfl sz3 rfl rfl) rfl rfl fun a hF=>q_x (v:=(iV p_f.Num)) hF hS (ex_load1 0 0 Tryd.underlying3 rfl rfl rfl rfl) rfl rfl fun a hF=>q_x (v:=(.pointer (some ⟨b1,1,none⟩))) hF hS (ex_fieldAddr Tryd.underlying24 rfl sz3 rfl rfl) rfl rfl fun a hF=>q_x (v:=(iV p_f.Den)) hF hS (ex_load1 0 0 Tryd.underlying3 rfl rfl rfl rfl) rfl rfl fun a hF=>?_)))))
  obtain ⟨t_3,ht_3,hr⟩:=bindS hr
  refine q_call (vs:=[(iV p_f.Num),(iV p_f.Den)]) hF hS Tryd.func55 (by kernel_rfl) rfl rfl rfl (c_impl_roundDiv p_f.Num p_f.Den t_3 ht_3 _ m hS.vis) ?_
  rintro a w _ rfl hF hS
  refine q_x (v:=(iV t_3)) hF hS (ex_assign rfl) rfl rfl fun a hF=>q_x (v:=(.bool true)) hF hS (ex_assign rfl) rfl rfl fun a hF=>q_end (n_sq (q_ret ?_))
  obtain rfl:=someI hr
  exact ret_of hF hS rfl (.tmp rfl (.tmp rfl .nil)) rfl
 ·have hr:=cond_t hc1 hr
  refine q_cond_t hF rfl hc1 (q_seq (q_region (q_x (v:=(iV 0)) hF hS (ex_assign rfl) rfl rfl fun a hF=>q_x (v:=(.bool false)) hF hS (ex_assign rfl) rfl rfl fun a hF=>q_end (n_sq (q_ret (r_sq ?_))))))
  obtain rfl:=someI hr
  exact ret_of hF hS rfl (.tmp rfl (.tmp rfl .nil)) rfl

theorem c_spec_fFloor (p_f : impl_Frac) (r : Int) (hr : spec_fFloor p_f = some r) (w0 : World) (m : Mem) (hv : Vis m w0) :
  Ret Tryd.prog 59 [(.agg #[(iV p_f.Num),(iV p_f.Den)])] w0 (fun v _=>v = (iV r)):=by
 unfold spec_fFloor at hr
 refine ret_start Tryd.func59 rfl 21 rfl rfl m hv fun a hF hS=>q_seq (q_region (q_box (cs:=[(iV p_f.Num),(iV p_f.Den)]) hF hS rfl rfl rfl fun a w b1 hF hS=>q_x (v:=(iV 0)) hF hS (ex_assign rfl) rfl rfl fun a hF=>q_end (n_sq (q_seq (q_seq (q_region (q_x (v:=(.pointer (some ⟨b1,1,none⟩))) hF hS (ex_fieldAddr Tryd.underlying24 rfl sz3 rfl rfl) rfl rfl fun a hF=>q_x (v:=(iV p_f.Den)) hF hS (ex_load1 0 0 Tryd.underlying3 rfl rfl rfl rfl) rfl rfl fun a hF=>q_x (v:=(.bool (p_f.Den == 0))) hF hS (ex_ibin rfl rfl rfl) rfl rfl fun a hF=>q_end (n_sq ?_))))))))
 rcases bcase (p_f.Den == 0) with hc1 | hc1
 ·have hr:=cond_f hc1 hr
  refine q_cond_f hF rfl hc1 (q_skipc (n_sq (q_seq (q_region (q_x (v:=(.pointer (some ⟨b1,0,none⟩))) hF hS (ex_fieldAddr Tryd.underlying24 rfl sz3 rfl rfl) rfl rfl fun a hF=>q_x (v:=(iV p_f.Num)) hF hS (ex_load1 0 0 Tryd.underlying3 rfl rfl rfl rfl) rfl rfl fun a hF=>q_x (v:=(.pointer (some ⟨b1,1,none⟩))) hF hS (ex_fieldAddr Tryd.underlying24 rfl sz3 rfl rfl) rfl rfl fun a hF=>q_x (v:=(iV p_f.Den)) hF hS (ex_load1 0 0 Tryd.underlying3 rfl rfl rfl rfl) rfl rfl fun a hF=>?_)))))
  obtain ⟨t_2,ht_2,hr⟩:=bindS hr
  refine q_x (v:=(iV t_2)) hF hS (ex_quo rfl rfl ht_2) rfl rfl fun a hF=>q_x (v:=(iV t_2)) hF hS (ex_assign rfl) rfl rfl fun a hF=>q_end (n_sq (q_seq (q_seq (q_region (q_x (v:=(.pointer (some ⟨b1,0,none⟩))) hF hS (ex_fieldAddr Tryd.underlying24 rfl sz3 rfl rfl) rfl rfl fun a hF=>q_x (v:=(iV p_f.Num)) hF hS (ex_load1 0 0 Tryd.underlying3 rfl rfl rfl rfl) rfl rfl fun a hF=>q_x (v:=(.pointer (some ⟨b1,1,none⟩))) hF hS (ex_fieldAddr Tryd.underlying24 rfl sz3 rfl rfl) rfl rfl fun a hF=>q_x (v:=(iV p_f.Den)) hF hS (ex_load1 0 0 Tryd.underlying3 rfl rfl rfl rfl) rfl rfl fun a hF=>?_)))))
  obtain ⟨t_3,ht_3,hr⟩:=bindS hr
  refine q_x (v:=(iV t_3)) hF hS (ex_rem rfl rfl ht_3) rfl rfl fun a hF=>q_x (v:=(.bool (decide (t_3 < 0)))) hF hS (ex_ibin rfl rfl rfl) rfl rfl fun a hF=>q_end (n_sq ?_)
  obtain ⟨q_4,hj2,hr⟩:=bindS hr
  refine q_join (fun a w=>Fr a 21 [(3,(iV q_4))]∧St [] w0 w m []) ?_ ?_
  ·rcases bcase (decide (t_3 < 0)) with hc3 | hc3
   ·have hj2:=cond_f hc3 hj2
    refine q_cond_f hF rfl hc3 (q_skipc (n_jn ?_))
    obtain rfl:=someI hj2
    exact ⟨hF.sub ⟨rfl,trivial⟩,hS.mask [false]⟩
   ·have hj2:=cond_t hc3 hj2
    refine q_cond_t hF rfl hc3 (q_region (q_x (v:=(iV t_2)) hF hS (ex_move rfl) rfl rfl fun a hF=>q_x (v:=(iV (w64 (t_2 - 1)))) hF hS (ex_ibin rfl rfl rfl) rfl rfl fun a hF=>q_x (v:=(iV (w64 (t_2 - 1)))) hF hS (ex_assign rfl) rfl rfl fun a hF=>q_end (n_jn ?_)))
    obtain rfl:=someI hj2
    exact ⟨hF.sub ⟨rfl,trivial⟩,hS.mask [false]⟩
  ·rintro a w ⟨hF,hS⟩
   refine n_sq ?_
   refine q_seq (q_region (q_x (v:=(iV q_4)) hF hS (ex_move rfl) rfl rfl fun a hF=>q_x (v:=(iV q_4)) hF hS (ex_assign rfl) rfl rfl fun a hF=>q_end (n_sq (q_ret ?_))))
   obtain rfl:=someI hr
   exact ret_of hF hS rfl (.tmp rfl .nil) rfl
 ·have hr:=cond_t hc1 hr
  refine q_cond_t hF rfl hc1 (q_seq (q_region (q_x (v:=(iV 0)) hF hS (ex_assign rfl) rfl rfl fun a hF=>q_end (n_sq (q_ret (r_sq ?_))))))
  obtain rfl:=someI hr
  exact ret_of hF hS rfl (.tmp rfl .nil) rfl

theorem c_spec_fRound (p_f : impl_Frac) (r : Int) (hr : spec_fRound p_f = some r) (w0 : World) (m : Mem) (hv : Vis m w0) :
  Ret Tryd.prog 57 [(.agg #[(iV p_f.Num),(iV p_f.Den)])] w0 (fun v _=>v = (iV r)):=by
 unfold spec_fRound at hr
 refine ret_start Tryd.func57 rfl 33 rfl rfl m hv fun a hF hS=>q_seq (q_region (q_box (cs:=[(iV p_f.Num),(iV p_f.Den)]) hF hS rfl rfl rfl fun a w b1 hF hS=>q_x (v:=(iV 0)) hF hS (ex_assign rfl) rfl rfl fun a hF=>q_end (n_sq (q_seq (q_region (q_x (v:=(.agg #[(iV p_f.Num),(iV p_f.Den)])) hF hS (ex_loadA (vs:=[(iV p_f.Num),(iV p_f.Den)]) 0 0 Tryd.underlying24 rfl sz24 rfl rfl rfl rfl) rfl rfl fun a hF=>?_))))))
 obtain ⟨t_2,ht_2,hr⟩:=bindS hr
 refine q_call (vs:=[(.agg #[(iV p_f.Num),(iV p_f.Den)])]) hF hS Tryd.func59 (by kernel_rfl) rfl rfl rfl (c_spec_fFloor p_f t_2 ht_2 _ m hS.vis) ?_
 rintro a w _ rfl hF hS
 refine q_x (v:=(iV t_2)) hF hS (ex_assign rfl) rfl rfl fun a hF=>q_end (n_sq (q_seq (q_region (q_x (v:=(.pointer (some ⟨b1,0,none⟩))) hF hS (ex_fieldAddr Tryd.underlying24 rfl sz3 rfl rfl) rfl rfl fun a hF=>q_x (v:=(iV p_f.Num)) hF hS (ex_load1 0 0 Tryd.underlying3 rfl rfl rfl rfl) rfl rfl fun a hF=>q_x (v:=(iV t_2)) hF hS (ex_move rfl) rfl rfl fun a hF=>q_x (v:=(.pointer (some ⟨b1,1,none⟩))) hF hS (ex_fieldAddr Tryd.underlying24 rfl sz3 rfl rfl) rfl rfl fun a hF=>q_x (v:=(iV p_f.Den)) hF hS (ex_load1 0 0 Tryd.underlying3 rfl rfl rfl rfl) rfl rfl fun a hF=>q_x (v:=(iV (w64 (t_2 * p_f.Den)))) hF hS (ex_ibin rfl rfl rfl) rfl rfl fun a hF=>q_x (v:=(iV (w64 (p_f.Num - (w64 (t_2 * p_f.Den)))))) hF hS (ex_ibin rfl rfl rfl) rfl rfl fun a hF=>q_x (v:=(iV (w64 (2 * (w64 (p_f.Num - (w64 (t_2 * p_f.Den)))))))) hF hS (ex_ibin rfl rfl rfl) rfl rfl fun a hF=>q_x (v:=(iV (w64 (2 * (w64 (p_f.Num - (w64 (t_2 * p_f.Den)))))))) hF hS (ex_assign rfl) rfl rfl fun a hF=>q_end (n_sq (q_seq (q_seq ?_)))))))
 obtain ⟨t_4,hj1,hr⟩:=bindS hr
 refine q_join (fun a w=>Fr a 33 [(3,(iV t_2)),(29,(.bool t_4))]∧St [] w0 w m []) ?_ ?_
 ·refine q_region (q_x (v:=(iV (w64 (2 * (w64 (p_f.Num - (w64 (t_2 * p_f.Den)))))))) hF hS (ex_move rfl) rfl rfl fun a hF=>q_x (v:=(.pointer (some ⟨b1,1,none⟩))) hF hS (ex_fieldAddr Tryd.underlying24 rfl sz3 rfl rfl) rfl rfl fun a hF=>q_x (v:=(iV p_f.Den)) hF hS (ex_load1 0 0 Tryd.underlying3 rfl rfl rfl rfl) rfl rfl fun a hF=>q_x (v:=(.bool (decide (p_f.Den < (w64 (2 * (w64 (p_f.Num - (w64 (t_2 * p_f.Den)))))))))) hF hS (ex_ibin rfl rfl rfl) rfl rfl fun a hF=>q_x (v:=(.bool (decide (p_f.Den < (w64 (2 * (w64 (p_f.Num - (w64 (t_2 * p_f.Den)))))))))) hF hS (ex_move rfl) rfl rfl fun a hF=>?_)
  rcases bcase (decide (p_f.Den < (w64 (2 * (w64 (p_f.Num - (w64 (t_2 * p_f.Den)))))))) with hc2 | hc2
  ·have hj1:=cond_f hc2 hj1
   refine q_xg (v:=(iV (w64 (2 * (w64 (p_f.Num - (w64 (t_2 * p_f.Den)))))))) hF hS (ex_move rfl) (wanted_t hF rfl rfl rfl hc2) rfl fun a hF=>q_xg (v:=(.pointer (some ⟨b1,1,none⟩))) hF hS (ex_fieldAddr Tryd.underlying24 rfl sz3 rfl rfl) (wanted_t hF rfl rfl rfl hc2) rfl fun a hF=>q_xg (v:=(iV p_f.Den)) hF hS (ex_load1 0 0 Tryd.underlying3 rfl rfl rfl rfl) (wanted_t hF rfl rfl rfl hc2) rfl fun a hF=>q_xg (v:=(.bool ((w64 (2 * (w64 (p_f.Num - (w64 (t_2 * p_f.Den)))))) == p_f.Den))) hF hS (ex_ibin rfl rfl rfl) (wanted_t hF rfl rfl rfl hc2) rfl fun a hF=>q_xg (v:=(.bool ((w64 (2 * (w64 (p_f.Num - (w64 (t_2 * p_f.Den)))))) == p_f.Den))) hF hS (ex_move rfl) (wanted_t hF rfl rfl rfl hc2) rfl fun a hF=>?_
   rcases bcase ((w64 (2 * (w64 (p_f.Num - (w64 (t_2 * p_f.Den)))))) == p_f.Den) with hc3 | hc3
   ·have hj1:=cond_f hc3 hj1
    refine q_skip hF (wanted_f hF rfl rfl rfl hc3 rfl) rfl fun a hF=>q_skip hF (wanted_f hF rfl rfl rfl hc3 rfl) rfl fun a hF=>q_skip hF (wanted_f hF rfl rfl rfl hc3 rfl) rfl fun a hF=>q_xg (v:=(.bool false)) hF hS (ex_pick_f rfl rfl hc3) (wanted_t hF rfl rfl rfl hc2) rfl fun a hF=>q_x (v:=(.bool false)) hF hS (ex_pick_f rfl rfl hc2) rfl rfl fun a hF=>q_end (n_jn ?_)
    obtain rfl:=someI hj1
    exact ⟨hF.sub ⟨rfl,rfl,trivial⟩,hS.mask [false]⟩
   ·have hj1:=cond_t hc3 hj1
    refine q_xg (v:=(iV t_2)) hF hS (ex_move rfl) (wanted_t hF rfl rfl rfl hc3) rfl fun a hF=>?_
    obtain ⟨t_3,ht_3,hj1⟩:=bindS hj1
    refine q_xg (v:=(iV t_3)) hF hS (ex_rem rfl rfl ht_3) (wanted_t hF rfl rfl rfl hc3) rfl fun a hF=>q_xg (v:=(.bool (t_3 != 0))) hF hS (ex_ibin rfl rfl rfl) (wanted_t hF rfl rfl rfl hc3) rfl fun a hF=>q_xg (v:=(.bool (t_3 != 0))) hF hS (ex_pick_t rfl rfl hc3) (wanted_t hF rfl rfl rfl hc2) rfl fun a hF=>q_x (v:=(.bool (t_3 != 0))) hF hS (ex_pick_f rfl rfl hc2) rfl rfl fun a hF=>q_end (n_jn ?_)
    obtain rfl:=someI hj1
    exact ⟨hF.sub ⟨rfl,rfl,trivial⟩,hS.mask [false]⟩
  ·have hj1:=cond_t hc2 hj1
   refine q_skip hF (wanted_f hF rfl rfl rfl hc2 rfl) rfl fun a hF=>q_skip hF (wanted_f hF rfl rfl rfl hc2 rfl) rfl fun a hF=>q_skip hF (wanted_f hF rfl rfl rfl hc2 rfl) rfl fun a hF=>q_skip hF (wanted_f hF rfl rfl rfl hc2 rfl) rfl fun a hF=>q_skip hF (wanted_f hF rfl rfl rfl hc2 rfl) rfl fun a hF=>q_skip hF (wanted_u hF rfl rfl rfl) rfl fun a hF=>q_skip hF (wanted_u hF rfl rfl rfl) rfl fun a hF=>q_skip hF (wanted_u hF rfl rfl rfl) rfl fun a hF=>q_skip hF (wanted_f hF rfl rfl rfl hc2 rfl) rfl fun a hF=>q_x (v:=(.bool true)) hF hS (ex_pick_t rfl rfl hc2) rfl rfl fun a hF=>q_end (n_jn ?_)
   obtain rfl:=someI hj1
   exact ⟨hF.sub ⟨rfl,rfl,trivial⟩,hS.mask [false]⟩
 ·rintro a w ⟨hF,hS⟩
  refine n_sq ?_
  obtain ⟨q_5,hj4,hr⟩:=bindS hr
  refine q_join (fun a w=>Fr a 33 [(3,(iV q_5))]∧St [] w0 w m []) ?_ ?_
  ·rcases bcase (t_4) with hc5 | hc5
   ·have hj4:=cond_f hc5 hj4
    refine q_cond_f hF rfl hc5 (q_skipc (n_jn ?_))
    obtain rfl:=someI hj4
    exact ⟨hF.sub ⟨rfl,trivial⟩,hS⟩
   ·have hj4:=cond_t hc5 hj4
    refine q_cond_t hF rfl hc5 (q_region (q_x (v:=(iV t_2)) hF hS (ex_move rfl) rfl rfl fun a hF=>q_x (v:=(iV (w64 (t_2 + 1)))) hF hS (ex_ibin rfl rfl rfl) rfl rfl fun a hF=>q_x (v:=(iV (w64 (t_2 + 1)))) hF hS (ex_assign rfl) rfl rfl fun a hF=>q_end (n_jn ?_)))
    obtain rfl:=someI hj4
    exact ⟨hF.sub ⟨rfl,trivial⟩,hS⟩
  ·rintro a w ⟨hF,hS⟩
   refine n_sq ?_
   refine q_seq (q_region (q_x (v:=(iV q_5)) hF hS (ex_move rfl) rfl rfl fun a hF=>q_x (v:=(iV q_5)) hF hS (ex_assign rfl) rfl rfl fun a hF=>q_end (n_sq (q_ret ?_))))
   obtain rfl:=someI hr
   exact ret_of hF hS rfl (.tmp rfl .nil) rfl

theorem c_spec_RoundFrac (p_f : impl_Frac) (r : Int × Bool) (hr : spec_RoundFrac p_f = some r) (w0 : World) (m : Mem) (hv : Vis m w0) :
  Ret Tryd.prog 8 [(.agg #[(iV p_f.Num),(iV p_f.Den)])] w0 (fun v _=>v = (.tuple #[(iV r.1),(.bool r.2)])):=by
 unfold spec_RoundFrac at hr
 refine ret_start Tryd.func8 rfl 9 rfl rfl m hv fun a hF hS=>q_seq (q_region (q_box (cs:=[(iV p_f.Num),(iV p_f.Den)]) hF hS rfl rfl rfl fun a w b1 hF hS=>q_x (v:=(iV 0)) hF hS (ex_assign rfl) rfl rfl fun a hF=>q_x (v:=(.bool false)) hF hS (ex_assign rfl) rfl rfl fun a hF=>q_end (n_sq (q_seq (q_seq (q_region (q_x (v:=(.agg #[(iV p_f.Num),(iV p_f.Den)])) hF hS (ex_loadA (vs:=[(iV p_f.Num),(iV p_f.Den)]) 0 0 Tryd.underlying24 rfl sz24 rfl rfl rfl rfl) rfl rfl fun a hF=>?_)))))))
 obtain ⟨t_2,ht_2,hr⟩:=bindS hr
 refine q_call (vs:=[(.agg #[(iV p_f.Num),(iV p_f.Den)])]) hF hS Tryd.func56 (by kernel_rfl) rfl rfl rfl (c_spec_fGood p_f t_2 ht_2 _ m hS.vis) ?_
 rintro a w _ rfl hF hS
 refine q_x (v:=(.bool (!t_2))) hF hS (ex_not rfl) rfl rfl fun a hF=>q_end (n_sq ?_)
 rcases bcase (!t_2) with hc1 | hc1
 ·have hr:=cond_f hc1 hr
  refine q_cond_f hF rfl hc1 (q_skipc (n_sq (q_seq (q_region (q_x (v:=(.agg #[(iV p_f.Num),(iV p_f.Den)])) hF hS (ex_loadA (vs:=[(iV p_f.Num),(iV p_f.Den)]) 0 0 Tryd.underlying24 rfl sz24 rfl rfl rfl rfl) rfl rfl fun a hF=>?_)))))
  obtain ⟨t_3,ht_3,hr⟩:=bindS hr
  refine q_call (vs:=[(.agg #[(iV p_f.Num),(iV p_f.Den)])]) hF hS Tryd.func57 (by kernel_rfl) rfl rfl rfl (c_spec_fRound p_f t_3 ht_3 _ m hS.vis) ?_
  rintro a w _ rfl hF hS
  refine q_x (v:=(iV t_3)) hF hS (ex_assign rfl) rfl rfl fun a hF=>q_x (v:=(.bool true)) hF hS (ex_assign rfl) rfl rfl fun a hF=>q_end (n_sq (q_ret ?_))
  obtain rfl:=someI hr
  exact ret_of hF hS rfl (.tmp rfl (.tmp rfl .nil)) rfl
 ·have hr:=cond_t hc1 hr
  refine q_cond_t hF rfl hc1 (q_seq (q_region (q_x (v:=(iV 0)) hF hS (ex_assign rfl) rfl rfl fun a hF=>q_x (v:=(.bool false)) hF hS (ex_assign rfl) rfl rfl fun a hF=>q_end (n_sq (q_ret (r_sq ?_))))))
  obtain rfl:=someI hr
  exact ret_of hF hS rfl (.tmp rfl (.tmp rfl .nil)) rfl

theorem c_impl_FloorFrac (p_f : impl_Frac) (r : Int × Bool) (hr : impl_FloorFrac p_f = some r) (w0 : World) (m : Mem) (hv : Vis m w0) :
  Ret Tryd.prog 9 [(.agg #[(iV p_f.Num),(iV p_f.Den)])] w0 (fun v _=>v = (.tuple #[(iV r.1),(.bool r.2)])):=by
 unfold impl_FloorFrac at hr
 refine ret_start Tryd.func9 rfl 12 rfl rfl m hv fun a hF hS=>q_seq (q_region (q_box (cs:=[(iV p_f.Num),(iV p_f.Den)]) hF hS rfl rfl rfl fun a w b1 hF hS=>q_x (v:=(iV 0)) hF hS (ex_assign rfl) rfl rfl fun a hF=>q_x (v:=(.bool false)) hF hS (ex_assign rfl) rfl rfl fun a hF=>q_end (n_sq (q_seq (q_seq (q_region (q_x (v:=(.agg #[(iV p_f.Num),(iV p_f.Den)])) hF hS (ex_loadA (vs:=[(iV p_f.Num),(iV p_f.Den)]) 0 0 Tryd.underlying24 rfl sz24 rfl rfl rfl rfl) rfl rfl fun a hF=>?_)))))))
 obtain ⟨t_2,ht_2,hr⟩:=bindS hr
 refine q_call (vs:=[(.agg #[(iV p_f.Num),(iV p_f.Den)])]) hF hS Tryd.func54 (by kernel_rfl) rfl rfl rfl (c_impl_IsFrac p_f t_2 ht_2 _ m hS.vis) ?_
 rintro a w _ rfl hF hS
 refine q_x (v:=(.bool (!t_2))) hF hS (ex_not rfl) rfl rfl fun a hF=>q_end (n_sq ?_)
 rcases bcase (!t_2) with hc1 | hc1
 ·have hr:=cond_f hc1 hr
  refine q_cond_f hF rfl hc1 (q_skipc (n_sq (q_seq (q_region (q_x (v:=(.pointer (some ⟨b1,0,none⟩))) hF hS (ex_fieldAddr Tryd.underlying24 rfl sz3 rfl rfl) rfl rfl fun a hF=>q_x (v:=(iV p_f.Num)) hF hS (ex_load1 0 0 Tryd.underlying3 rfl rfl rfl rfl) rfl rfl fun a hF=>q_x (v:=(.pointer (some ⟨b1,1,none⟩))) hF hS (ex_fieldAddr Tryd.underlying24 rfl sz3 rfl rfl) rfl rfl fun a hF=>q_x (v:=(iV p_f.Den)) hF hS (ex_load1 0 0 Tryd.underlying3 rfl rfl rfl rfl) rfl rfl fun a hF=>?_)))))
  obtain ⟨t_3,ht_3,hr⟩:=bindS hr
  refine q_call (vs:=[(iV p_f.Num),(iV p_f.Den)]) hF hS Tryd.func58 (by kernel_rfl) rfl rfl rfl (c_impl_floorDiv p_f.Num p_f.Den t_3 ht_3 _ m hS.vis) ?_
  rintro a w _ rfl hF hS
  refine q_x (v:=(iV t_3)) hF hS (ex_assign rfl) rfl rfl fun a hF=>q_x (v:=(.bool true)) hF hS (ex_assign rfl) rfl rfl fun a hF=>q_end (n_sq (q_ret ?_))
  obtain rfl:=someI hr
  exact ret_of hF hS rfl (.tmp rfl (.tmp rfl .nil)) rfl
 ·have hr:=cond_t hc1 hr
  refine q_cond_t hF rfl hc1 (q_seq (q_region (q_x (v:=(iV 0)) hF hS (ex_assign rfl) rfl rfl fun a hF=>q_x (v:=(.bool false)) hF hS (ex_assign rfl) rfl rfl fun a hF=>q_end (n_sq (q_ret (r_sq ?_))))))
  obtain rfl:=someI hr
  exact ret_of hF hS rfl (.tmp rfl (.tmp rfl .nil)) rfl

theorem c_spec_FloorFrac (p_f : impl_Frac) (r : Int × Bool) (hr : spec_FloorFrac p_f = some r) (w0 : World) (m : Mem) (hv : Vis m w0) :
  Ret Tryd.prog 10 [(.agg #[(iV p_f.Num),(iV p_f.Den)])] w0 (fun v _=>v = (.tuple #[(iV r.1),(.bool r.2)])):=by
 unfold spec_FloorFrac at hr
 refine ret_start Tryd.func10 rfl 9 rfl rfl m hv fun a hF hS=>q_seq (q_region (q_box (cs:=[(iV p_f.Num),(iV p_f.Den)]) hF hS rfl rfl rfl fun a w b1 hF hS=>q_x (v:=(iV 0)) hF hS (ex_assign rfl) rfl rfl fun a hF=>q_x (v:=(.bool false)) hF hS (ex_assign rfl) rfl rfl fun a hF=>q_end (n_sq (q_seq (q_seq (q_region (q_x (v:=(.agg #[(iV p_f.Num),(iV p_f.Den)])) hF hS (ex_loadA (vs:=[(iV p_f.Num),(iV p_f.Den)]) 0 0 Tryd.underlying24 rfl sz24 rfl rfl rfl rfl) rfl rfl fun a hF=>?_)))))))
 obtain ⟨t_2,ht_2,hr⟩:=bindS hr
 refine q_call (vs:=[(.agg #[(iV p_f.Num),(iV p_f.Den)])]) hF hS Tryd.func56 (by kernel_rfl) rfl rfl rfl (c_spec_fGood p_f t_2 ht_2 _ m hS.vis) ?_
 rintro a w _ rfl hF hS
 refine q_x (v:=(.bool (!t_2))) hF hS (ex_not rfl) rfl rfl fun a hF=>q_end (n_sq ?_)
 rcases bcase (!t_2) with hc1 | hc1
 ·have hr:=cond_f hc1 hr
  refine q_cond_f hF rfl hc1 (q_skipc (n_sq (q_seq (q_region (q_x (v:=(.agg #[(iV p_f.Num),(iV p_f.Den)])) hF hS (ex_loadA (vs:=[(iV p_f.Num),(iV p_f.Den)]) 0 0 Tryd.underlying24 rfl sz24 rfl rfl rfl rfl) rfl rfl fun a hF=>?_)))))
  obtain ⟨t_3,ht_3,hr⟩:=bindS hr
  refine q_call (vs:=[(.agg #[(iV p_f.Num),(iV p_f.Den)])]) hF hS Tryd.func59 (by kernel_rfl) rfl rfl rfl (c_spec_fFloor p_f t_3 ht_3 _ m hS.vis) ?_
  rintro a w _ rfl hF hS
  refine q_x (v:=(iV t_3)) hF hS (ex_assign rfl) rfl rfl fun a hF=>q_x (v:=(.bool true)) hF hS (ex_assign rfl) rfl rfl fun a hF=>q_end (n_sq (q_ret ?_))
  obtain rfl:=someI hr
  exact ret_of hF hS rfl (.tmp rfl (.tmp rfl .nil)) rfl
 ·have hr:=cond_t hc1 hr
  refine q_cond_t hF rfl hc1 (q_seq (q_region (q_x (v:=(iV 0)) hF hS (ex_assign rfl) rfl rfl fun a hF=>q_x (v:=(.bool false)) hF hS (ex_assign rfl) rfl rfl fun a hF=>q_end (n_sq (q_ret (r_sq ?_))))))
  obtain rfl:=someI hr
  exact ret_of hF hS rfl (.tmp rfl (.tmp rfl .nil)) rfl

theorem c_spec_DrawPowFrac (p_code : List (K .u8)) (r : impl_Frac × Int) (hr : spec_DrawPowFrac p_code = some r) (w0 : World) (m : Mem) (hv : Vis m w0) (s1 : Sl) (h1 : Rd m s1 p_code) :
  Ret Tryd.prog 11 [s1.v] w0 (fun v _=>v = (.tuple #[(.agg #[(iV r.1.Num),(iV r.1.Den)]),(iV r.2)])):=by
 unfold spec_DrawPowFrac at hr
 refine ret_start Tryd.func11 rfl 13 rfl rfl m hv fun a hF hS=>q_seq (q_region (q_alloc (cs:=[(iV 0),(iV 0)]) hF hS rfl rfl rfl fun a w b2 hF hS=>q_x (v:=(iV 0)) hF hS (ex_assign rfl) rfl rfl fun a hF=>q_end (n_sq (q_seq (q_region (q_x (v:=s1.v) hF hS (ex_move rfl) rfl rfl fun a hF=>q_x (v:=(.agg #[s1.v,(iV 0),(.int .u64 0)])) hF hS (ex_build (cells:=[s1.v,(iV 0),(.int .u64 0)]) rfl (by kernel_rfl)) rfl rfl fun a hF=>q_box (cs:=[s1.v,(iV 0),(.int .u64 0)]) hF hS rfl rfl rfl fun a w b3 hF hS=>q_x (v:=(.pointer (some ⟨b3,0,none⟩))) hF hS (ex_assign rfl) rfl rfl fun a hF=>q_end (n_sq (q_seq (q_region (q_x (v:=(.pointer (some ⟨b3,0,none⟩))) hF hS (ex_move rfl) rfl rfl fun a hF=>?_))))))))))
 have hS4 : St _ _ _ _ ([[⟨b3,[s1.v,(iV 0),(.int .u64 0)],76⟩]]++[[⟨b2,[(iV 0),(iV 0)],24⟩]]):=hS
 have hE4:=hS4.enter
 obtain ⟨t_5,ht_5,hr⟩:=bindS hr
 refine q_do rfl fun _ hK=>wp_callX (vs:=[(.pointer (some ⟨b3,0,none⟩))]) hF Tryd.func53 (by kernel_rfl) rfl rfl rfl (c_spec_l1Cur_anyFrac (spec_l1Cur.mk p_code 0 (⟨0⟩ : K .u64)) t_5 ht_5 _ m b3 s1 h1 _ hE4) fun a w _ hR hF=>hK _ _ ?_
 obtain ⟨rfl,hR4,hk6⟩:=hR
 have hS : St _ _ _ _ [[⟨b3,[s1.v,(iV t_5.2.at_),(.int .u64 t_5.2.seed.v)],76⟩],[⟨b2,[(iV 0),(iV 0)],24⟩]]:=hS4.leaveF hR4
 have h6 : Rd m s1 t_5.2.code:=by rw [hk6]; exact h1
 refine q_x (v:=(.pointer (some ⟨b3,0,none⟩))) hF hS (ex_move rfl) rfl rfl fun a hF=>q_do rfl fun _ hK=>wp_buildSlice' (l:=([0,1,2,3,5,9,30,60,61,-1] : List Int)) (cells:=[(iV 0),(iV 1),(iV 2),(iV 3),(iV 5),(iV 9),(iV 30),(iV 60),(iV 61),(iV (-1))]) hF hS Tryd.underlying42 inf3 rfl rfl (by kernel_rfl) rfl rfl rfl ⟨rfl,rfl,rfl,rfl,rfl,rfl,rfl,rfl,rfl,rfl,rfl⟩ rfl rfl fun a w q7 s7 hF hS h7 _=>hK _ _ ?_
 have hS : St _ _ _ _ [[⟨b3,[s1.v,(iV t_5.2.at_),(.int .u64 t_5.2.seed.v)],76⟩],q7,[⟨b2,[(iV 0),(iV 0)],24⟩]]:=hS.sel [1,0,2] (by decide)
 have hS8 : St _ _ _ _ ([[⟨b3,[s1.v,(iV t_5.2.at_),(.int .u64 t_5.2.seed.v)],76⟩]]++[q7,[⟨b2,[(iV 0),(iV 0)],24⟩]]):=hS
 obtain ⟨m8,hl8,hE8,hz8⟩:=hS8.lendX
 obtain ⟨t_9,ht_9,hr⟩:=bindS hr
 refine q_do rfl fun _ hK=>wp_callX (vs:=[(.pointer (some ⟨b3,0,none⟩)),s7.v]) hF Tryd.func60 (by kernel_rfl) rfl rfl rfl (c_spec_l1Cur_among t_5.2 ([0,1,2,3,5,9,30,60,61,-1] : List Int) t_9 ht_9 _ m8 b3 s1 (h6.mono hl8) s7 (h7.froz hl8 (hz8 0 _ rfl)) _ hE8) fun a w _ hR hF=>hK _ _ ?_
 obtain ⟨rfl,hR8,hk10⟩:=hR
 have hS : St _ _ _ _ [[⟨b3,[s1.v,(iV t_9.2.at_),(.int .u64 t_9.2.seed.v)],76⟩],q7,[⟨b2,[(iV 0),(iV 0)],24⟩]]:=hS8.leaveF hR8
 have h10 : Rd m s1 t_9.2.code:=by rw [hk10]; exact h6
 refine q_store (vs:=[(iV t_5.1.Num),(iV t_5.1.Den)]) (cs':=[(iV t_5.1.Num),(iV t_5.1.Den)]) 2 0 hF hS sz24 rfl rfl rfl rfl rfl rfl rfl rfl fun a w hF hS=>q_x (v:=(iV t_9.1)) hF hS (ex_assign rfl) rfl rfl fun a hF=>q_end (n_sq (q_ret ?_))
 obtain rfl:=someI hr
 exact ret_of hF hS rfl (.cellA (us:=[(iV t_5.1.Num),(iV t_5.1.Den)]) 2 0 Tryd.underlying24 rfl sz24 rfl rfl rfl rfl (.tmp rfl .nil)) rfl

theorem c_impl_reduced (p_n : Int) (p_d : Int) (r : impl_Frac × Bool) (hr : impl_reduced p_n p_d = some r) (w0 : World) (m : Mem) (hv : Vis m w0) :
  Ret Tryd.prog 109 [(iV p_n),(iV p_d)] w0 (fun v _=>v = (.tuple #[(.agg #[(iV r.1.Num),(iV r.1.Den)]),(.bool r.2)])):=by
 unfold impl_reduced at hr
 refine ret_start Tryd.func109 rfl 36 rfl rfl m hv fun a hF hS=>q_seq (q_region (q_alloc (cs:=[(iV 0),(iV 0)]) hF hS rfl rfl rfl fun a w b1 hF hS=>q_x (v:=(.bool false)) hF hS (ex_assign rfl) rfl rfl fun a hF=>q_end (n_sq (q_seq (q_region (q_x (v:=(iV p_n)) hF hS (ex_move rfl) rfl rfl fun a hF=>q_x (v:=(iV p_d)) hF hS (ex_move rfl) rfl rfl fun a hF=>?_))))))
 obtain ⟨t_2,ht_2,hr⟩:=bindS hr
 refine q_call (vs:=[(iV p_n),(iV p_d)]) hF hS Tryd.func108 (by kernel_rfl) rfl rfl rfl (c_impl_gcdOf p_n p_d t_2 ht_2 _ m hS.vis) ?_
 rintro a w _ rfl hF hS
 refine q_x (v:=(iV t_2)) hF hS (ex_assign rfl) rfl rfl fun a hF=>q_end (n_sq (q_seq (e_region ⟨[],[]⟩ mixed fun w' hw'=>?_)))
 have hS:=hS.below hw'
 refine e_p (v:=(iV p_n)) 0 hF rfl (ex_move rfl) rfl rfl (by kernel_rfl) (by kernel_rfl) (by kernel_rfl) fun a hF=>e_p (v:=(iV t_2)) 1 hF rfl (ex_move rfl) rfl rfl (by kernel_rfl) (by kernel_rfl) (by kernel_rfl) fun a hF=>?_
 obtain ⟨t_3,ht_3,hr⟩:=bindS hr
 refine e_p (v:=(iV t_3)) 2 hF rfl (ex_quo rfl rfl ht_3) rfl rfl (by kernel_rfl) (by kernel_rfl) (by kernel_rfl) fun a hF=>e_p (v:=(iV p_d)) 3 hF rfl (ex_move rfl) rfl rfl (by kernel_rfl) (by kernel_rfl) (by kernel_rfl) fun a hF=>e_p (v:=(iV t_2)) 4 hF rfl (ex_move rfl) rfl rfl (by kernel_rfl) (by kernel_rfl) (by kernel_rfl) fun a hF=>?_
 obtain ⟨t_4,ht_4,hr⟩:=bindS hr
 refine e_p (v:=(iV t_4)) 5 hF rfl (ex_quo rfl rfl ht_4) rfl rfl (by kernel_rfl) (by kernel_rfl) (by kernel_rfl) fun a hF=>e_p (v:=(iV t_3)) 6 hF rfl (ex_assign rfl) rfl rfl (by kernel_rfl) (by kernel_rfl) (by kernel_rfl) fun a hF=>e_p (v:=(iV t_4)) 7 hF rfl (ex_assign rfl) rfl rfl (by kernel_rfl) (by kernel_rfl) (by kernel_rfl) fun a hF=>e_end (by kernel_rfl) (n_sq ?_) _
 refine q_seq (q_seq (q_region (q_x (v:=(iV t_4)) hF hS (ex_move rfl) rfl rfl fun a hF=>q_x (v:=(.bool (decide (t_4 < 0)))) hF hS (ex_ibin rfl rfl rfl) rfl rfl fun a hF=>q_end (n_sq ?_))))
 obtain ⟨j1,hj1,hr⟩:=bindS hr
 refine q_join (fun a w=>∃ n_5,∃ d_6,j1 = (n_5,d_6)∧Fr a 36 [(0,(iV n_5)),(1,(iV d_6)),(4,(.pointer (some ⟨b1,0,none⟩)))]∧St [] w0 w m [[⟨b1,[(iV 0),(iV 0)],24⟩]]) ?_ ?_
 ·rcases bcase (decide (t_4 < 0)) with hc2 | hc2
  ·have hj1:=cond_f hc2 hj1
   refine q_cond_f hF rfl hc2 (q_skipc (n_jn ?_))
   obtain rfl:=someI hj1
   exact ⟨_,_,rfl,hF.sub ⟨rfl,rfl,rfl,trivial⟩,hS⟩
  ·have hj1:=cond_t hc2 hj1
   refine q_cond_t hF rfl hc2 (q_region (q_x (v:=(iV t_3)) hF hS (ex_move rfl) rfl rfl fun a hF=>q_x (v:=(iV (w64 (-t_3)))) hF hS (ex_neg rfl) rfl rfl fun a hF=>q_x (v:=(iV t_4)) hF hS (ex_move rfl) rfl rfl fun a hF=>q_x (v:=(iV (w64 (-t_4)))) hF hS (ex_neg rfl) rfl rfl fun a hF=>q_x (v:=(iV (w64 (-t_3)))) hF hS (ex_assign rfl) rfl rfl fun a hF=>q_x (v:=(iV (w64 (-t_4)))) hF hS (ex_assign rfl) rfl rfl fun a hF=>q_end (n_jn ?_)))
   obtain rfl:=someI hj1
   exact ⟨_,_,rfl,hF.sub ⟨rfl,rfl,rfl,trivial⟩,hS⟩
 ·rintro a w ⟨n_5,d_6,rfl,hF,hS⟩
  refine n_sq ?_
  refine q_seq (q_seq ?_)
  obtain ⟨t_7,hj3,hr⟩:=bindS hr
  refine q_join (fun a w=>Fr a 36 [(0,(iV n_5)),(1,(iV d_6)),(4,(.pointer (some ⟨b1,0,none⟩))),(31,(.bool t_7))]∧St [] w0 w m [[⟨b1,[(iV 0),(iV 0)],24⟩]]) ?_ ?_
  ·refine q_region (q_x (v:=(iV n_5)) hF hS (ex_move rfl) rfl rfl fun a hF=>q_x (v:=(.bool (decide (1000000000 < n_5)))) hF hS (ex_ibin rfl rfl rfl) rfl rfl fun a hF=>q_x (v:=(.bool (decide (1000000000 < n_5)))) hF hS (ex_move rfl) rfl rfl fun a hF=>?_)
   rcases bcase (decide (1000000000 < n_5)) with hc4 | hc4
   ·have hj3:=cond_f hc4 hj3
    refine q_xg (v:=(iV n_5)) hF hS (ex_move rfl) (wanted_t hF rfl rfl rfl hc4) rfl fun a hF=>q_xg (v:=(.bool (decide (n_5 < (-1000000000))))) hF hS (ex_ibin rfl rfl rfl) (wanted_t hF rfl rfl rfl hc4) rfl fun a hF=>q_x (v:=(.bool (decide (n_5 < (-1000000000))))) hF hS (ex_pick_f rfl rfl hc4) rfl rfl fun a hF=>q_x (v:=(.bool (decide (n_5 < (-1000000000))))) hF hS (ex_move rfl) rfl rfl fun a hF=>?_
    rcases bcase (decide (n_5 < (-1000000000))) with hc5 | hc5
    ·have hj3:=cond_f hc5 hj3
     refine q_xg (v:=(iV d_6)) hF hS (ex_move rfl) (wanted_t hF rfl rfl rfl hc5) rfl fun a hF=>q_xg (v:=(.bool (decide (1000000000 < d_6)))) hF hS (ex_ibin rfl rfl rfl) (wanted_t hF rfl rfl rfl hc5) rfl fun a hF=>q_x (v:=(.bool (decide (1000000000 < d_6)))) hF hS (ex_pick_f rfl rfl hc5) rfl rfl fun a hF=>q_end (n_jn ?_)
     obtain rfl:=someI hj3
     exact ⟨hF.sub ⟨rfl,rfl,rfl,rfl,trivial⟩,hS⟩
    ·have hj3:=cond_t hc5 hj3
     refine q_skip hF (wanted_f hF rfl rfl rfl hc5 rfl) rfl fun a hF=>q_skip hF (wanted_f hF rfl rfl rfl hc5 rfl) rfl fun a hF=>q_x (v:=(.bool true)) hF hS (ex_pick_t rfl rfl hc5) rfl rfl fun a hF=>q_end (n_jn ?_)
     obtain rfl:=someI hj3
     exact ⟨hF.sub ⟨rfl,rfl,rfl,rfl,trivial⟩,hS⟩
   ·have hj3:=cond_t hc4 hj3
    refine q_skip hF (wanted_f hF rfl rfl rfl hc4 rfl) rfl fun a hF=>q_skip hF (wanted_f hF rfl rfl rfl hc4 rfl) rfl fun a hF=>q_x (v:=(.bool true)) hF hS (ex_pick_t rfl rfl hc4) rfl rfl fun a hF=>q_x (v:=(.bool true)) hF hS (ex_move rfl) rfl rfl fun a hF=>q_skip hF (wanted_f hF rfl rfl rfl rfl rfl) rfl fun a hF=>q_skip hF (wanted_f hF rfl rfl rfl rfl rfl) rfl fun a hF=>q_x (v:=(.bool true)) hF hS (ex_pick_t rfl rfl rfl) rfl rfl fun a hF=>q_end (n_jn ?_)
    obtain rfl:=someI hj3
    exact ⟨hF.sub ⟨rfl,rfl,rfl,rfl,trivial⟩,hS⟩
  ·rintro a w ⟨hF,hS⟩
   refine n_sq ?_
   rcases bcase (t_7) with hc6 | hc6
   ·have hr:=cond_f hc6 hr
    refine q_cond_f hF rfl hc6 (q_skipc (n_sq (q_seq (q_region (q_x (v:=(iV n_5)) hF hS (ex_move rfl) rfl rfl fun a hF=>q_x (v:=(iV d_6)) hF hS (ex_move rfl) rfl rfl fun a hF=>q_x (v:=(.agg #[(iV n_5),(iV d_6)])) hF hS (ex_build (cells:=[(iV n_5),(iV d_6)]) rfl (by kernel_rfl)) rfl rfl fun a hF=>q_store (vs:=[(iV n_5),(iV d_6)]) (cs':=[(iV n_5),(iV d_6)]) 0 0 hF hS sz24 rfl rfl rfl rfl rfl rfl rfl rfl fun a w hF hS=>q_x (v:=(.bool true)) hF hS (ex_assign rfl) rfl rfl fun a hF=>q_end (n_sq (q_ret ?_)))))))
    obtain rfl:=someI hr
    exact ret_of hF hS rfl (.cellA (us:=[(iV n_5),(iV d_6)]) 0 0 Tryd.underlying24 rfl sz24 rfl rfl rfl rfl (.tmp rfl .nil)) rfl
   ·have hr:=cond_t hc6 hr
    refine q_cond_t hF rfl hc6 (q_seq (q_region (q_x (v:=(.agg #[(iV 0),(iV 0)])) hF hS (ex_build (cells:=[(iV 0),(iV 0)]) rfl (by kernel_rfl)) rfl rfl fun a hF=>q_store (vs:=[(iV 0),(iV 0)]) (cs':=[(iV 0),(iV 0)]) 0 0 hF hS sz24 rfl rfl rfl rfl rfl rfl rfl rfl fun a w hF hS=>q_x (v:=(.bool false)) hF hS (ex_assign rfl) rfl rfl fun a hF=>q_end (n_sq (q_ret (r_sq ?_))))))
    obtain rfl:=someI hr
    exact ret_of hF hS rfl (.cellA (us:=[(iV 0),(iV 0)]) 0 0 Tryd.underlying24 rfl sz24 rfl rfl rfl rfl (.tmp rfl .nil)) rfl

theorem c_impl_MulFrac (p_a : impl_Frac) (p_b : impl_Frac) (r : impl_Frac × Bool) (hr : impl_MulFrac p_a p_b = some r) (w0 : World) (m : Mem) (hv : Vis m w0) :
  Ret Tryd.prog 61 [(.agg #[(iV p_a.Num),(iV p_a.Den)]),(.agg #[(iV p_b.Num),(iV p_b.Den)])] w0 (fun v _=>v = (.tuple #[(.agg #[(iV r.1.Num),(iV r.1.Den)]),(.bool r.2)])):=by
 unfold impl_MulFrac at hr
 refine ret_start Tryd.func61 rfl 28 rfl rfl m hv fun a hF hS=>q_seq (q_region (q_box (cs:=[(iV p_a.Num),(iV p_a.Den)]) hF hS rfl rfl rfl fun a w b1 hF hS=>q_box (cs:=[(iV p_b.Num),(iV p_b.Den)]) hF hS rfl rfl rfl fun a w b2 hF hS=>q_alloc (cs:=[(iV 0),(iV 0)]) hF hS rfl rfl rfl fun a w b3 hF hS=>q_x (v:=(.bool false)) hF hS (ex_assign rfl) rfl rfl fun a hF=>q_end (n_sq (q_seq (q_seq ?_)))))
 obtain ⟨t_6,hj1,hr⟩:=bindS hr
 refine q_join (fun a w=>Fr a 28 [(2,(.pointer (some ⟨b1,0,none⟩))),(3,(.pointer (some ⟨b2,0,none⟩))),(4,(.pointer (some ⟨b3,0,none⟩))),(13,(.bool t_6))]∧St [] w0 w m [[⟨b3,[(iV 0),(iV 0)],24⟩],[⟨b2,[(iV p_b.Num),(iV p_b.Den)],24⟩],[⟨b1,[(iV p_a.Num),(iV p_a.Den)],24⟩]]) ?_ ?_
 ·refine q_region (q_x (v:=(.agg #[(iV p_a.Num),(iV p_a.Den)])) hF hS (ex_loadA (vs:=[(iV p_a.Num),(iV p_a.Den)]) 2 0 Tryd.underlying24 rfl sz24 rfl rfl rfl rfl) rfl rfl fun a hF=>?_)
  obtain ⟨t_4,ht_4,hj1⟩:=bindS hj1
  refine q_call (vs:=[(.agg #[(iV p_a.Num),(iV p_a.Den)])]) hF hS Tryd.func54 (by kernel_rfl) rfl rfl rfl (c_impl_IsFrac p_a t_4 ht_4 _ m hS.vis) ?_
  rintro a w _ rfl hF hS
  refine q_x (v:=(.bool (!t_4))) hF hS (ex_not rfl) rfl rfl fun a hF=>q_x (v:=(.bool (!t_4))) hF hS (ex_move rfl) rfl rfl fun a hF=>?_
  rcases bcase (!t_4) with hc2 | hc2
  ·have hj1:=cond_f hc2 hj1
   refine q_xg (v:=(.agg #[(iV p_b.Num),(iV p_b.Den)])) hF hS (ex_loadA (vs:=[(iV p_b.Num),(iV p_b.Den)]) 1 0 Tryd.underlying24 rfl sz24 rfl rfl rfl rfl) (wanted_t hF rfl rfl rfl hc2) rfl fun a hF=>?_
   obtain ⟨t_5,ht_5,hj1⟩:=bindS hj1
   refine q_callg (vs:=[(.agg #[(iV p_b.Num),(iV p_b.Den)])]) hF hS (wanted_t hF rfl rfl rfl hc2) Tryd.func54 (by kernel_rfl) rfl rfl rfl (c_impl_IsFrac p_b t_5 ht_5 _ m hS.vis) ?_
   rintro a w _ rfl hF hS
   refine q_xg (v:=(.bool (!t_5))) hF hS (ex_not rfl) (wanted_t hF rfl rfl rfl hc2) rfl fun a hF=>q_x (v:=(.bool (!t_5))) hF hS (ex_pick_f rfl rfl hc2) rfl rfl fun a hF=>q_end (n_jn ?_)
   obtain rfl:=someI hj1
   exact ⟨hF.sub ⟨rfl,rfl,rfl,rfl,trivial⟩,hS⟩
  ·have hj1:=cond_t hc2 hj1
   refine q_skip hF (wanted_f hF rfl rfl rfl hc2 rfl) rfl fun a hF=>q_skip hF (wanted_f hF rfl rfl rfl hc2 rfl) rfl fun a hF=>q_skip hF (wanted_f hF rfl rfl rfl hc2 rfl) rfl fun a hF=>q_x (v:=(.bool true)) hF hS (ex_pick_t rfl rfl hc2) rfl rfl fun a hF=>q_end (n_jn ?_)
   obtain rfl:=someI hj1
   exact ⟨hF.sub ⟨rfl,rfl,rfl,rfl,trivial⟩,hS⟩
 ·rintro a w ⟨hF,hS⟩
  refine n_sq ?_
  rcases bcase (t_6) with hc3 | hc3
  ·have hr:=cond_f hc3 hr
   refine q_cond_f hF rfl hc3 (q_skipc (n_sq (q_seq (q_region (q_x (v:=(.pointer (some ⟨b1,0,none⟩))) hF hS (ex_fieldAddr Tryd.underlying24 rfl sz3 rfl rfl) rfl rfl fun a hF=>q_x (v:=(iV p_a.Num)) hF hS (ex_load1 2 0 Tryd.underlying3 rfl rfl rfl rfl) rfl rfl fun a hF=>q_x (v:=(.pointer (some ⟨b2,0,none⟩))) hF hS (ex_fieldAddr Tryd.underlying24 rfl sz3 rfl rfl) rfl rfl fun a hF=>q_x (v:=(iV p_b.Num)) hF hS (ex_load1 1 0 Tryd.underlying3 rfl rfl rfl rfl) rfl rfl fun a hF=>q_x (v:=(iV (w64 (p_a.Num * p_b.Num)))) hF hS (ex_ibin rfl rfl rfl) rfl rfl fun a hF=>q_x (v:=(.pointer (some ⟨b1,1,none⟩))) hF hS (ex_fieldAddr Tryd.underlying24 rfl sz3 rfl rfl) rfl rfl fun a hF=>q_x (v:=(iV p_a.Den)) hF hS (ex_load1 2 0 Tryd.underlying3 rfl rfl rfl rfl) rfl rfl fun a hF=>q_x (v:=(.pointer (some ⟨b2,1,none⟩))) hF hS (ex_fieldAddr Tryd.underlying24 rfl sz3 rfl rfl) rfl rfl fun a hF=>q_x (v:=(iV p_b.Den)) hF hS (ex_load1 1 0 Tryd.underlying3 rfl rfl rfl rfl) rfl rfl fun a hF=>q_x (v:=(iV (w64 (p_a.Den * p_b.Den)))) hF hS (ex_ibin rfl rfl rfl) rfl rfl fun a hF=>?_)))))
   obtain ⟨t_7,ht_7,hr⟩:=bindS hr
   refine q_call (vs:=[(iV (w64 (p_a.Num * p_b.Num))),(iV (w64 (p_a.Den * p_b.Den)))]) hF hS Tryd.func109 (by kernel_rfl) rfl rfl rfl (c_impl_reduced (w64 (p_a.Num * p_b.Num)) (w64 (p_a.Den * p_b.Den)) t_7 ht_7 _ m hS.vis) ?_
   rintro a w _ rfl hF hS
   refine q_x (v:=(.agg #[(iV t_7.1.Num),(iV t_7.1.Den)])) hF hS (ex_extract rfl rfl) rfl rfl fun a hF=>q_x (v:=(.bool t_7.2)) hF hS (ex_extract rfl rfl) rfl rfl fun a hF=>q_store (vs:=[(iV t_7.1.Num),(iV t_7.1.Den)]) (cs':=[(iV t_7.1.Num),(iV t_7.1.Den)]) 0 0 hF hS sz24 rfl rfl rfl rfl rfl rfl rfl rfl fun a w hF hS=>q_x (v:=(.bool t_7.2)) hF hS (ex_assign rfl) rfl rfl fun a hF=>q_end (n_sq (q_ret ?_))
   obtain rfl:=someI hr
   exact ret_of hF hS rfl (.cellA (us:=[(iV t_7.1.Num),(iV t_7.1.Den)]) 0 0 Tryd.underlying24 rfl sz24 rfl rfl rfl rfl (.tmp rfl .nil)) rfl
  ·have hr:=cond_t hc3 hr
   refine q_cond_t hF rfl hc3 (q_seq (q_region (q_x (v:=(.agg #[(iV 0),(iV 0)])) hF hS (ex_build (cells:=[(iV 0),(iV 0)]) rfl (by kernel_rfl)) rfl rfl fun a hF=>q_store (vs:=[(iV 0),(iV 0)]) (cs':=[(iV 0),(iV 0)]) 0 0 hF hS sz24 rfl rfl rfl rfl rfl rfl rfl rfl fun a w hF hS=>q_x (v:=(.bool false)) hF hS (ex_assign rfl) rfl rfl fun a hF=>q_end (n_sq (q_ret (r_sq ?_))))))
   obtain rfl:=someI hr
   exact ret_of hF hS rfl (.cellA (us:=[(iV 0),(iV 0)]) 0 0 Tryd.underlying24 rfl sz24 rfl rfl rfl rfl (.tmp rfl .nil)) rfl

theorem c_impl_PowFrac (p_f : impl_Frac) (p_k : Int) (r : impl_Frac × Bool) (hr : impl_PowFrac p_f p_k = some r) (w0 : World) (m : Mem) (hv : Vis m w0) :
  Ret Tryd.prog 12 [(.agg #[(iV p_f.Num),(iV p_f.Den)]),(iV p_k)] w0 (fun v _=>v = (.tuple #[(.agg #[(iV r.1.Num),(iV r.1.Den)]),(.bool r.2)])):=by
 unfold impl_PowFrac at hr
 refine ret_start Tryd.func12 rfl 37 rfl rfl m hv fun a hF hS=>q_seq (q_region (q_box (cs:=[(iV p_f.Num),(iV p_f.Den)]) hF hS rfl rfl rfl fun a w b1 hF hS=>q_alloc (cs:=[(iV 0),(iV 0)]) hF hS rfl rfl rfl fun a w b2 hF hS=>q_x (v:=(.bool false)) hF hS (ex_assign rfl) rfl rfl fun a hF=>q_end (n_sq (q_seq (q_seq ?_)))))
 obtain ⟨t_4,hj1,hr⟩:=bindS hr
 refine q_join (fun a w=>Fr a 37 [(1,(iV p_k)),(2,(.pointer (some ⟨b1,0,none⟩))),(4,(.pointer (some ⟨b2,0,none⟩))),(19,(.bool t_4))]∧St [] w0 w m [[⟨b2,[(iV 0),(iV 0)],24⟩],[⟨b1,[(iV p_f.Num),(iV p_f.Den)],24⟩]]) ?_ ?_
 ·refine q_region (q_x (v:=(.agg #[(iV p_f.Num),(iV p_f.Den)])) hF hS (ex_loadA (vs:=[(iV p_f.Num),(iV p_f.Den)]) 1 0 Tryd.underlying24 rfl sz24 rfl rfl rfl rfl) rfl rfl fun a hF=>?_)
  obtain ⟨t_3,ht_3,hj1⟩:=bindS hj1
  refine q_call (vs:=[(.agg #[(iV p_f.Num),(iV p_f.Den)])]) hF hS Tryd.func54 (by kernel_rfl) rfl rfl rfl (c_impl_IsFrac p_f t_3 ht_3 _ m hS.vis) ?_
  rintro a w _ rfl hF hS
  refine q_x (v:=(.bool (!t_3))) hF hS (ex_not rfl) rfl rfl fun a hF=>q_x (v:=(.bool (!t_3))) hF hS (ex_move rfl) rfl rfl fun a hF=>?_
  rcases bcase (!t_3) with hc2 | hc2
  ·have hj1:=cond_f hc2 hj1
   refine q_xg (v:=(iV p_k)) hF hS (ex_move rfl) (wanted_t hF rfl rfl rfl hc2) rfl fun a hF=>q_xg (v:=(.bool (decide (p_k < 0)))) hF hS (ex_ibin rfl rfl rfl) (wanted_t hF rfl rfl rfl hc2) rfl fun a hF=>q_x (v:=(.bool (decide (p_k < 0)))) hF hS (ex_pick_f rfl rfl hc2) rfl rfl fun a hF=>q_x (v:=(.bool (decide (p_k < 0)))) hF hS (ex_move rfl) rfl rfl fun a hF=>?_
   rcases bcase (decide (p_k < 0)) with hc3 | hc3
   ·have hj1:=cond_f hc3 hj1
    refine q_xg (v:=(iV p_k)) hF hS (ex_move rfl) (wanted_t hF rfl rfl rfl hc3) rfl fun a hF=>q_xg (v:=(.bool (decide (60 < p_k)))) hF hS (ex_ibin rfl rfl rfl) (wanted_t hF rfl rfl rfl hc3) rfl fun a hF=>q_x (v:=(.bool (decide (60 < p_k)))) hF hS (ex_pick_f rfl rfl hc3) rfl rfl fun a hF=>q_end (n_jn ?_)
    obtain rfl:=someI hj1
    exact ⟨hF.sub ⟨rfl,rfl,rfl,rfl,trivial⟩,hS⟩
   ·have hj1:=cond_t hc3 hj1
    refine q_skip hF (wanted_f hF rfl rfl rfl hc3 rfl) rfl fun a hF=>q_skip hF (wanted_f hF rfl rfl rfl hc3 rfl) rfl fun a hF=>q_x (v:=(.bool true)) hF hS (ex_pick_t rfl rfl hc3) rfl rfl fun a hF=>q_end (n_jn ?_)
    obtain rfl:=someI hj1
    exact ⟨hF.sub ⟨rfl,rfl,rfl,rfl,trivial⟩,hS⟩
  ·have hj1:=cond_t hc2 hj1
   refine q_skip hF (wanted_f hF rfl rfl rfl hc2 rfl) rfl fun a hF=>q_skip hF (wanted_f hF rfl rfl rfl hc2 rfl) rfl fun a hF=>q_x (v:=(.bool true)) hF hS (ex_pick_t rfl rfl hc2) rfl rfl fun a hF=>q_x (v:=(.bool true)) hF hS (ex_move rfl) rfl rfl fun a hF=>q_skip hF (wanted_f hF rfl rfl rfl rfl rfl) rfl fun a hF=>q_skip hF (wanted_f hF rfl rfl rfl rfl rfl) rfl fun a hF=>q_x (v:=(.bool true)) hF hS (ex_pick_t rfl rfl rfl) rfl rfl fun a hF=>q_end (n_jn ?_)
   obtain rfl:=someI hj1
   exact ⟨hF.sub ⟨rfl,rfl,rfl,rfl,trivial⟩,hS⟩
 ·rintro a w ⟨hF,hS⟩
  refine n_sq ?_
  rcases bcase (t_4) with hc4 | hc4
  ·have hr:=cond_f hc4 hr
   refine q_cond_f hF rfl hc4 (q_skipc (n_sq (q_seq (q_region (q_x (v:=(.agg #[(iV 1),(iV 1)])) hF hS (ex_build (cells:=[(iV 1),(iV 1)]) rfl (by kernel_rfl)) rfl rfl fun a hF=>q_alloc (cs:=[(iV 0),(iV 0)]) hF hS rfl rfl rfl fun a w b5 hF hS=>q_store (vs:=[(iV 1),(iV 1)]) (cs':=[(iV 1),(iV 1)]) 0 0 hF hS sz24 rfl rfl rfl rfl rfl rfl rfl rfl fun a w hF hS=>q_end (n_sq (q_seq (q_seq (q_region (q_x (v:=(iV p_k)) hF hS (ex_move rfl) rfl rfl fun a hF=>q_x (v:=(iV 0)) hF hS (ex_move rfl) rfl rfl fun a hF=>q_end (n_sq (q_block ?_))))))))))))
   obtain ⟨o5,hl5,hr⟩:=bindS hr
   refine q_loop (fun (s : Int × impl_Frac) a w=>∃ t_6,∃ p_7,s = (t_6,p_7)∧Fr a 37 [(2,(.pointer (some ⟨b1,0,none⟩))),(4,(.pointer (some ⟨b2,0,none⟩))),(6,(.pointer (some ⟨b5,0,none⟩))),(22,(iV p_k)),(23,(iV t_6))]∧St [] w0 w m [[⟨b5,[(iV p_7.Num),(iV p_7.Den)],24⟩],[⟨b2,[(iV 0),(iV 0)],24⟩],[⟨b1,[(iV p_f.Num),(iV p_f.Den)],24⟩]]) (fun (o : (impl_Frac) ⊕ (impl_Frac × Bool)) e a w=>∃ p_10,o = .inl p_10∧e = .exit 0∧Fr a 37 [(4,(.pointer (some ⟨b2,0,none⟩))),(6,(.pointer (some ⟨b5,0,none⟩)))]∧St [] w0 w m [[⟨b5,[(iV p_10.Num),(iV p_10.Den)],24⟩],[⟨b2,[(iV 0),(iV 0)],24⟩]]) hl5 ⟨_,_,rfl,hF.sub ⟨rfl,rfl,rfl,rfl,rfl,trivial⟩,hS⟩ ?_ ?_
   ·clear hF hS
    rintro s a w st ⟨t_6,p_7,rfl,hF,hS⟩ hb5
    unfold impl_PowFrac_l1 at hb5
    refine q_seq (q_region (q_x (v:=(.bool (decide (t_6 < p_k)))) hF hS (ex_ibin rfl rfl rfl) rfl rfl fun a hF=>q_end (n_sq (q_seq ?_))))
    rcases bcase (decide (t_6 < p_k)) with hc6 | hc6
    ·have hb5:=cond_f hc6 hb5
     refine q_cond_f hF rfl hc6 (q_exit (x_sq ?_))
     obtain rfl:=someI hb5
     exact ⟨nofun,.inl ⟨_,rfl,rfl,hF.sub ⟨rfl,rfl,trivial⟩,hS.mask [true,true,false]⟩⟩
    ·have hb5:=cond_t hc6 hb5
     refine q_cond_t hF rfl hc6 (q_skipc (n_sq (q_seq (q_block (q_seq (q_region (q_x (v:=(.agg #[(iV p_7.Num),(iV p_7.Den)])) hF hS (ex_loadA (vs:=[(iV p_7.Num),(iV p_7.Den)]) 0 0 Tryd.underlying24 rfl sz24 rfl rfl rfl rfl) rfl rfl fun a hF=>q_x (v:=(.agg #[(iV p_f.Num),(iV p_f.Den)])) hF hS (ex_loadA (vs:=[(iV p_f.Num),(iV p_f.Den)]) 2 0 Tryd.underlying24 rfl sz24 rfl rfl rfl rfl) rfl rfl fun a hF=>?_)))))))
     obtain ⟨t_8,ht_8,hb5⟩:=bindS hb5
     refine q_call (vs:=[(.agg #[(iV p_7.Num),(iV p_7.Den)]),(.agg #[(iV p_f.Num),(iV p_f.Den)])]) hF hS Tryd.func61 (by kernel_rfl) rfl rfl rfl (c_impl_MulFrac p_7 p_f t_8 ht_8 _ m hS.vis) ?_
     rintro a w _ rfl hF hS
     refine q_x (v:=(.tuple #[(.agg #[(iV t_8.1.Num),(iV t_8.1.Den)]),(.bool t_8.2)])) hF hS (ex_move rfl) rfl rfl fun a hF=>q_x (v:=(.agg #[(iV t_8.1.Num),(iV t_8.1.Den)])) hF hS (ex_extract rfl rfl) rfl rfl fun a hF=>q_x (v:=(.bool t_8.2)) hF hS (ex_extract rfl rfl) rfl rfl fun a hF=>q_alloc (cs:=[(iV 0),(iV 0)]) hF hS rfl rfl rfl fun a w b9 hF hS=>q_store (vs:=[(iV t_8.1.Num),(iV t_8.1.Den)]) (cs':=[(iV t_8.1.Num),(iV t_8.1.Den)]) 0 0 hF hS sz24 rfl rfl rfl rfl rfl rfl rfl rfl fun a w hF hS=>q_x (v:=(.bool t_8.2)) hF hS (ex_assign rfl) rfl rfl fun a hF=>q_end (n_sq (q_seq (q_seq (q_region (q_x (v:=(.bool t_8.2)) hF hS (ex_move rfl) rfl rfl fun a hF=>q_x (v:=(.bool (!t_8.2))) hF hS (ex_not rfl) rfl rfl fun a hF=>q_end (n_sq ?_))))))
     rcases bcase (!t_8.2) with hc7 | hc7
     ·have hb5:=cond_f hc7 hb5
      refine q_cond_f hF rfl hc7 (q_skipc (n_sq (q_region (q_x (v:=(.agg #[(iV t_8.1.Num),(iV t_8.1.Den)])) hF hS (ex_loadA (vs:=[(iV t_8.1.Num),(iV t_8.1.Den)]) 0 0 Tryd.underlying24 rfl sz24 rfl rfl rfl rfl) rfl rfl fun a hF=>q_store (vs:=[(iV t_8.1.Num),(iV t_8.1.Den)]) (cs':=[(iV t_8.1.Num),(iV t_8.1.Den)]) 1 0 hF hS sz24 rfl rfl rfl rfl rfl rfl rfl rfl fun a w hF hS=>q_end (n_ib (n_sq (q_region (q_x (v:=(iV (w64 (t_6 + 1)))) hF hS (ex_ibin rfl rfl rfl) rfl rfl fun a hF=>q_x (v:=(iV (w64 (t_6 + 1)))) hF hS (ex_move rfl) rfl rfl fun a hF=>q_end ?_))))))))
      obtain rfl:=someI hb5
      exact ⟨rfl,_,_,rfl,hF.sub ⟨rfl,rfl,rfl,rfl,rfl,trivial⟩,hS.mask [false,true,true,true]⟩
     ·have hb5:=cond_t hc7 hb5
      refine q_cond_t hF rfl hc7 (q_seq (q_region (q_x (v:=(.agg #[(iV 0),(iV 0)])) hF hS (ex_build (cells:=[(iV 0),(iV 0)]) rfl (by kernel_rfl)) rfl rfl fun a hF=>q_store (vs:=[(iV 0),(iV 0)]) (cs':=[(iV 0),(iV 0)]) 2 0 hF hS sz24 rfl rfl rfl rfl rfl rfl rfl rfl fun a w hF hS=>q_x (v:=(.bool false)) hF hS (ex_assign rfl) rfl rfl fun a hF=>q_end (n_sq (q_ret (r_sq (r_ib (r_sq ?_))))))))
      obtain rfl:=someI hb5
      refine ⟨nofun,.inr fun ho=>?_⟩
      subst ho
      refine r_ib (r_sq ?_)
      obtain rfl:=someI hr
      exact ret_of hF hS rfl (.cellA (us:=[(iV 0),(iV 0)]) 2 0 Tryd.underlying24 rfl sz24 rfl rfl rfl rfl (.tmp rfl .nil)) rfl
   ·rintro e a w ⟨p_10,rfl,rfl,hF,hS⟩
    refine x_ib (n_sq ?_)
    refine q_seq (q_region (q_x (v:=(.agg #[(iV p_10.Num),(iV p_10.Den)])) hF hS (ex_loadA (vs:=[(iV p_10.Num),(iV p_10.Den)]) 0 0 Tryd.underlying24 rfl sz24 rfl rfl rfl rfl) rfl rfl fun a hF=>q_store (vs:=[(iV p_10.Num),(iV p_10.Den)]) (cs':=[(iV p_10.Num),(iV p_10.Den)]) 1 0 hF hS sz24 rfl rfl rfl rfl rfl rfl rfl rfl fun a w hF hS=>q_x (v:=(.bool true)) hF hS (ex_assign rfl) rfl rfl fun a hF=>q_end (n_sq (q_ret ?_))))
    obtain rfl:=someI hr
    exact ret_of hF hS rfl (.cellA (us:=[(iV p_10.Num),(iV p_10.Den)]) 1 0 Tryd.underlying24 rfl sz24 rfl rfl rfl rfl (.tmp rfl .nil)) rfl
  ·have hr:=cond_t hc4 hr
   refine q_cond_t hF rfl hc4 (q_seq (q_region (q_x (v:=(.agg #[(iV 0),(iV 0)])) hF hS (ex_build (cells:=[(iV 0),(iV 0)]) rfl (by kernel_rfl)) rfl rfl fun a hF=>q_store (vs:=[(iV 0),(iV 0)]) (cs':=[(iV 0),(iV 0)]) 0 0 hF hS sz24 rfl rfl rfl rfl rfl rfl rfl rfl fun a w hF hS=>q_x (v:=(.bool false)) hF hS (ex_assign rfl) rfl rfl fun a hF=>q_end (n_sq (q_ret (r_sq ?_))))))
   obtain rfl:=someI hr
   exact ret_of hF hS rfl (.cellA (us:=[(iV 0),(iV 0)]) 0 0 Tryd.underlying24 rfl sz24 rfl rfl rfl rfl (.tmp rfl .nil)) rfl

theorem c_spec_fInt (p_n : Int) (r : impl_Frac) (hr : spec_fInt p_n = some r) (w0 : World) (m : Mem) (hv : Vis m w0) :
  Ret Tryd.prog 65 [(iV p_n)] w0 (fun v _=>v = (.agg #[(iV r.Num),(iV r.Den)])):=by
 unfold spec_fInt at hr
 refine ret_start Tryd.func65 rfl 5 rfl rfl m hv fun a hF hS=>q_seq (q_region (q_alloc (cs:=[(iV 0),(iV 0)]) hF hS rfl rfl rfl fun a w b1 hF hS=>q_end (n_sq (q_seq (q_region (q_x (v:=(iV p_n)) hF hS (ex_move rfl) rfl rfl fun a hF=>q_x (v:=(.agg #[(iV p_n),(iV 1)])) hF hS (ex_build (cells:=[(iV p_n),(iV 1)]) rfl (by kernel_rfl)) rfl rfl fun a hF=>q_store (vs:=[(iV p_n),(iV 1)]) (cs':=[(iV p_n),(iV 1)]) 0 0 hF hS sz24 rfl rfl rfl rfl rfl rfl rfl rfl fun a w hF hS=>q_end (n_sq (q_ret ?_))))))))
 obtain rfl:=someI hr
 exact ret_of hF hS rfl (.cellA (us:=[(iV p_n),(iV 1)]) 0 0 Tryd.underlying24 rfl sz24 rfl rfl rfl rfl .nil) rfl

theorem c_spec_fMul (p_a : impl_Frac) (p_b : impl_Frac) (r : impl_Frac × Bool) (hr : spec_fMul p_a p_b = some r) (w0 : World) (m : Mem) (hv : Vis m w0) :
  Ret Tryd.prog 110 [(.agg #[(iV p_a.Num),(iV p_a.Den)]),(.agg #[(iV p_b.Num),(iV p_b.Den)])] w0 (fun v _=>v = (.tuple #[(.agg #[(iV r.1.Num),(iV r.1.Den)]),(.bool r.2)])):=by
 unfold spec_fMul at hr
 refine ret_start Tryd.func110 rfl 19 rfl rfl m hv fun a hF hS=>q_seq (q_region (q_box (cs:=[(iV p_a.Num),(iV p_a.Den)]) hF hS rfl rfl rfl fun a w b1 hF hS=>q_box (cs:=[(iV p_b.Num),(iV p_b.Den)]) hF hS rfl rfl rfl fun a w b2 hF hS=>q_alloc (cs:=[(iV 0),(iV 0)]) hF hS rfl rfl rfl fun a w b3 hF hS=>q_x (v:=(.bool false)) hF hS (ex_assign rfl) rfl rfl fun a hF=>q_end (n_sq (q_seq (q_region (q_x (v:=(.pointer (some ⟨b1,0,none⟩))) hF hS (ex_fieldAddr Tryd.underlying24 rfl sz3 rfl rfl) rfl rfl fun a hF=>q_x (v:=(iV p_a.Num)) hF hS (ex_load1 2 0 Tryd.underlying3 rfl rfl rfl rfl) rfl rfl fun a hF=>q_x (v:=(.pointer (some ⟨b2,0,none⟩))) hF hS (ex_fieldAddr Tryd.underlying24 rfl sz3 rfl rfl) rfl rfl fun a hF=>q_x (v:=(iV p_b.Num)) hF hS (ex_load1 1 0 Tryd.underlying3 rfl rfl rfl rfl) rfl rfl fun a hF=>q_x (v:=(iV (w64 (p_a.Num * p_b.Num)))) hF hS (ex_ibin rfl rfl rfl) rfl rfl fun a hF=>q_x (v:=(.pointer (some ⟨b1,1,none⟩))) hF hS (ex_fieldAddr Tryd.underlying24 rfl sz3 rfl rfl) rfl rfl fun a hF=>q_x (v:=(iV p_a.Den)) hF hS (ex_load1 2 0 Tryd.underlying3 rfl rfl rfl rfl) rfl rfl fun a hF=>q_x (v:=(.pointer (some ⟨b2,1,none⟩))) hF hS (ex_fieldAddr Tryd.underlying24 rfl sz3 rfl rfl) rfl rfl fun a hF=>q_x (v:=(iV p_b.Den)) hF hS (ex_load1 1 0 Tryd.underlying3 rfl rfl rfl rfl) rfl rfl fun a hF=>q_x (v:=(iV (w64 (p_a.Den * p_b.Den)))) hF hS (ex_ibin rfl rfl rfl) rfl rfl fun a hF=>?_))))))
 obtain ⟨t_4,ht_4,hr⟩:=bindS hr
 refine q_call (vs:=[(iV (w64 (p_a.Num * p_b.Num))),(iV (w64 (p_a.Den * p_b.Den)))]) hF hS Tryd.func51 (by kernel_rfl) rfl rfl rfl (c_spec_fMake (w64 (p_a.Num * p_b.Num)) (w64 (p_a.Den * p_b.Den)) t_4 ht_4 _ m hS.vis) ?_
 rintro a w _ rfl hF hS
 refine q_x (v:=(.agg #[(iV t_4.1.Num),(iV t_4.1.Den)])) hF hS (ex_extract rfl rfl) rfl rfl fun a hF=>q_x (v:=(.bool t_4.2)) hF hS (ex_extract rfl rfl) rfl rfl fun a hF=>q_store (vs:=[(iV t_4.1.Num),(iV t_4.1.Den)]) (cs':=[(iV t_4.1.Num),(iV t_4.1.Den)]) 0 0 hF hS sz24 rfl rfl rfl rfl rfl rfl rfl rfl fun a w hF hS=>q_x (v:=(.bool t_4.2)) hF hS (ex_assign rfl) rfl rfl fun a hF=>q_end (n_sq (q_ret ?_))
 obtain rfl:=someI hr
 exact ret_of hF hS rfl (.cellA (us:=[(iV t_4.1.Num),(iV t_4.1.Den)]) 0 0 Tryd.underlying24 rfl sz24 rfl rfl rfl rfl (.tmp rfl .nil)) rfl

theorem c_spec_fPow (p_f : impl_Frac) (p_k : Int) (r : impl_Frac × Bool) (hr : spec_fPow p_f p_k = some r) (w0 : World) (m : Mem) (hv : Vis m w0) :
  Ret Tryd.prog 63 [(.agg #[(iV p_f.Num),(iV p_f.Den)]),(iV p_k)] w0 (fun v _=>v = (.tuple #[(.agg #[(iV r.1.Num),(iV r.1.Den)]),(.bool r.2)])):=by
 unfold spec_fPow at hr
 refine ret_start Tryd.func63 rfl 25 rfl rfl m hv fun a hF hS=>q_seq (q_region (q_box (cs:=[(iV p_f.Num),(iV p_f.Den)]) hF hS rfl rfl rfl fun a w b1 hF hS=>q_alloc (cs:=[(iV 0),(iV 0)]) hF hS rfl rfl rfl fun a w b2 hF hS=>q_x (v:=(.bool false)) hF hS (ex_assign rfl) rfl rfl fun a hF=>q_end (n_sq (q_seq (q_region ?_)))))
 obtain ⟨t_3,ht_3,hr⟩:=bindS hr
 refine q_call (vs:=[(iV 1)]) hF hS Tryd.func65 (by kernel_rfl) rfl rfl rfl (c_spec_fInt 1 t_3 ht_3 _ m hS.vis) ?_
 rintro a w _ rfl hF hS
 refine q_alloc (cs:=[(iV 0),(iV 0)]) hF hS rfl rfl rfl fun a w b4 hF hS=>q_store (vs:=[(iV t_3.Num),(iV t_3.Den)]) (cs':=[(iV t_3.Num),(iV t_3.Den)]) 0 0 hF hS sz24 rfl rfl rfl rfl rfl rfl rfl rfl fun a w hF hS=>q_end (n_sq (q_seq (q_block ?_)))
 obtain ⟨o1,hl1,hr⟩:=bindS hr
 refine q_loop (fun (s : Int × impl_Frac) a w=>∃ k_5,∃ out_6,s = (k_5,out_6)∧Fr a 25 [(1,(iV k_5)),(2,(.pointer (some ⟨b1,0,none⟩))),(4,(.pointer (some ⟨b2,0,none⟩))),(6,(.pointer (some ⟨b4,0,none⟩)))]∧St [] w0 w m [[⟨b4,[(iV out_6.Num),(iV out_6.Den)],24⟩],[⟨b2,[(iV 0),(iV 0)],24⟩],[⟨b1,[(iV p_f.Num),(iV p_f.Den)],24⟩]]) (fun (o : (impl_Frac) ⊕ (impl_Frac × Bool)) e a w=>∃ out_9,o = .inl out_9∧e = .exit 0∧Fr a 25 [(4,(.pointer (some ⟨b2,0,none⟩))),(6,(.pointer (some ⟨b4,0,none⟩)))]∧St [] w0 w m [[⟨b4,[(iV out_9.Num),(iV out_9.Den)],24⟩],[⟨b2,[(iV 0),(iV 0)],24⟩]]) hl1 ⟨_,_,rfl,hF.sub ⟨rfl,rfl,rfl,rfl,trivial⟩,hS⟩ ?_ ?_
 ·clear hF hS
  rintro s a w st ⟨k_5,out_6,rfl,hF,hS⟩ hb1
  unfold spec_fPow_l1 at hb1
  refine q_seq (q_seq (q_region (q_x (v:=(iV k_5)) hF hS (ex_move rfl) rfl rfl fun a hF=>q_x (v:=(.bool (decide (0 < k_5)))) hF hS (ex_ibin rfl rfl rfl) rfl rfl fun a hF=>q_end (n_sq ?_))))
  rcases bcase (decide (0 < k_5)) with hc2 | hc2
  ·have hb1:=cond_f hc2 hb1
   refine q_cond_f hF rfl hc2 (q_exit (x_sq ?_))
   obtain rfl:=someI hb1
   exact ⟨nofun,.inl ⟨_,rfl,rfl,hF.sub ⟨rfl,rfl,trivial⟩,hS.mask [true,true,false]⟩⟩
  ·have hb1:=cond_t hc2 hb1
   refine q_cond_t hF rfl hc2 (q_skipc (n_sq (q_seq (q_block (q_seq (q_region (q_x (v:=(.agg #[(iV out_6.Num),(iV out_6.Den)])) hF hS (ex_loadA (vs:=[(iV out_6.Num),(iV out_6.Den)]) 0 0 Tryd.underlying24 rfl sz24 rfl rfl rfl rfl) rfl rfl fun a hF=>q_x (v:=(.agg #[(iV p_f.Num),(iV p_f.Den)])) hF hS (ex_loadA (vs:=[(iV p_f.Num),(iV p_f.Den)]) 2 0 Tryd.underlying24 rfl sz24 rfl rfl rfl rfl) rfl rfl fun a hF=>?_)))))))
   obtain ⟨t_7,ht_7,hb1⟩:=bindS hb1
   refine q_call (vs:=[(.agg #[(iV out_6.Num),(iV out_6.Den)]),(.agg #[(iV p_f.Num),(iV p_f.Den)])]) hF hS Tryd.func110 (by kernel_rfl) rfl rfl rfl (c_spec_fMul out_6 p_f t_7 ht_7 _ m hS.vis) ?_
   rintro a w _ rfl hF hS
   refine q_x (v:=(.tuple #[(.agg #[(iV t_7.1.Num),(iV t_7.1.Den)]),(.bool t_7.2)])) hF hS (ex_move rfl) rfl rfl fun a hF=>q_x (v:=(.agg #[(iV t_7.1.Num),(iV t_7.1.Den)])) hF hS (ex_extract rfl rfl) rfl rfl fun a hF=>q_x (v:=(.bool t_7.2)) hF hS (ex_extract rfl rfl) rfl rfl fun a hF=>q_alloc (cs:=[(iV 0),(iV 0)]) hF hS rfl rfl rfl fun a w b8 hF hS=>q_store (vs:=[(iV t_7.1.Num),(iV t_7.1.Den)]) (cs':=[(iV t_7.1.Num),(iV t_7.1.Den)]) 0 0 hF hS sz24 rfl rfl rfl rfl rfl rfl rfl rfl fun a w hF hS=>q_x (v:=(.bool t_7.2)) hF hS (ex_assign rfl) rfl rfl fun a hF=>q_end (n_sq (q_seq (q_seq (q_region (q_x (v:=(.bool t_7.2)) hF hS (ex_move rfl) rfl rfl fun a hF=>q_x (v:=(.bool (!t_7.2))) hF hS (ex_not rfl) rfl rfl fun a hF=>q_end (n_sq ?_))))))
   rcases bcase (!t_7.2) with hc3 | hc3
   ·have hb1:=cond_f hc3 hb1
    refine q_cond_f hF rfl hc3 (q_skipc (n_sq (q_region (q_x (v:=(.agg #[(iV t_7.1.Num),(iV t_7.1.Den)])) hF hS (ex_loadA (vs:=[(iV t_7.1.Num),(iV t_7.1.Den)]) 0 0 Tryd.underlying24 rfl sz24 rfl rfl rfl rfl) rfl rfl fun a hF=>q_store (vs:=[(iV t_7.1.Num),(iV t_7.1.Den)]) (cs':=[(iV t_7.1.Num),(iV t_7.1.Den)]) 1 0 hF hS sz24 rfl rfl rfl rfl rfl rfl rfl rfl fun a w hF hS=>q_end (n_ib (n_sq (q_region (q_x (v:=(iV k_5)) hF hS (ex_move rfl) rfl rfl fun a hF=>q_x (v:=(iV (w64 (k_5 - 1)))) hF hS (ex_ibin rfl rfl rfl) rfl rfl fun a hF=>q_x (v:=(iV (w64 (k_5 - 1)))) hF hS (ex_assign rfl) rfl rfl fun a hF=>q_end ?_))))))))
    obtain rfl:=someI hb1
    exact ⟨rfl,_,_,rfl,hF.sub ⟨rfl,rfl,rfl,rfl,trivial⟩,hS.mask [false,true,true,true]⟩
   ·have hb1:=cond_t hc3 hb1
    refine q_cond_t hF rfl hc3 (q_seq (q_region (q_x (v:=(.agg #[(iV 0),(iV 0)])) hF hS (ex_build (cells:=[(iV 0),(iV 0)]) rfl (by kernel_rfl)) rfl rfl fun a hF=>q_store (vs:=[(iV 0),(iV 0)]) (cs':=[(iV 0),(iV 0)]) 2 0 hF hS sz24 rfl rfl rfl rfl rfl rfl rfl rfl fun a w hF hS=>q_x (v:=(.bool false)) hF hS (ex_assign rfl) rfl rfl fun a hF=>q_end (n_sq (q_ret (r_sq (r_ib (r_sq ?_))))))))
    obtain rfl:=someI hb1
    refine ⟨nofun,.inr fun ho=>?_⟩
    subst ho
    refine r_ib (r_sq ?_)
    obtain rfl:=someI hr
    exact ret_of hF hS rfl (.cellA (us:=[(iV 0),(iV 0)]) 2 0 Tryd.underlying24 rfl sz24 rfl rfl rfl rfl (.tmp rfl .nil)) rfl
 ·rintro e a w ⟨out_9,rfl,rfl,hF,hS⟩
  refine x_ib (n_sq ?_)
  refine q_seq (q_region (q_x (v:=(.agg #[(iV out_9.Num),(iV out_9.Den)])) hF hS (ex_loadA (vs:=[(iV out_9.Num),(iV out_9.Den)]) 0 0 Tryd.underlying24 rfl sz24 rfl rfl rfl rfl) rfl rfl fun a hF=>q_store (vs:=[(iV out_9.Num),(iV out_9.Den)]) (cs':=[(iV out_9.Num),(iV out_9.Den)]) 1 0 hF hS sz24 rfl rfl rfl rfl rfl rfl rfl rfl fun a w hF hS=>q_x (v:=(.bool true)) hF hS (ex_assign rfl) rfl rfl fun a hF=>q_end (n_sq (q_ret ?_))))
  obtain rfl:=someI hr
  exact ret_of hF hS rfl (.cellA (us:=[(iV out_9.Num),(iV out_9.Den)]) 1 0 Tryd.underlying24 rfl sz24 rfl rfl rfl rfl (.tmp rfl .nil)) rfl

theorem c_spec_PowFrac (p_f : impl_Frac) (p_k : Int) (r : impl_Frac × Bool) (hr : spec_PowFrac p_f p_k = some r) (w0 : World) (m : Mem) (hv : Vis m w0) :
  Ret Tryd.prog 13 [(.agg #[(iV p_f.Num),(iV p_f.Den)]),(iV p_k)] w0 (fun v _=>v = (.tuple #[(.agg #[(iV r.1.Num),(iV r.1.Den)]),(.bool r.2)])):=by
 unfold spec_PowFrac at hr
 refine ret_start Tryd.func13 rfl 20 rfl rfl m hv fun a hF hS=>q_seq (q_region (q_box (cs:=[(iV p_f.Num),(iV p_f.Den)]) hF hS rfl rfl rfl fun a w b1 hF hS=>q_alloc (cs:=[(iV 0),(iV 0)]) hF hS rfl rfl rfl fun a w b2 hF hS=>q_x (v:=(.bool false)) hF hS (ex_assign rfl) rfl rfl fun a hF=>q_end (n_sq (q_seq (q_seq ?_)))))
 obtain ⟨t_5,hj1,hr⟩:=bindS hr
 refine q_join (fun a w=>Fr a 20 [(1,(iV p_k)),(2,(.pointer (some ⟨b1,0,none⟩))),(4,(.pointer (some ⟨b2,0,none⟩))),(13,(.bool t_5))]∧St [] w0 w m [[⟨b2,[(iV 0),(iV 0)],24⟩],[⟨b1,[(iV p_f.Num),(iV p_f.Den)],24⟩]]) ?_ ?_
 ·refine q_region (q_x (v:=(.agg #[(iV p_f.Num),(iV p_f.Den)])) hF hS (ex_loadA (vs:=[(iV p_f.Num),(iV p_f.Den)]) 1 0 Tryd.underlying24 rfl sz24 rfl rfl rfl rfl) rfl rfl fun a hF=>?_)
  obtain ⟨t_3,ht_3,hj1⟩:=bindS hj1
  refine q_call (vs:=[(.agg #[(iV p_f.Num),(iV p_f.Den)])]) hF hS Tryd.func56 (by kernel_rfl) rfl rfl rfl (c_spec_fGood p_f t_3 ht_3 _ m hS.vis) ?_
  rintro a w _ rfl hF hS
  refine q_x (v:=(.bool (!t_3))) hF hS (ex_not rfl) rfl rfl fun a hF=>q_x (v:=(.bool (!t_3))) hF hS (ex_move rfl) rfl rfl fun a hF=>?_
  rcases bcase (!t_3) with hc2 | hc2
  ·have hj1:=cond_f hc2 hj1
   refine q_xg (v:=(iV p_k)) hF hS (ex_move rfl) (wanted_t hF rfl rfl rfl hc2) rfl fun a hF=>?_
   obtain ⟨t_4,ht_4,hj1⟩:=bindS hj1
   refine q_callg (vs:=[(iV p_k),(iV 0),(iV 60)]) hF hS (wanted_t hF rfl rfl rfl hc2) Tryd.func62 (by kernel_rfl) rfl rfl rfl (c_spec_l1In p_k 0 60 t_4 ht_4 _ m hS.vis) ?_
   rintro a w _ rfl hF hS
   refine q_xg (v:=(.bool (!t_4))) hF hS (ex_not rfl) (wanted_t hF rfl rfl rfl hc2) rfl fun a hF=>q_x (v:=(.bool (!t_4))) hF hS (ex_pick_f rfl rfl hc2) rfl rfl fun a hF=>q_end (n_jn ?_)
   obtain rfl:=someI hj1
   exact ⟨hF.sub ⟨rfl,rfl,rfl,rfl,trivial⟩,hS⟩
  ·have hj1:=cond_t hc2 hj1
   refine q_skip hF (wanted_f hF rfl rfl rfl hc2 rfl) rfl fun a hF=>q_skip hF (wanted_f hF rfl rfl rfl hc2 rfl) rfl fun a hF=>q_skip hF (wanted_f hF rfl rfl rfl hc2 rfl) rfl fun a hF=>q_x (v:=(.bool true)) hF hS (ex_pick_t rfl rfl hc2) rfl rfl fun a hF=>q_end (n_jn ?_)
   obtain rfl:=someI hj1
   exact ⟨hF.sub ⟨rfl,rfl,rfl,rfl,trivial⟩,hS⟩
 ·rintro a w ⟨hF,hS⟩
  refine n_sq ?_
  rcases bcase (t_5) with hc3 | hc3
  ·have hr:=cond_f hc3 hr
   refine q_cond_f hF rfl hc3 (q_skipc (n_sq (q_seq (q_region (q_x (v:=(.agg #[(iV p_f.Num),(iV p_f.Den)])) hF hS (ex_loadA (vs:=[(iV p_f.Num),(iV p_f.Den)]) 1 0 Tryd.underlying24 rfl sz24 rfl rfl rfl rfl) rfl rfl fun a hF=>q_x (v:=(iV p_k)) hF hS (ex_move rfl) rfl rfl fun a hF=>?_)))))
   obtain ⟨t_6,ht_6,hr⟩:=bindS hr
   refine q_call (vs:=[(.agg #[(iV p_f.Num),(iV p_f.Den)]),(iV p_k)]) hF hS Tryd.func63 (by kernel_rfl) rfl rfl rfl (c_spec_fPow p_f p_k t_6 ht_6 _ m hS.vis) ?_
   rintro a w _ rfl hF hS
   refine q_x (v:=(.agg #[(iV t_6.1.Num),(iV t_6.1.Den)])) hF hS (ex_extract rfl rfl) rfl rfl fun a hF=>q_x (v:=(.bool t_6.2)) hF hS (ex_extract rfl rfl) rfl rfl fun a hF=>q_store (vs:=[(iV t_6.1.Num),(iV t_6.1.Den)]) (cs':=[(iV t_6.1.Num),(iV t_6.1.Den)]) 0 0 hF hS sz24 rfl rfl rfl rfl rfl rfl rfl rfl fun a w hF hS=>q_x (v:=(.bool t_6.2)) hF hS (ex_assign rfl) rfl rfl fun a hF=>q_end (n_sq (q_ret ?_))
   obtain rfl:=someI hr
   exact ret_of hF hS rfl (.cellA (us:=[(iV t_6.1.Num),(iV t_6.1.Den)]) 0 0 Tryd.underlying24 rfl sz24 rfl rfl rfl rfl (.tmp rfl .nil)) rfl
  ·have hr:=cond_t hc3 hr
   refine q_cond_t hF rfl hc3 (q_seq (q_region (q_x (v:=(.agg #[(iV 0),(iV 0)])) hF hS (ex_build (cells:=[(iV 0),(iV 0)]) rfl (by kernel_rfl)) rfl rfl fun a hF=>q_store (vs:=[(iV 0),(iV 0)]) (cs':=[(iV 0),(iV 0)]) 0 0 hF hS sz24 rfl rfl rfl rfl rfl rfl rfl rfl fun a w hF hS=>q_x (v:=(.bool false)) hF hS (ex_assign rfl) rfl rfl fun a hF=>q_end (n_sq (q_ret (r_sq ?_))))))
   obtain rfl:=someI hr
   exact ret_of hF hS rfl (.cellA (us:=[(iV 0),(iV 0)]) 0 0 Tryd.underlying24 rfl sz24 rfl rfl rfl rfl (.tmp rfl .nil)) rfl

theorem c_spec_DrawSumFracs (p_code : List (K .u8)) (r : (List impl_Frac)) (hr : spec_DrawSumFracs p_code = some r) (w0 : World) (m : Mem) (hv : Vis m w0) (s1 : Sl) (h1 : Rd m s1 p_code) :
  Ret Tryd.prog 14 [s1.v] w0 (fun v w=>∃ (q0' : Piece) (s0' : Sl),v = s0'.v∧St [] w0 w m [q0']∧OwnL m 24 q0' s0' r):=by
 unfold spec_DrawSumFracs at hr
 refine ret_start Tryd.func14 rfl 42 rfl rfl m hv fun a hF hS=>q_seq (q_region (q_x (v:=nilS.v) hF hS (ex_assign rfl) rfl rfl fun a hF=>q_end (n_sq (q_seq (q_region (q_x (v:=s1.v) hF hS (ex_move rfl) rfl rfl fun a hF=>q_x (v:=(.agg #[s1.v,(iV 0),(.int .u64 0)])) hF hS (ex_build (cells:=[s1.v,(iV 0),(.int .u64 0)]) rfl (by kernel_rfl)) rfl rfl fun a hF=>q_box (cs:=[s1.v,(iV 0),(.int .u64 0)]) hF hS rfl rfl rfl fun a w b2 hF hS=>q_x (v:=(.pointer (some ⟨b2,0,none⟩))) hF hS (ex_assign rfl) rfl rfl fun a hF=>q_end (n_sq (q_seq (q_region (q_x (v:=nilS.v) hF hS (ex_assign rfl) rfl rfl fun a hF=>q_end (n_sq (q_seq (q_seq (q_region (q_x (v:=(.pointer (some ⟨b2,0,none⟩))) hF hS (ex_move rfl) rfl rfl fun a hF=>?_)))))))))))))))
 have hS3 : St _ _ _ _ ([[⟨b2,[s1.v,(iV 0),(.int .u64 0)],76⟩]]++[]):=hS
 have hE3:=hS3.enter
 obtain ⟨t_4,ht_4,hr⟩:=bindS hr
 refine q_do rfl fun _ hK=>wp_callX (vs:=[(.pointer (some ⟨b2,0,none⟩)),(iV 6)]) hF Tryd.func52 (by kernel_rfl) rfl rfl rfl (c_spec_l1Cur_pick (spec_l1Cur.mk p_code 0 (⟨0⟩ : K .u64)) 6 t_4 ht_4 _ m b2 s1 h1 _ hE3) fun a w _ hR hF=>hK _ _ ?_
 obtain ⟨rfl,hR3,hk5⟩:=hR
 have hS : St _ _ _ _ [[⟨b2,[s1.v,(iV t_4.2.at_),(.int .u64 t_4.2.seed.v)],76⟩]]:=hS3.leaveF hR3
 have h5 : Rd m s1 t_4.2.code:=by rw [hk5]; exact h1
 refine q_x (v:=(iV t_4.1)) hF hS (ex_assign rfl) rfl rfl fun a hF=>q_end (n_sq (q_block ?_))
 obtain ⟨o1,hl1,hr⟩:=bindS hr
 refine q_loop (fun (s : (List impl_Frac) × Int × spec_l1Cur) a w=>∃ (q7 : Piece),∃ (s7 : Sl),∃ l_6,∃ k_8,∃ t_9,s = (l_6,k_8,t_9)∧Fr a 42 [(3,(.pointer (some ⟨b2,0,none⟩))),(4,s7.v),(5,(iV k_8))]∧St [] w0 w m [q7,[⟨b2,[s1.v,(iV t_9.at_),(.int .u64 t_9.seed.v)],76⟩]]∧OwnL m 24 q7 s7 l_6∧Rd m s1 t_9.code∧t_9.code = p_code) (fun (o : (List impl_Frac) × spec_l1Cur) e a w=>∃ (q18 : Piece),∃ (s18 : Sl),∃ l_17,∃ t_19,o = (l_17,t_19)∧e = .exit 0∧Fr a 42 [(3,(.pointer (some ⟨b2,0,none⟩))),(4,s18.v)]∧St [] w0 w m [q18,[⟨b2,[s1.v,(iV t_19.at_),(.int .u64 t_19.seed.v)],76⟩]]∧OwnL m 24 q18 s18 l_17∧Rd m s1 t_19.code∧t_19.code = p_code) hl1 ⟨[],nilS,_,_,_,rfl,hF.sub ⟨rfl,rfl,rfl,trivial⟩,hS.sel [1,0] (by decide),(OwnL.nil (α:=impl_Frac) m 24),h5,hk5⟩ ?_ ?_
 ·clear hF hS
  rintro s a w st ⟨q7,s7,l_6,k_8,t_9,rfl,hF,hS,h7,h10,h10k⟩ hb1
  unfold spec_DrawSumFracs_l1 at hb1
  refine q_seq (q_seq (q_region (q_x (v:=(iV k_8)) hF hS (ex_move rfl) rfl rfl fun a hF=>q_x (v:=(.bool (decide (0 < k_8)))) hF hS (ex_ibin rfl rfl rfl) rfl rfl fun a hF=>q_end (n_sq ?_))))
  rcases bcase (decide (0 < k_8)) with hc2 | hc2
  ·have hb1:=cond_f hc2 hb1
   refine q_cond_f hF rfl hc2 (q_exit (x_sq ?_))
   obtain rfl:=someI hb1
   exact ⟨nofun,.inl ⟨q7,s7,_,_,rfl,rfl,hF.sub ⟨rfl,rfl,trivial⟩,hS,h7,h10,h10k⟩⟩
  ·have hb1:=cond_t hc2 hb1
   refine q_cond_t hF rfl hc2 (q_skipc (n_sq (q_seq (q_block (q_region (q_x (v:=s7.v) hF hS (ex_move rfl) rfl rfl fun a hF=>q_x (v:=(.pointer (some ⟨b2,0,none⟩))) hF hS (ex_move rfl) rfl rfl fun a hF=>?_))))))
   have hS : St _ _ _ _ [[⟨b2,[s1.v,(iV t_9.at_),(.int .u64 t_9.seed.v)],76⟩],q7]:=hS.sel [1,0] (by decide)
   have hS11 : St _ _ _ _ ([[⟨b2,[s1.v,(iV t_9.at_),(.int .u64 t_9.seed.v)],76⟩]]++[q7]):=hS
   have hE11:=hS11.enter
   obtain ⟨t_12,ht_12,hb1⟩:=bindS hb1
   refine q_do rfl fun _ hK=>wp_callX (vs:=[(.pointer (some ⟨b2,0,none⟩))]) hF Tryd.func64 (by kernel_rfl) rfl rfl rfl (c_spec_l1Cur_frac t_9 t_12 ht_12 _ m b2 s1 h10 _ hE11) fun a w _ hR hF=>hK _ _ ?_
   obtain ⟨rfl,hR11,hk13⟩:=hR
   have hS : St _ _ _ _ [[⟨b2,[s1.v,(iV t_12.2.at_),(.int .u64 t_12.2.seed.v)],76⟩],q7]:=hS11.leaveF hR11
   have h13 : Rd m s1 t_12.2.code:=by rw [hk13]; exact h10
   refine q_do rfl fun _ hK=>wp_buildSlice' (l:=([t_12.1] : List impl_Frac)) (cells:=[(iV t_12.1.Num),(iV t_12.1.Den)]) hF hS Tryd.underlying32 inf24 rfl rfl (by kernel_rfl) rfl rfl rfl ⟨rfl,rfl⟩ rfl rfl fun a w q14 s14 hF hS h14 _=>hK _ _ ?_
   have hS : St _ _ _ _ [q7,q14,[⟨b2,[s1.v,(iV t_12.2.at_),(.int .u64 t_12.2.seed.v)],76⟩]]:=hS.sel [2,0,1] (by decide)
   obtain ⟨l_15,hl_15,hb1⟩:=bindS hb1
   refine q_do rfl fun _ hK=>wp_append hF hS h7 Tryd.underlying32 inf24 rfl rfl rfl rfl (h14.vw hS (j:=1) rfl) rfl (by decide) hl_15 rfl fun a w q16 s16 hF hS h16=>hK _ _ (q_x (v:=s16.v) hF hS (ex_assign rfl) rfl rfl fun a hF=>q_end (n_ib (n_sq (q_region (q_x (v:=(iV k_8)) hF hS (ex_move rfl) rfl rfl fun a hF=>q_x (v:=(iV (w64 (k_8 - 1)))) hF hS (ex_ibin rfl rfl rfl) rfl rfl fun a hF=>q_x (v:=(iV (w64 (k_8 - 1)))) hF hS (ex_assign rfl) rfl rfl fun a hF=>q_end ?_)))))
   obtain rfl:=someI hb1
   exact ⟨rfl,q16,s16,_,_,_,rfl,hF.sub ⟨rfl,rfl,rfl,trivial⟩,hS.mask [true,false,true],h16,h13,(hk13.trans h10k)⟩
 ·rintro e a w ⟨q18,s18,l_17,t_19,rfl,rfl,hF,hS,h18,h20,h20k⟩
  refine x_ib (n_sq ?_)
  refine q_seq (q_seq (q_region (q_x (v:=(.pointer (some ⟨b2,0,none⟩))) hF hS (ex_move rfl) rfl rfl fun a hF=>?_)))
  have hS : St _ _ _ _ [[⟨b2,[s1.v,(iV t_19.at_),(.int .u64 t_19.seed.v)],76⟩],q18]:=hS.sel [1,0] (by decide)
  have hS21 : St _ _ _ _ ([[⟨b2,[s1.v,(iV t_19.at_),(.int .u64 t_19.seed.v)],76⟩]]++[q18]):=hS
  have hE21:=hS21.enter
  obtain ⟨t_22,ht_22,hr⟩:=bindS hr
  refine q_do rfl fun _ hK=>wp_callX (vs:=[(.pointer (some ⟨b2,0,none⟩)),(iV 20)]) hF Tryd.func52 (by kernel_rfl) rfl rfl rfl (c_spec_l1Cur_pick t_19 20 t_22 ht_22 _ m b2 s1 h20 _ hE21) fun a w _ hR hF=>hK _ _ ?_
  obtain ⟨rfl,hR21,hk23⟩:=hR
  have hS : St _ _ _ _ [[⟨b2,[s1.v,(iV t_22.2.at_),(.int .u64 t_22.2.seed.v)],76⟩],q18]:=hS21.leaveF hR21
  have h23 : Rd m s1 t_22.2.code:=by rw [hk23]; exact h20
  refine q_end (n_sq (q_block (q_seq (q_region (q_x (v:=(.bool (t_22.1 == 0))) hF hS (ex_ibin rfl rfl rfl) rfl rfl fun a hF=>q_x (v:=(.bool (t_22.1 == 0))) hF hS (ex_assign rfl) rfl rfl fun a hF=>q_end (n_sq ?_))))))
  obtain ⟨l_45,hj3,hr⟩:=bindS hr
  refine q_join (fun a w=>∃ (q46 : Piece),∃ (s46 : Sl),Fr a 42 [(4,s46.v)]∧St [] w0 w m [q46]∧OwnL m 24 q46 s46 l_45) ?_ ?_
  ·rcases bcase (t_22.1 == 0) with hc4 | hc4
   ·have hj3:=cond_f hc4 hj3
    refine q_cond_f hF rfl hc4 (q_seq (q_region (q_x (v:=(.bool (t_22.1 == 1))) hF hS (ex_ibin rfl rfl rfl) rfl rfl fun a hF=>q_x (v:=(.bool (t_22.1 == 1))) hF hS (ex_assign rfl) rfl rfl fun a hF=>q_end (n_sq ?_))))
    obtain ⟨l_37,hj5,hj3⟩:=bindS hj3
    refine q_join (fun a w=>∃ (q38 : Piece),∃ (s38 : Sl),Fr a 42 [(4,s38.v)]∧St [] w0 w m [q38]∧OwnL m 24 q38 s38 l_37) ?_ ?_
    ·rcases bcase (t_22.1 == 1) with hc6 | hc6
     ·have hj5:=cond_f hc6 hj5
      refine q_cond_f hF rfl hc6 (q_skipc (n_jn ?_))
      obtain rfl:=someI hj5
      exact ⟨q18,s18,hF.sub ⟨rfl,trivial⟩,hS.mask [false,true],h18⟩
     ·have hj5:=cond_t hc6 hj5
      refine q_cond_t hF rfl hc6 (q_block ?_)
      obtain ⟨l_35,hl7,hj5⟩:=bindS hj5
      refine q_loop (fun (s : (List impl_Frac) × spec_l1Cur) a w=>∃ (q25 : Piece),∃ (s25 : Sl),∃ l_24,∃ t_26,s = (l_24,t_26)∧Fr a 42 [(3,(.pointer (some ⟨b2,0,none⟩))),(4,s25.v)]∧St [] w0 w m [q25,[⟨b2,[s1.v,(iV t_26.at_),(.int .u64 t_26.seed.v)],76⟩]]∧OwnL m 24 q25 s25 l_24∧Rd m s1 t_26.code∧t_26.code = p_code) (fun (l_35 : (List impl_Frac)) e a w=>∃ (q36 : Piece),∃ (s36 : Sl),e = .exit 3∧Fr a 42 [(4,s36.v)]∧St [] w0 w m [q36]∧OwnL m 24 q36 s36 l_35) hl7 ⟨q18,s18,_,_,rfl,hF.sub ⟨rfl,rfl,trivial⟩,hS.sel [1,0] (by decide),h18,h23,(hk23.trans h20k)⟩ ?_ ?_
      ·clear hF hS
       rintro s a w st ⟨q25,s25,l_24,t_26,rfl,hF,hS,h25,h27,h27k⟩ hb7
       unfold spec_DrawSumFracs_l2 at hb7
       refine q_seq (q_seq (q_region (q_x (v:=s25.v) hF hS (ex_move rfl) rfl rfl fun a hF=>q_x (v:=(iV (goLen l_24))) hF hS (ex_len Tryd.underlying32 rfl h25.len) rfl rfl fun a hF=>q_x (v:=(.pointer (some ⟨b2,0,none⟩))) hF hS (ex_move rfl) rfl rfl fun a hF=>?_)))
       have hS : St _ _ _ _ [[⟨b2,[s1.v,(iV t_26.at_),(.int .u64 t_26.seed.v)],76⟩],q25]:=hS.sel [1,0] (by decide)
       have hS28 : St _ _ _ _ ([[⟨b2,[s1.v,(iV t_26.at_),(.int .u64 t_26.seed.v)],76⟩]]++[q25]):=hS
       have hE28:=hS28.enter
       obtain ⟨t_29,ht_29,hb7⟩:=bindS hb7
       refine q_do rfl fun _ hK=>wp_callX (vs:=[(.pointer (some ⟨b2,0,none⟩)),(iV 2)]) hF Tryd.func52 (by kernel_rfl) rfl rfl rfl (c_spec_l1Cur_pick t_26 2 t_29 ht_29 _ m b2 s1 h27 _ hE28) fun a w _ hR hF=>hK _ _ ?_
       obtain ⟨rfl,hR28,hk30⟩:=hR
       have hS : St _ _ _ _ [[⟨b2,[s1.v,(iV t_29.2.at_),(.int .u64 t_29.2.seed.v)],76⟩],q25]:=hS28.leaveF hR28
       have h30 : Rd m s1 t_29.2.code:=by rw [hk30]; exact h27
       refine q_x (v:=(iV (w64 (100 + t_29.1)))) hF hS (ex_ibin rfl rfl rfl) rfl rfl fun a hF=>q_x (v:=(.bool (decide ((goLen l_24) < (w64 (100 + t_29.1)))))) hF hS (ex_ibin rfl rfl rfl) rfl rfl fun a hF=>q_end (n_sq ?_)
       rcases bcase (decide ((goLen l_24) < (w64 (100 + t_29.1)))) with hc8 | hc8
       ·have hb7:=cond_f hc8 hb7
        refine q_cond_f hF rfl hc8 (q_exit (x_sq ?_))
        obtain rfl:=someI hb7
        exact ⟨nofun,.inl ⟨q25,s25,rfl,hF.sub ⟨rfl,trivial⟩,hS.mask [false,true],h25⟩⟩
       ·have hb7:=cond_t hc8 hb7
        refine q_cond_t hF rfl hc8 (q_skipc (n_sq (q_block (q_region (q_x (v:=s25.v) hF hS (ex_move rfl) rfl rfl fun a hF=>?_)))))
        obtain ⟨t_31,ht_31,hb7⟩:=bindS hb7
        refine q_call (vs:=[(iV 1)]) hF hS Tryd.func65 (by kernel_rfl) rfl rfl rfl (c_spec_fInt 1 t_31 ht_31 _ m hS.vis) ?_
        rintro a w _ rfl hF hS
        refine q_do rfl fun _ hK=>wp_buildSlice' (l:=([t_31] : List impl_Frac)) (cells:=[(iV t_31.Num),(iV t_31.Den)]) hF hS Tryd.underlying32 inf24 rfl rfl (by kernel_rfl) rfl rfl rfl ⟨rfl,rfl⟩ rfl rfl fun a w q32 s32 hF hS h32 _=>hK _ _ ?_
        have hS : St _ _ _ _ [q25,q32,[⟨b2,[s1.v,(iV t_29.2.at_),(.int .u64 t_29.2.seed.v)],76⟩]]:=hS.sel [2,0,1] (by decide)
        obtain ⟨l_33,hl_33,hb7⟩:=bindS hb7
        refine q_do rfl fun _ hK=>wp_append hF hS h25 Tryd.underlying32 inf24 rfl rfl rfl rfl (h32.vw hS (j:=1) rfl) rfl (by decide) hl_33 rfl fun a w q34 s34 hF hS h34=>hK _ _ (q_x (v:=s34.v) hF hS (ex_assign rfl) rfl rfl fun a hF=>q_end (n_ib ?_))
        obtain rfl:=someI hb7
        exact ⟨rfl,q34,s34,_,_,rfl,hF.sub ⟨rfl,rfl,trivial⟩,hS.mask [true,false,true],h34,h30,(hk30.trans h27k)⟩
      ·rintro e a w ⟨q36,s36,rfl,hF,hS,h36⟩
       refine x_ib (n_jn ?_)
       obtain rfl:=someI hj5
       exact ⟨q36,s36,hF.sub ⟨rfl,trivial⟩,hS,h36⟩
    ·rintro a w ⟨q38,s38,hF,hS,h38⟩
     refine n_jn ?_
     obtain rfl:=someI hj3
     exact ⟨q38,s38,hF.sub ⟨rfl,trivial⟩,hS,h38⟩
   ·have hj3:=cond_t hc4 hj3
    refine q_cond_t hF rfl hc4 (q_region (q_x (v:=s18.v) hF hS (ex_move rfl) rfl rfl fun a hF=>q_x (v:=(.pointer (some ⟨b2,0,none⟩))) hF hS (ex_move rfl) rfl rfl fun a hF=>?_))
    have hS39 : St _ _ _ _ ([[⟨b2,[s1.v,(iV t_22.2.at_),(.int .u64 t_22.2.seed.v)],76⟩]]++[q18]):=hS
    have hE39:=hS39.enter
    obtain ⟨t_40,ht_40,hj3⟩:=bindS hj3
    refine q_do rfl fun _ hK=>wp_callX (vs:=[(.pointer (some ⟨b2,0,none⟩))]) hF Tryd.func53 (by kernel_rfl) rfl rfl rfl (c_spec_l1Cur_anyFrac t_22.2 t_40 ht_40 _ m b2 s1 h23 _ hE39) fun a w _ hR hF=>hK _ _ ?_
    obtain ⟨rfl,hR39,hk41⟩:=hR
    have hS : St _ _ _ _ [[⟨b2,[s1.v,(iV t_40.2.at_),(.int .u64 t_40.2.seed.v)],76⟩],q18]:=hS39.leaveF hR39
    have h41 : Rd m s1 t_40.2.code:=by rw [hk41]; exact h23
    refine q_do rfl fun _ hK=>wp_buildSlice' (l:=([t_40.1] : List impl_Frac)) (cells:=[(iV t_40.1.Num),(iV t_40.1.Den)]) hF hS Tryd.underlying32 inf24 rfl rfl (by kernel_rfl) rfl rfl rfl ⟨rfl,rfl⟩ rfl rfl fun a w q42 s42 hF hS h42 _=>hK _ _ ?_
    have hS : St _ _ _ _ [q18,q42,[⟨b2,[s1.v,(iV t_40.2.at_),(.int .u64 t_40.2.seed.v)],76⟩]]:=hS.sel [2,0,1] (by decide)
    obtain ⟨l_43,hl_43,hj3⟩:=bindS hj3
    refine q_do rfl fun _ hK=>wp_append hF hS h18 Tryd.underlying32 inf24 rfl rfl rfl rfl (h42.vw hS (j:=1) rfl) rfl (by decide) hl_43 rfl fun a w q44 s44 hF hS h44=>hK _ _ (q_x (v:=s44.v) hF hS (ex_assign rfl) rfl rfl fun a hF=>q_end (n_jn ?_))
    obtain rfl:=someI hj3
    exact ⟨q44,s44,hF.sub ⟨rfl,trivial⟩,hS.mask [true,false,false],h44⟩
  ·rintro a w ⟨q46,s46,hF,hS,h46⟩
   refine n_ib (n_sq ?_)
   refine q_seq (q_region (q_x (v:=s46.v) hF hS (ex_move rfl) rfl rfl fun a hF=>q_x (v:=s46.v) hF hS (ex_assign rfl) rfl rfl fun a hF=>q_end (n_sq (q_ret ?_))))
   obtain rfl:=someI hr
   exact ret_of hF hS rfl (.tmp rfl .nil) ⟨q46,s46,rfl,hS.sel [0] (by decide),h46⟩

theorem c_impl_AddFrac (p_a : impl_Frac) (p_b : impl_Frac) (r : impl_Frac × Bool) (hr : impl_AddFrac p_a p_b = some r) (w0 : World) (m : Mem) (hv : Vis m w0) :
  Ret Tryd.prog 66 [(.agg #[(iV p_a.Num),(iV p_a.Den)]),(.agg #[(iV p_b.Num),(iV p_b.Den)])] w0 (fun v _=>v = (.tuple #[(.agg #[(iV r.1.Num),(iV r.1.Den)]),(.bool r.2)])):=by
 unfold impl_AddFrac at hr
 refine ret_start Tryd.func66 rfl 34 rfl rfl m hv fun a hF hS=>q_seq (q_region (q_box (cs:=[(iV p_a.Num),(iV p_a.Den)]) hF hS rfl rfl rfl fun a w b1 hF hS=>q_box (cs:=[(iV p_b.Num),(iV p_b.Den)]) hF hS rfl rfl rfl fun a w b2 hF hS=>q_alloc (cs:=[(iV 0),(iV 0)]) hF hS rfl rfl rfl fun a w b3 hF hS=>q_x (v:=(.bool false)) hF hS (ex_assign rfl) rfl rfl fun a hF=>q_end (n_sq (q_seq (q_seq ?_)))))
 obtain ⟨t_6,hj1,hr⟩:=bindS hr
 refine q_join (fun a w=>Fr a 34 [(2,(.pointer (some ⟨b1,0,none⟩))),(3,(.pointer (some ⟨b2,0,none⟩))),(4,(.pointer (some ⟨b3,0,none⟩))),(13,(.bool t_6))]∧St [] w0 w m [[⟨b3,[(iV 0),(iV 0)],24⟩],[⟨b2,[(iV p_b.Num),(iV p_b.Den)],24⟩],[⟨b1,[(iV p_a.Num),(iV p_a.Den)],24⟩]]) ?_ ?_
 ·refine q_region (q_x (v:=(.agg #[(iV p_a.Num),(iV p_a.Den)])) hF hS (ex_loadA (vs:=[(iV p_a.Num),(iV p_a.Den)]) 2 0 Tryd.underlying24 rfl sz24 rfl rfl rfl rfl) rfl rfl fun a hF=>?_)
  obtain ⟨t_4,ht_4,hj1⟩:=bindS hj1
  refine q_call (vs:=[(.agg #[(iV p_a.Num),(iV p_a.Den)])]) hF hS Tryd.func54 (by kernel_rfl) rfl rfl rfl (c_impl_IsFrac p_a t_4 ht_4 _ m hS.vis) ?_
  rintro a w _ rfl hF hS
  refine q_x (v:=(.bool (!t_4))) hF hS (ex_not rfl) rfl rfl fun a hF=>q_x (v:=(.bool (!t_4))) hF hS (ex_move rfl) rfl rfl fun a hF=>?_
  rcases bcase (!t_4) with hc2 | hc2
  ·have hj1:=cond_f hc2 hj1
   refine q_xg (v:=(.agg #[(iV p_b.Num),(iV p_b.Den)])) hF hS (ex_loadA (vs:=[(iV p_b.Num),(iV p_b.Den)]) 1 0 Tryd.underlying24 rfl sz24 rfl rfl rfl rfl) (wanted_t hF rfl rfl rfl hc2) rfl fun a hF=>?_
   obtain ⟨t_5,ht_5,hj1⟩:=bindS hj1
   refine q_callg (vs:=[(.agg #[(iV p_b.Num),(iV p_b.Den)])]) hF hS (wanted_t hF rfl rfl rfl hc2) Tryd.func54 (by kernel_rfl) rfl rfl rfl (c_impl_IsFrac p_b t_5 ht_5 _ m hS.vis) ?_
   rintro a w _ rfl hF hS
   refine q_xg (v:=(.bool (!t_5))) hF hS (ex_not rfl) (wanted_t hF rfl rfl rfl hc2) rfl fun a hF=>q_x (v:=(.bool (!t_5))) hF hS (ex_pick_f rfl rfl hc2) rfl rfl fun a hF=>q_end (n_jn ?_)
   obtain rfl:=someI hj1
   exact ⟨hF.sub ⟨rfl,rfl,rfl,rfl,trivial⟩,hS⟩
  ·have hj1:=cond_t hc2 hj1
   refine q_skip hF (wanted_f hF rfl rfl rfl hc2 rfl) rfl fun a hF=>q_skip hF (wanted_f hF rfl rfl rfl hc2 rfl) rfl fun a hF=>q_skip hF (wanted_f hF rfl rfl rfl hc2 rfl) rfl fun a hF=>q_x (v:=(.bool true)) hF hS (ex_pick_t rfl rfl hc2) rfl rfl fun a hF=>q_end (n_jn ?_)
   obtain rfl:=someI hj1
   exact ⟨hF.sub ⟨rfl,rfl,rfl,rfl,trivial⟩,hS⟩
 ·rintro a w ⟨hF,hS⟩
  refine n_sq ?_
  rcases bcase (t_6) with hc3 | hc3
  ·have hr:=cond_f hc3 hr
   refine q_cond_f hF rfl hc3 (q_skipc (n_sq (q_seq (q_region (q_x (v:=(.pointer (some ⟨b1,0,none⟩))) hF hS (ex_fieldAddr Tryd.underlying24 rfl sz3 rfl rfl) rfl rfl fun a hF=>q_x (v:=(iV p_a.Num)) hF hS (ex_load1 2 0 Tryd.underlying3 rfl rfl rfl rfl) rfl rfl fun a hF=>q_x (v:=(.pointer (some ⟨b2,1,none⟩))) hF hS (ex_fieldAddr Tryd.underlying24 rfl sz3 rfl rfl) rfl rfl fun a hF=>q_x (v:=(iV p_b.Den)) hF hS (ex_load1 1 0 Tryd.underlying3 rfl rfl rfl rfl) rfl rfl fun a hF=>q_x (v:=(iV (w64 (p_a.Num * p_b.Den)))) hF hS (ex_ibin rfl rfl rfl) rfl rfl fun a hF=>q_x (v:=(.pointer (some ⟨b2,0,none⟩))) hF hS (ex_fieldAddr Tryd.underlying24 rfl sz3 rfl rfl) rfl rfl fun a hF=>q_x (v:=(iV p_b.Num)) hF hS (ex_load1 1 0 Tryd.underlying3 rfl rfl rfl rfl) rfl rfl fun a hF=>q_x (v:=(.pointer (some ⟨b1,1,none⟩))) hF hS (ex_fieldAddr Tryd.underlying24 rfl sz3 rfl rfl) rfl rfl fun a hF=>q_x (v:=(iV p_a.Den)) hF hS (ex_load1 2 0 Tryd.underlying3 rfl rfl rfl rfl) rfl rfl fun a hF=>q_x (v:=(iV (w64 (p_b.Num * p_a.Den)))) hF hS (ex_ibin rfl rfl rfl) rfl rfl fun a hF=>q_x (v:=(iV (w64 ((w64 (p_a.Num * p_b.Den)) + (w64 (p_b.Num * p_a.Den)))))) hF hS (ex_ibin rfl rfl rfl) rfl rfl fun a hF=>q_x (v:=(.pointer (some ⟨b1,1,none⟩))) hF hS (ex_fieldAddr Tryd.underlying24 rfl sz3 rfl rfl) rfl rfl fun a hF=>q_x (v:=(iV p_a.Den)) hF hS (ex_load1 2 0 Tryd.underlying3 rfl rfl rfl rfl) rfl rfl fun a hF=>q_x (v:=(.pointer (some ⟨b2,1,none⟩))) hF hS (ex_fieldAddr Tryd.underlying24 rfl sz3 rfl rfl) rfl rfl fun a hF=>q_x (v:=(iV p_b.Den)) hF hS (ex_load1 1 0 Tryd.underlying3 rfl rfl rfl rfl) rfl rfl fun a hF=>q_x (v:=(iV (w64 (p_a.Den * p_b.Den)))) hF hS (ex_ibin rfl rfl rfl) rfl rfl fun a hF=>?_)))))
   obtain ⟨t_7,ht_7,hr⟩:=bindS hr
   refine q_call (vs:=[(iV (w64 ((w64 (p_a.Num * p_b.Den)) + (w64 (p_b.Num * p_a.Den))))),(iV (w64 (p_a.Den * p_b.Den)))]) hF hS Tryd.func109 (by kernel_rfl) rfl rfl rfl (c_impl_reduced (w64 ((w64 (p_a.Num * p_b.Den)) + (w64 (p_b.Num * p_a.Den)))) (w64 (p_a.Den * p_b.Den)) t_7 ht_7 _ m hS.vis) ?_
   rintro a w _ rfl hF hS
   refine q_x (v:=(.agg #[(iV t_7.1.Num),(iV t_7.1.Den)])) hF hS (ex_extract rfl rfl) rfl rfl fun a hF=>q_x (v:=(.bool t_7.2)) hF hS (ex_extract rfl rfl) rfl rfl fun a hF=>q_store (vs:=[(iV t_7.1.Num),(iV t_7.1.Den)]) (cs':=[(iV t_7.1.Num),(iV t_7.1.Den)]) 0 0 hF hS sz24 rfl rfl rfl rfl rfl rfl rfl rfl fun a w hF hS=>q_x (v:=(.bool t_7.2)) hF hS (ex_assign rfl) rfl rfl fun a hF=>q_end (n_sq (q_ret ?_))
   obtain rfl:=someI hr
   exact ret_of hF hS rfl (.cellA (us:=[(iV t_7.1.Num),(iV t_7.1.Den)]) 0 0 Tryd.underlying24 rfl sz24 rfl rfl rfl rfl (.tmp rfl .nil)) rfl
  ·have hr:=cond_t hc3 hr
   refine q_cond_t hF rfl hc3 (q_seq (q_region (q_x (v:=(.agg #[(iV 0),(iV 0)])) hF hS (ex_build (cells:=[(iV 0),(iV 0)]) rfl (by kernel_rfl)) rfl rfl fun a hF=>q_store (vs:=[(iV 0),(iV 0)]) (cs':=[(iV 0),(iV 0)]) 0 0 hF hS sz24 rfl rfl rfl rfl rfl rfl rfl rfl fun a w hF hS=>q_x (v:=(.bool false)) hF hS (ex_assign rfl) rfl rfl fun a hF=>q_end (n_sq (q_ret (r_sq ?_))))))
   obtain rfl:=someI hr
   exact ret_of hF hS rfl (.cellA (us:=[(iV 0),(iV 0)]) 0 0 Tryd.underlying24 rfl sz24 rfl rfl rfl rfl (.tmp rfl .nil)) rfl

theorem c_impl_SumFracs (p_l : List impl_Frac) (r : impl_Frac × Bool) (hr : impl_SumFracs p_l = some r) (w0 : World) (m : Mem) (hv : Vis m w0) (s1 : Sl) (h1 : Rd m s1 p_l) :
  Ret Tryd.prog 15 [s1.v] w0 (fun v _=>v = (.tuple #[(.agg #[(iV r.1.Num),(iV r.1.Den)]),(.bool r.2)])):=by
 unfold impl_SumFracs at hr
 refine ret_start Tryd.func15 rfl 32 rfl rfl m hv fun a hF hS=>q_seq (q_region (q_alloc (cs:=[(iV 0),(iV 0)]) hF hS rfl rfl rfl fun a w b2 hF hS=>q_x (v:=(.bool false)) hF hS (ex_assign rfl) rfl rfl fun a hF=>q_end (n_sq (q_seq (q_seq (q_region (q_x (v:=s1.v) hF hS (ex_move rfl) rfl rfl fun a hF=>q_x (v:=(iV (goLen p_l))) hF hS (ex_len Tryd.underlying32 rfl h1.len) rfl rfl fun a hF=>q_x (v:=(.bool (decide (100 < (goLen p_l))))) hF hS (ex_ibin rfl rfl rfl) rfl rfl fun a hF=>q_end (n_sq ?_))))))))
 rcases bcase (decide (100 < (goLen p_l))) with hc1 | hc1
 ·have hr:=cond_f hc1 hr
  refine q_cond_f hF rfl hc1 (q_skipc (n_sq (q_seq (q_region (q_x (v:=(.agg #[(iV 0),(iV 1)])) hF hS (ex_build (cells:=[(iV 0),(iV 1)]) rfl (by kernel_rfl)) rfl rfl fun a hF=>q_alloc (cs:=[(iV 0),(iV 0)]) hF hS rfl rfl rfl fun a w b3 hF hS=>q_store (vs:=[(iV 0),(iV 1)]) (cs':=[(iV 0),(iV 1)]) 0 0 hF hS sz24 rfl rfl rfl rfl rfl rfl rfl rfl fun a w hF hS=>q_end (n_sq (q_seq (q_seq (q_region (q_x (v:=s1.v) hF hS (ex_move rfl) rfl rfl fun a hF=>q_x (v:=(iV (goLen p_l))) hF hS (ex_len Tryd.underlying32 rfl h1.len) rfl rfl fun a hF=>q_x (v:=(iV 0)) hF hS (ex_move rfl) rfl rfl fun a hF=>q_end (n_sq (q_block ?_))))))))))))
  obtain ⟨o2,hl2,hr⟩:=bindS hr
  refine q_loop (fun (s : Int × impl_Frac) a w=>∃ t_4,∃ sum_5,s = (t_4,sum_5)∧Fr a 32 [(2,(.pointer (some ⟨b2,0,none⟩))),(4,(.pointer (some ⟨b3,0,none⟩))),(14,s1.v),(15,(iV (goLen p_l))),(16,(iV t_4))]∧St [] w0 w m [[⟨b3,[(iV sum_5.Num),(iV sum_5.Den)],24⟩],[⟨b2,[(iV 0),(iV 0)],24⟩]]) (fun (o : (impl_Frac) ⊕ (impl_Frac × Bool)) e a w=>∃ sum_11,o = .inl sum_11∧e = .exit 0∧Fr a 32 [(2,(.pointer (some ⟨b2,0,none⟩))),(4,(.pointer (some ⟨b3,0,none⟩)))]∧St [] w0 w m [[⟨b3,[(iV sum_11.Num),(iV sum_11.Den)],24⟩],[⟨b2,[(iV 0),(iV 0)],24⟩]]) hl2 ⟨_,_,rfl,hF.sub ⟨rfl,rfl,rfl,rfl,rfl,trivial⟩,hS⟩ ?_ ?_
  ·clear hF hS
   rintro s a w st ⟨t_4,sum_5,rfl,hF,hS⟩ hb2
   unfold impl_SumFracs_l1 at hb2
   refine q_seq (q_region (q_x (v:=(.bool (decide (t_4 < (goLen p_l))))) hF hS (ex_ibin rfl rfl rfl) rfl rfl fun a hF=>q_end (n_sq (q_seq ?_))))
   rcases bcase (decide (t_4 < (goLen p_l))) with hc3 | hc3
   ·have hb2:=cond_f hc3 hb2
    refine q_cond_f hF rfl hc3 (q_exit (x_sq ?_))
    obtain rfl:=someI hb2
    exact ⟨nofun,.inl ⟨_,rfl,rfl,hF.sub ⟨rfl,rfl,trivial⟩,hS⟩⟩
   ·have hb2:=cond_t hc3 hb2
    refine q_cond_t hF rfl hc3 (q_skipc (n_sq (q_seq (q_block (q_seq (q_region ?_))))))
    obtain ⟨e_6,he_6,hb2⟩:=bindS hb2
    obtain ⟨vs7,at7,d7⟩:=h1.at he_6 2 rfl
    obtain rfl : vs7 = [(iV e_6.Num),(iV e_6.Den)]:=d7
    refine q_x (v:=(elP s1 (t_4.toNat * 2))) hF hS (ex_indexAddr Tryd.underlying32 sz24 rfl rfl (h1.idx he_6)) rfl rfl fun a hF=>q_x (v:=(.agg #[(iV e_6.Num),(iV e_6.Den)])) hF hS (ex_loadEA (us:=[(iV e_6.Num),(iV e_6.Den)]) 0 Tryd.underlying24 rfl sz24 rfl ((at7).at) rfl rfl rfl) rfl rfl fun a hF=>q_alloc (cs:=[(iV 0),(iV 0)]) hF hS rfl rfl rfl fun a w b8 hF hS=>q_store (vs:=[(iV e_6.Num),(iV e_6.Den)]) (cs':=[(iV e_6.Num),(iV e_6.Den)]) 0 0 hF hS sz24 rfl rfl rfl rfl rfl rfl rfl rfl fun a w hF hS=>q_end (n_sq (q_seq (q_region (q_x (v:=(.agg #[(iV sum_5.Num),(iV sum_5.Den)])) hF hS (ex_loadA (vs:=[(iV sum_5.Num),(iV sum_5.Den)]) 1 0 Tryd.underlying24 rfl sz24 rfl rfl rfl rfl) rfl rfl fun a hF=>q_x (v:=(.agg #[(iV e_6.Num),(iV e_6.Den)])) hF hS (ex_loadA (vs:=[(iV e_6.Num),(iV e_6.Den)]) 0 0 Tryd.underlying24 rfl sz24 rfl rfl rfl rfl) rfl rfl fun a hF=>?_))))
    obtain ⟨t_9,ht_9,hb2⟩:=bindS hb2
    refine q_call (vs:=[(.agg #[(iV sum_5.Num),(iV sum_5.Den)]),(.agg #[(iV e_6.Num),(iV e_6.Den)])]) hF hS Tryd.func66 (by kernel_rfl) rfl rfl rfl (c_impl_AddFrac sum_5 e_6 t_9 ht_9 _ m hS.vis) ?_
    rintro a w _ rfl hF hS
    refine q_x (v:=(.tuple #[(.agg #[(iV t_9.1.Num),(iV t_9.1.Den)]),(.bool t_9.2)])) hF hS (ex_move rfl) rfl rfl fun a hF=>q_x (v:=(.agg #[(iV t_9.1.Num),(iV t_9.1.Den)])) hF hS (ex_extract rfl rfl) rfl rfl fun a hF=>q_x (v:=(.bool t_9.2)) hF hS (ex_extract rfl rfl) rfl rfl fun a hF=>q_alloc (cs:=[(iV 0),(iV 0)]) hF hS rfl rfl rfl fun a w b10 hF hS=>q_store (vs:=[(iV t_9.1.Num),(iV t_9.1.Den)]) (cs':=[(iV t_9.1.Num),(iV t_9.1.Den)]) 0 0 hF hS sz24 rfl rfl rfl rfl rfl rfl rfl rfl fun a w hF hS=>q_x (v:=(.bool t_9.2)) hF hS (ex_assign rfl) rfl rfl fun a hF=>q_end (n_sq (q_seq (q_seq (q_region (q_x (v:=(.bool t_9.2)) hF hS (ex_move rfl) rfl rfl fun a hF=>q_x (v:=(.bool (!t_9.2))) hF hS (ex_not rfl) rfl rfl fun a hF=>q_end (n_sq ?_))))))
    rcases bcase (!t_9.2) with hc4 | hc4
    ·have hb2:=cond_f hc4 hb2
     refine q_cond_f hF rfl hc4 (q_skipc (n_sq (q_region (q_x (v:=(.agg #[(iV t_9.1.Num),(iV t_9.1.Den)])) hF hS (ex_loadA (vs:=[(iV t_9.1.Num),(iV t_9.1.Den)]) 0 0 Tryd.underlying24 rfl sz24 rfl rfl rfl rfl) rfl rfl fun a hF=>q_store (vs:=[(iV t_9.1.Num),(iV t_9.1.Den)]) (cs':=[(iV t_9.1.Num),(iV t_9.1.Den)]) 2 0 hF hS sz24 rfl rfl rfl rfl rfl rfl rfl rfl fun a w hF hS=>q_end (n_ib (n_sq (q_region (q_x (v:=(iV (w64 (t_4 + 1)))) hF hS (ex_ibin rfl rfl rfl) rfl rfl fun a hF=>q_x (v:=(iV (w64 (t_4 + 1)))) hF hS (ex_move rfl) rfl rfl fun a hF=>q_end ?_))))))))
     obtain rfl:=someI hb2
     exact ⟨rfl,_,_,rfl,hF.sub ⟨rfl,rfl,rfl,rfl,rfl,trivial⟩,hS.mask [false,false,true,true]⟩
    ·have hb2:=cond_t hc4 hb2
     refine q_cond_t hF rfl hc4 (q_seq (q_region (q_x (v:=(.agg #[(iV 0),(iV 0)])) hF hS (ex_build (cells:=[(iV 0),(iV 0)]) rfl (by kernel_rfl)) rfl rfl fun a hF=>q_store (vs:=[(iV 0),(iV 0)]) (cs':=[(iV 0),(iV 0)]) 3 0 hF hS sz24 rfl rfl rfl rfl rfl rfl rfl rfl fun a w hF hS=>q_x (v:=(.bool false)) hF hS (ex_assign rfl) rfl rfl fun a hF=>q_end (n_sq (q_ret (r_sq (r_ib (r_sq ?_))))))))
     obtain rfl:=someI hb2
     refine ⟨nofun,.inr fun ho=>?_⟩
     subst ho
     refine r_ib (r_sq ?_)
     obtain rfl:=someI hr
     exact ret_of hF hS rfl (.cellA (us:=[(iV 0),(iV 0)]) 3 0 Tryd.underlying24 rfl sz24 rfl rfl rfl rfl (.tmp rfl .nil)) rfl
  ·rintro e a w ⟨sum_11,rfl,rfl,hF,hS⟩
   refine x_ib (n_sq ?_)
   refine q_seq (q_region (q_x (v:=(.agg #[(iV sum_11.Num),(iV sum_11.Den)])) hF hS (ex_loadA (vs:=[(iV sum_11.Num),(iV sum_11.Den)]) 0 0 Tryd.underlying24 rfl sz24 rfl rfl rfl rfl) rfl rfl fun a hF=>q_store (vs:=[(iV sum_11.Num),(iV sum_11.Den)]) (cs':=[(iV sum_11.Num),(iV sum_11.Den)]) 1 0 hF hS sz24 rfl rfl rfl rfl rfl rfl rfl rfl fun a w hF hS=>q_x (v:=(.bool true)) hF hS (ex_assign rfl) rfl rfl fun a hF=>q_end (n_sq (q_ret ?_))))
   obtain rfl:=someI hr
   exact ret_of hF hS rfl (.cellA (us:=[(iV sum_11.Num),(iV sum_11.Den)]) 1 0 Tryd.underlying24 rfl sz24 rfl rfl rfl rfl (.tmp rfl .nil)) rfl
 ·have hr:=cond_t hc1 hr
  refine q_cond_t hF rfl hc1 (q_seq (q_region (q_x (v:=(.agg #[(iV 0),(iV 0)])) hF hS (ex_build (cells:=[(iV 0),(iV 0)]) rfl (by kernel_rfl)) rfl rfl fun a hF=>q_store (vs:=[(iV 0),(iV 0)]) (cs':=[(iV 0),(iV 0)]) 0 0 hF hS sz24 rfl rfl rfl rfl rfl rfl rfl rfl fun a w hF hS=>q_x (v:=(.bool false)) hF hS (ex_assign rfl) rfl rfl fun a hF=>q_end (n_sq (q_ret (r_sq ?_))))))
  obtain rfl:=someI hr
  exact ret_of hF hS rfl (.cellA (us:=[(iV 0),(iV 0)]) 0 0 Tryd.underlying24 rfl sz24 rfl rfl rfl rfl (.tmp rfl .nil)) rfl

theorem c_spec_fAdd (p_a : impl_Frac) (p_b : impl_Frac) (r : impl_Frac × Bool) (hr : spec_fAdd p_a p_b = some r) (w0 : World) (m : Mem) (hv : Vis m w0) :
  Ret Tryd.prog 111 [(.agg #[(iV p_a.Num),(iV p_a.Den)]),(.agg #[(iV p_b.Num),(iV p_b.Den)])] w0 (fun v _=>v = (.tuple #[(.agg #[(iV r.1.Num),(iV r.1.Den)]),(.bool r.2)])):=by
 unfold spec_fAdd at hr
 refine ret_start Tryd.func111 rfl 25 rfl rfl m hv fun a hF hS=>q_seq (q_region (q_box (cs:=[(iV p_a.Num),(iV p_a.Den)]) hF hS rfl rfl rfl fun a w b1 hF hS=>q_box (cs:=[(iV p_b.Num),(iV p_b.Den)]) hF hS rfl rfl rfl fun a w b2 hF hS=>q_alloc (cs:=[(iV 0),(iV 0)]) hF hS rfl rfl rfl fun a w b3 hF hS=>q_x (v:=(.bool false)) hF hS (ex_assign rfl) rfl rfl fun a hF=>q_end (n_sq (q_seq (q_region (q_x (v:=(.pointer (some ⟨b1,0,none⟩))) hF hS (ex_fieldAddr Tryd.underlying24 rfl sz3 rfl rfl) rfl rfl fun a hF=>q_x (v:=(iV p_a.Num)) hF hS (ex_load1 2 0 Tryd.underlying3 rfl rfl rfl rfl) rfl rfl fun a hF=>q_x (v:=(.pointer (some ⟨b2,1,none⟩))) hF hS (ex_fieldAddr Tryd.underlying24 rfl sz3 rfl rfl) rfl rfl fun a hF=>q_x (v:=(iV p_b.Den)) hF hS (ex_load1 1 0 Tryd.underlying3 rfl rfl rfl rfl) rfl rfl fun a hF=>q_x (v:=(iV (w64 (p_a.Num * p_b.Den)))) hF hS (ex_ibin rfl rfl rfl) rfl rfl fun a hF=>q_x (v:=(.pointer (some ⟨b2,0,none⟩))) hF hS (ex_fieldAddr Tryd.underlying24 rfl sz3 rfl rfl) rfl rfl fun a hF=>q_x (v:=(iV p_b.Num)) hF hS (ex_load1 1 0 Tryd.underlying3 rfl rfl rfl rfl) rfl rfl fun a hF=>q_x (v:=(.pointer (some ⟨b1,1,none⟩))) hF hS (ex_fieldAddr Tryd.underlying24 rfl sz3 rfl rfl) rfl rfl fun a hF=>q_x (v:=(iV p_a.Den)) hF hS (ex_load1 2 0 Tryd.underlying3 rfl rfl rfl rfl) rfl rfl fun a hF=>q_x (v:=(iV (w64 (p_b.Num * p_a.Den)))) hF hS (ex_ibin rfl rfl rfl) rfl rfl fun a hF=>q_x (v:=(iV (w64 ((w64 (p_a.Num * p_b.Den)) + (w64 (p_b.Num * p_a.Den)))))) hF hS (ex_ibin rfl rfl rfl) rfl rfl fun a hF=>q_x (v:=(.pointer (some ⟨b1,1,none⟩))) hF hS (ex_fieldAddr Tryd.underlying24 rfl sz3 rfl rfl) rfl rfl fun a hF=>q_x (v:=(iV p_a.Den)) hF hS (ex_load1 2 0 Tryd.underlying3 rfl rfl rfl rfl) rfl rfl fun a hF=>q_x (v:=(.pointer (some ⟨b2,1,none⟩))) hF hS (ex_fieldAddr Tryd.underlying24 rfl sz3 rfl rfl) rfl rfl fun a hF=>q_x (v:=(iV p_b.Den)) hF hS (ex_load1 1 0 Tryd.underlying3 rfl rfl rfl rfl) rfl rfl fun a hF=>?_))))))
 refine q_x (v:=(iV (w64 (p_a.Den * p_b.Den)))) hF hS (ex_ibin rfl rfl rfl) rfl rfl fun a hF=>?_
 obtain ⟨t_4,ht_4,hr⟩:=bindS hr
 refine q_call (vs:=[(iV (w64 ((w64 (p_a.Num * p_b.Den)) + (w64 (p_b.Num * p_a.Den))))),(iV (w64 (p_a.Den * p_b.Den)))]) hF hS Tryd.func51 (by kernel_rfl) rfl rfl rfl (c_spec_fMake (w64 ((w64 (p_a.Num * p_b.Den)) + (w64 (p_b.Num * p_a.Den)))) (w64 (p_a.Den * p_b.Den)) t_4 ht_4 _ m hS.vis) ?_
 rintro a w _ rfl hF hS
 refine q_x (v:=(.agg #[(iV t_4.1.Num),(iV t_4.1.Den)])) hF hS (ex_extract rfl rfl) rfl rfl fun a hF=>q_x (v:=(.bool t_4.2)) hF hS (ex_extract rfl rfl) rfl rfl fun a hF=>q_store (vs:=[(iV t_4.1.Num),(iV t_4.1.Den)]) (cs':=[(iV t_4.1.Num),(iV t_4.1.Den)]) 0 0 hF hS sz24 rfl rfl rfl rfl rfl rfl rfl rfl fun a w hF hS=>q_x (v:=(.bool t_4.2)) hF hS (ex_assign rfl) rfl rfl fun a hF=>q_end (n_sq (q_ret ?_))
 obtain rfl:=someI hr
 exact ret_of hF hS rfl (.cellA (us:=[(iV t_4.1.Num),(iV t_4.1.Den)]) 0 0 Tryd.underlying24 rfl sz24 rfl rfl rfl rfl (.tmp rfl .nil)) rfl

theorem c_spec_fSum (p_l : List impl_Frac) (r : impl_Frac × Bool) (hr : spec_fSum p_l = some r) (w0 : World) (m : Mem) (hv : Vis m w0) (s1 : Sl) (h1 : Rd m s1 p_l) :
  Ret Tryd.prog 67 [s1.v] w0 (fun v _=>v = (.tuple #[(.agg #[(iV r.1.Num),(iV r.1.Den)]),(.bool r.2)])):=by
 unfold spec_fSum at hr
 refine ret_start Tryd.func67 rfl 28 rfl rfl m hv fun a hF hS=>q_seq (q_region (q_alloc (cs:=[(iV 0),(iV 0)]) hF hS rfl rfl rfl fun a w b2 hF hS=>q_x (v:=(.bool false)) hF hS (ex_assign rfl) rfl rfl fun a hF=>q_end (n_sq (q_seq (q_region ?_)))))
 obtain ⟨t_3,ht_3,hr⟩:=bindS hr
 refine q_call (vs:=[(iV 0)]) hF hS Tryd.func65 (by kernel_rfl) rfl rfl rfl (c_spec_fInt 0 t_3 ht_3 _ m hS.vis) ?_
 rintro a w _ rfl hF hS
 refine q_alloc (cs:=[(iV 0),(iV 0)]) hF hS rfl rfl rfl fun a w b4 hF hS=>q_store (vs:=[(iV t_3.Num),(iV t_3.Den)]) (cs':=[(iV t_3.Num),(iV t_3.Den)]) 0 0 hF hS sz24 rfl rfl rfl rfl rfl rfl rfl rfl fun a w hF hS=>q_end (n_sq (q_seq (q_seq (q_region (q_x (v:=s1.v) hF hS (ex_move rfl) rfl rfl fun a hF=>q_x (v:=(iV (goLen p_l))) hF hS (ex_len Tryd.underlying32 rfl h1.len) rfl rfl fun a hF=>q_x (v:=(iV 0)) hF hS (ex_move rfl) rfl rfl fun a hF=>q_end (n_sq (q_block ?_)))))))
 obtain ⟨o1,hl1,hr⟩:=bindS hr
 refine q_loop (fun (s : Int × impl_Frac) a w=>∃ t_5,∃ out_6,s = (t_5,out_6)∧Fr a 28 [(2,(.pointer (some ⟨b2,0,none⟩))),(4,(.pointer (some ⟨b4,0,none⟩))),(10,s1.v),(11,(iV (goLen p_l))),(12,(iV t_5))]∧St [] w0 w m [[⟨b4,[(iV out_6.Num),(iV out_6.Den)],24⟩],[⟨b2,[(iV 0),(iV 0)],24⟩]]) (fun (o : (impl_Frac) ⊕ (impl_Frac × Bool)) e a w=>∃ out_12,o = .inl out_12∧e = .exit 0∧Fr a 28 [(2,(.pointer (some ⟨b2,0,none⟩))),(4,(.pointer (some ⟨b4,0,none⟩)))]∧St [] w0 w m [[⟨b4,[(iV out_12.Num),(iV out_12.Den)],24⟩],[⟨b2,[(iV 0),(iV 0)],24⟩]]) hl1 ⟨_,_,rfl,hF.sub ⟨rfl,rfl,rfl,rfl,rfl,trivial⟩,hS⟩ ?_ ?_
 ·clear hF hS
  rintro s a w st ⟨t_5,out_6,rfl,hF,hS⟩ hb1
  unfold spec_fSum_l1 at hb1
  refine q_seq (q_region (q_x (v:=(.bool (decide (t_5 < (goLen p_l))))) hF hS (ex_ibin rfl rfl rfl) rfl rfl fun a hF=>q_end (n_sq (q_seq ?_))))
  rcases bcase (decide (t_5 < (goLen p_l))) with hc2 | hc2
  ·have hb1:=cond_f hc2 hb1
   refine q_cond_f hF rfl hc2 (q_exit (x_sq ?_))
   obtain rfl:=someI hb1
   exact ⟨nofun,.inl ⟨_,rfl,rfl,hF.sub ⟨rfl,rfl,trivial⟩,hS⟩⟩
  ·have hb1:=cond_t hc2 hb1
   refine q_cond_t hF rfl hc2 (q_skipc (n_sq (q_seq (q_block (q_seq (q_region ?_))))))
   obtain ⟨e_7,he_7,hb1⟩:=bindS hb1
   obtain ⟨vs8,at8,d8⟩:=h1.at he_7 2 rfl
   obtain rfl : vs8 = [(iV e_7.Num),(iV e_7.Den)]:=d8
   refine q_x (v:=(elP s1 (t_5.toNat * 2))) hF hS (ex_indexAddr Tryd.underlying32 sz24 rfl rfl (h1.idx he_7)) rfl rfl fun a hF=>q_x (v:=(.agg #[(iV e_7.Num),(iV e_7.Den)])) hF hS (ex_loadEA (us:=[(iV e_7.Num),(iV e_7.Den)]) 0 Tryd.underlying24 rfl sz24 rfl ((at8).at) rfl rfl rfl) rfl rfl fun a hF=>q_alloc (cs:=[(iV 0),(iV 0)]) hF hS rfl rfl rfl fun a w b9 hF hS=>q_store (vs:=[(iV e_7.Num),(iV e_7.Den)]) (cs':=[(iV e_7.Num),(iV e_7.Den)]) 0 0 hF hS sz24 rfl rfl rfl rfl rfl rfl rfl rfl fun a w hF hS=>q_end (n_sq (q_seq (q_region (q_x (v:=(.agg #[(iV out_6.Num),(iV out_6.Den)])) hF hS (ex_loadA (vs:=[(iV out_6.Num),(iV out_6.Den)]) 1 0 Tryd.underlying24 rfl sz24 rfl rfl rfl rfl) rfl rfl fun a hF=>q_x (v:=(.agg #[(iV e_7.Num),(iV e_7.Den)])) hF hS (ex_loadA (vs:=[(iV e_7.Num),(iV e_7.Den)]) 0 0 Tryd.underlying24 rfl sz24 rfl rfl rfl rfl) rfl rfl fun a hF=>?_))))
   obtain ⟨t_10,ht_10,hb1⟩:=bindS hb1
   refine q_call (vs:=[(.agg #[(iV out_6.Num),(iV out_6.Den)]),(.agg #[(iV e_7.Num),(iV e_7.Den)])]) hF hS Tryd.func111 (by kernel_rfl) rfl rfl rfl (c_spec_fAdd out_6 e_7 t_10 ht_10 _ m hS.vis) ?_
   rintro a w _ rfl hF hS
   refine q_x (v:=(.tuple #[(.agg #[(iV t_10.1.Num),(iV t_10.1.Den)]),(.bool t_10.2)])) hF hS (ex_move rfl) rfl rfl fun a hF=>q_x (v:=(.agg #[(iV t_10.1.Num),(iV t_10.1.Den)])) hF hS (ex_extract rfl rfl) rfl rfl fun a hF=>q_x (v:=(.bool t_10.2)) hF hS (ex_extract rfl rfl) rfl rfl fun a hF=>q_alloc (cs:=[(iV 0),(iV 0)]) hF hS rfl rfl rfl fun a w b11 hF hS=>q_store (vs:=[(iV t_10.1.Num),(iV t_10.1.Den)]) (cs':=[(iV t_10.1.Num),(iV t_10.1.Den)]) 0 0 hF hS sz24 rfl rfl rfl rfl rfl rfl rfl rfl fun a w hF hS=>q_x (v:=(.bool t_10.2)) hF hS (ex_assign rfl) rfl rfl fun a hF=>q_end (n_sq (q_seq (q_seq (q_region (q_x (v:=(.bool t_10.2)) hF hS (ex_move rfl) rfl rfl fun a hF=>q_x (v:=(.bool (!t_10.2))) hF hS (ex_not rfl) rfl rfl fun a hF=>q_end (n_sq ?_))))))
   rcases bcase (!t_10.2) with hc3 | hc3
   ·have hb1:=cond_f hc3 hb1
    refine q_cond_f hF rfl hc3 (q_skipc (n_sq (q_region (q_x (v:=(.agg #[(iV t_10.1.Num),(iV t_10.1.Den)])) hF hS (ex_loadA (vs:=[(iV t_10.1.Num),(iV t_10.1.Den)]) 0 0 Tryd.underlying24 rfl sz24 rfl rfl rfl rfl) rfl rfl fun a hF=>q_store (vs:=[(iV t_10.1.Num),(iV t_10.1.Den)]) (cs':=[(iV t_10.1.Num),(iV t_10.1.Den)]) 2 0 hF hS sz24 rfl rfl rfl rfl rfl rfl rfl rfl fun a w hF hS=>q_end (n_ib (n_sq (q_region (q_x (v:=(iV (w64 (t_5 + 1)))) hF hS (ex_ibin rfl rfl rfl) rfl rfl fun a hF=>q_x (v:=(iV (w64 (t_5 + 1)))) hF hS (ex_move rfl) rfl rfl fun a hF=>q_end ?_))))))))
    obtain rfl:=someI hb1
    exact ⟨rfl,_,_,rfl,hF.sub ⟨rfl,rfl,rfl,rfl,rfl,trivial⟩,hS.mask [false,false,true,true]⟩
   ·have hb1:=cond_t hc3 hb1
    refine q_cond_t hF rfl hc3 (q_seq (q_region (q_x (v:=(.agg #[(iV 0),(iV 0)])) hF hS (ex_build (cells:=[(iV 0),(iV 0)]) rfl (by kernel_rfl)) rfl rfl fun a hF=>q_store (vs:=[(iV 0),(iV 0)]) (cs':=[(iV 0),(iV 0)]) 3 0 hF hS sz24 rfl rfl rfl rfl rfl rfl rfl rfl fun a w hF hS=>q_x (v:=(.bool false)) hF hS (ex_assign rfl) rfl rfl fun a hF=>q_end (n_sq (q_ret (r_sq (r_ib (r_sq ?_))))))))
    obtain rfl:=someI hb1
    refine ⟨nofun,.inr fun ho=>?_⟩
    subst ho
    refine r_ib (r_sq ?_)
    obtain rfl:=someI hr
    exact ret_of hF hS rfl (.cellA (us:=[(iV 0),(iV 0)]) 3 0 Tryd.underlying24 rfl sz24 rfl rfl rfl rfl (.tmp rfl .nil)) rfl
 ·rintro e a w ⟨out_12,rfl,rfl,hF,hS⟩
  refine x_ib (n_sq ?_)
  refine q_seq (q_region (q_x (v:=(.agg #[(iV out_12.Num),(iV out_12.Den)])) hF hS (ex_loadA (vs:=[(iV out_12.Num),(iV out_12.Den)]) 0 0 Tryd.underlying24 rfl sz24 rfl rfl rfl rfl) rfl rfl fun a hF=>q_store (vs:=[(iV out_12.Num),(iV out_12.Den)]) (cs':=[(iV out_12.Num),(iV out_12.Den)]) 1 0 hF hS sz24 rfl rfl rfl rfl rfl rfl rfl rfl fun a w hF hS=>q_x (v:=(.bool true)) hF hS (ex_assign rfl) rfl rfl fun a hF=>q_end (n_sq (q_ret ?_))))
  obtain rfl:=someI hr
  exact ret_of hF hS rfl (.cellA (us:=[(iV out_12.Num),(iV out_12.Den)]) 1 0 Tryd.underlying24 rfl sz24 rfl rfl rfl rfl (.tmp rfl .nil)) rfl

theorem c_spec_SumFracs (p_l : List impl_Frac) (r : impl_Frac × Bool) (hr : spec_SumFracs p_l = some r) (w0 : World) (m : Mem) (hv : Vis m w0) (s1 : Sl) (h1 : Rd m s1 p_l) :
  Ret Tryd.prog 16 [s1.v] w0 (fun v _=>v = (.tuple #[(.agg #[(iV r.1.Num),(iV r.1.Den)]),(.bool r.2)])):=by
 unfold spec_SumFracs at hr
 refine ret_start Tryd.func16 rfl 25 rfl rfl m hv fun a hF hS=>q_seq (q_region (q_alloc (cs:=[(iV 0),(iV 0)]) hF hS rfl rfl rfl fun a w b2 hF hS=>q_x (v:=(.bool false)) hF hS (ex_assign rfl) rfl rfl fun a hF=>q_end (n_sq (q_seq (q_seq (q_region (q_x (v:=s1.v) hF hS (ex_move rfl) rfl rfl fun a hF=>q_x (v:=(iV (goLen p_l))) hF hS (ex_len Tryd.underlying32 rfl h1.len) rfl rfl fun a hF=>q_x (v:=(.bool (decide (100 < (goLen p_l))))) hF hS (ex_ibin rfl rfl rfl) rfl rfl fun a hF=>q_end (n_sq ?_))))))))
 rcases bcase (decide (100 < (goLen p_l))) with hc1 | hc1
 ·have hr:=cond_f hc1 hr
  refine q_cond_f hF rfl hc1 (q_skipc (n_sq (q_seq (q_seq (q_region (q_x (v:=s1.v) hF hS (ex_move rfl) rfl rfl fun a hF=>q_x (v:=(iV (goLen p_l))) hF hS (ex_len Tryd.underlying32 rfl h1.len) rfl rfl fun a hF=>q_x (v:=(iV 0)) hF hS (ex_move rfl) rfl rfl fun a hF=>q_end (n_sq (q_block ?_))))))))
  obtain ⟨o2,hl2,hr⟩:=bindS hr
  refine q_loop (fun (t_3 : Int) a w=>Fr a 25 [(0,s1.v),(2,(.pointer (some ⟨b2,0,none⟩))),(10,s1.v),(11,(iV (goLen p_l))),(12,(iV t_3))]∧St [] w0 w m [[⟨b2,[(iV 0),(iV 0)],24⟩]]) (fun (o : (Unit) ⊕ (impl_Frac × Bool)) e a w=>o = .inl ()∧e = .exit 0∧Fr a 25 [(0,s1.v),(2,(.pointer (some ⟨b2,0,none⟩)))]∧St [] w0 w m [[⟨b2,[(iV 0),(iV 0)],24⟩]]) hl2 ⟨hF.sub ⟨rfl,rfl,rfl,rfl,rfl,trivial⟩,hS⟩ ?_ ?_
  ·clear hF hS
   rintro t_3 a w st ⟨hF,hS⟩ hb2
   unfold spec_SumFracs_l1 at hb2
   refine q_seq (q_region (q_x (v:=(.bool (decide (t_3 < (goLen p_l))))) hF hS (ex_ibin rfl rfl rfl) rfl rfl fun a hF=>q_end (n_sq (q_seq ?_))))
   rcases bcase (decide (t_3 < (goLen p_l))) with hc3 | hc3
   ·have hb2:=cond_f hc3 hb2
    refine q_cond_f hF rfl hc3 (q_exit (x_sq ?_))
    obtain rfl:=someI hb2
    exact ⟨nofun,.inl ⟨rfl,rfl,hF.sub ⟨rfl,rfl,trivial⟩,hS⟩⟩
   ·have hb2:=cond_t hc3 hb2
    refine q_cond_t hF rfl hc3 (q_skipc (n_sq (q_seq (q_block (q_seq (q_region ?_))))))
    obtain ⟨e_4,he_4,hb2⟩:=bindS hb2
    obtain ⟨vs5,at5,d5⟩:=h1.at he_4 2 rfl
    obtain rfl : vs5 = [(iV e_4.Num),(iV e_4.Den)]:=d5
    refine q_x (v:=(elP s1 (t_3.toNat * 2))) hF hS (ex_indexAddr Tryd.underlying32 sz24 rfl rfl (h1.idx he_4)) rfl rfl fun a hF=>q_x (v:=(.agg #[(iV e_4.Num),(iV e_4.Den)])) hF hS (ex_loadEA (us:=[(iV e_4.Num),(iV e_4.Den)]) 0 Tryd.underlying24 rfl sz24 rfl ((at5).at) rfl rfl rfl) rfl rfl fun a hF=>q_alloc (cs:=[(iV 0),(iV 0)]) hF hS rfl rfl rfl fun a w b6 hF hS=>q_store (vs:=[(iV e_4.Num),(iV e_4.Den)]) (cs':=[(iV e_4.Num),(iV e_4.Den)]) 0 0 hF hS sz24 rfl rfl rfl rfl rfl rfl rfl rfl fun a w hF hS=>q_end (n_sq (q_seq (q_region (q_x (v:=(.agg #[(iV e_4.Num),(iV e_4.Den)])) hF hS (ex_loadA (vs:=[(iV e_4.Num),(iV e_4.Den)]) 0 0 Tryd.underlying24 rfl sz24 rfl rfl rfl rfl) rfl rfl fun a hF=>?_))))
    obtain ⟨t_7,ht_7,hb2⟩:=bindS hb2
    refine q_call (vs:=[(.agg #[(iV e_4.Num),(iV e_4.Den)])]) hF hS Tryd.func56 (by kernel_rfl) rfl rfl rfl (c_spec_fGood e_4 t_7 ht_7 _ m hS.vis) ?_
    rintro a w _ rfl hF hS
    refine q_x (v:=(.bool (!t_7))) hF hS (ex_not rfl) rfl rfl fun a hF=>q_end (n_sq ?_)
    rcases bcase (!t_7) with hc4 | hc4
    ·have hb2:=cond_f hc4 hb2
     refine q_cond_f hF rfl hc4 (q_skipc (n_ib (n_sq (q_region (q_x (v:=(iV (w64 (t_3 + 1)))) hF hS (ex_ibin rfl rfl rfl) rfl rfl fun a hF=>q_x (v:=(iV (w64 (t_3 + 1)))) hF hS (ex_move rfl) rfl rfl fun a hF=>q_end ?_)))))
     obtain rfl:=someI hb2
     exact ⟨rfl,hF.sub ⟨rfl,rfl,rfl,rfl,rfl,trivial⟩,hS.mask [false,true]⟩
    ·have hb2:=cond_t hc4 hb2
     refine q_cond_t hF rfl hc4 (q_seq (q_region (q_x (v:=(.agg #[(iV 0),(iV 0)])) hF hS (ex_build (cells:=[(iV 0),(iV 0)]) rfl (by kernel_rfl)) rfl rfl fun a hF=>q_store (vs:=[(iV 0),(iV 0)]) (cs':=[(iV 0),(iV 0)]) 1 0 hF hS sz24 rfl rfl rfl rfl rfl rfl rfl rfl fun a w hF hS=>q_x (v:=(.bool false)) hF hS (ex_assign rfl) rfl rfl fun a hF=>q_end (n_sq (q_ret (r_ib (r_sq ?_)))))))
     obtain rfl:=someI hb2
     refine ⟨nofun,.inr fun ho=>?_⟩
     subst ho
     refine r_ib (r_sq ?_)
     obtain rfl:=someI hr
     exact ret_of hF hS rfl (.cellA (us:=[(iV 0),(iV 0)]) 1 0 Tryd.underlying24 rfl sz24 rfl rfl rfl rfl (.tmp rfl .nil)) rfl
  ·rintro e a w ⟨rfl,rfl,hF,hS⟩
   refine x_ib (n_sq ?_)
   refine q_seq (q_region (q_x (v:=s1.v) hF hS (ex_move rfl) rfl rfl fun a hF=>?_))
   obtain ⟨t_8,ht_8,hr⟩:=bindS hr
   refine q_call (vs:=[s1.v]) hF hS Tryd.func67 (by kernel_rfl) rfl rfl rfl (c_spec_fSum p_l t_8 ht_8 _ m hS.vis s1 h1) ?_
   rintro a w _ rfl hF hS
   refine q_x (v:=(.agg #[(iV t_8.1.Num),(iV t_8.1.Den)])) hF hS (ex_extract rfl rfl) rfl rfl fun a hF=>q_x (v:=(.bool t_8.2)) hF hS (ex_extract rfl rfl) rfl rfl fun a hF=>q_store (vs:=[(iV t_8.1.Num),(iV t_8.1.Den)]) (cs':=[(iV t_8.1.Num),(iV t_8.1.Den)]) 0 0 hF hS sz24 rfl rfl rfl rfl rfl rfl rfl rfl fun a w hF hS=>q_x (v:=(.bool t_8.2)) hF hS (ex_assign rfl) rfl rfl fun a hF=>q_end (n_sq (q_ret ?_))
   obtain rfl:=someI hr
   exact ret_of hF hS rfl (.cellA (us:=[(iV t_8.1.Num),(iV t_8.1.Den)]) 0 0 Tryd.underlying24 rfl sz24 rfl rfl rfl rfl (.tmp rfl .nil)) rfl
 ·have hr:=cond_t hc1 hr
  refine q_cond_t hF rfl hc1 (q_seq (q_region (q_x (v:=(.agg #[(iV 0),(iV 0)])) hF hS (ex_build (cells:=[(iV 0),(iV 0)]) rfl (by kernel_rfl)) rfl rfl fun a hF=>q_store (vs:=[(iV 0),(iV 0)]) (cs':=[(iV 0),(iV 0)]) 0 0 hF hS sz24 rfl rfl rfl rfl rfl rfl rfl rfl fun a w hF hS=>q_x (v:=(.bool false)) hF hS (ex_assign rfl) rfl rfl fun a hF=>q_end (n_sq (q_ret (r_sq ?_))))))
  obtain rfl:=someI hr
  exact ret_of hF hS rfl (.cellA (us:=[(iV 0),(iV 0)]) 0 0 Tryd.underlying24 rfl sz24 rfl rfl rfl rfl (.tmp rfl .nil)) rfl

theorem c_internal_strconv_small (p_i : Int) (r : (List UInt8)) (hr : internal_strconv_small p_i = some r) (w0 : World) (m : Mem) (hv : Vis m w0) :
  Ret Tryd.prog 138 [(iV p_i)] w0 (fun v _=>v = (strV r)):=by
 unfold internal_strconv_small at hr
 refine ret_start Tryd.func138 rfl 15 rfl rfl m hv fun a hF hS=>q_seq (q_region (q_x (v:=(strV ([] : List UInt8))) hF hS (ex_assign rfl) rfl rfl fun a hF=>q_end (n_sq (q_seq (q_seq (q_region (q_x (v:=(iV p_i)) hF hS (ex_move rfl) rfl rfl fun a hF=>q_x (v:=(.bool (decide (p_i < 10)))) hF hS (ex_ibin rfl rfl rfl) rfl rfl fun a hF=>q_end (n_sq ?_))))))))
 rcases bcase (decide (p_i < 10)) with hc1 | hc1
 ·have hr:=cond_f hc1 hr
  refine q_cond_f hF rfl hc1 (q_skipc (n_sq (q_seq (q_region (q_x (v:=(iV p_i)) hF hS (ex_move rfl) rfl rfl fun a hF=>q_x (v:=(iV (w64 (p_i * 2)))) hF hS (ex_ibin rfl rfl rfl) rfl rfl fun a hF=>q_x (v:=(iV p_i)) hF hS (ex_move rfl) rfl rfl fun a hF=>q_x (v:=(iV (w64 (p_i * 2)))) hF hS (ex_ibin rfl rfl rfl) rfl rfl fun a hF=>q_x (v:=(iV (w64 ((w64 (p_i * 2)) + 2)))) hF hS (ex_ibin rfl rfl rfl) rfl rfl fun a hF=>?_)))))
  obtain ⟨t_1,ht_1,hr⟩:=bindS hr
  refine q_x (v:=(strV t_1)) hF hS (ex_strSub Tryd.underlying9 rfl rfl rfl (.inr ⟨_,rfl⟩) (.inr ⟨_,rfl⟩) ht_1) rfl rfl fun a hF=>q_x (v:=(strV t_1)) hF hS (ex_assign rfl) rfl rfl fun a hF=>q_end (n_sq (q_ret ?_))
  obtain rfl:=someI hr
  exact ret_of hF hS rfl (.tmp rfl .nil) rfl
 ·have hr:=cond_t hc1 hr
  refine q_cond_t hF rfl hc1 (q_seq (q_region (q_x (v:=(iV p_i)) hF hS (ex_move rfl) rfl rfl fun a hF=>q_x (v:=(iV p_i)) hF hS (ex_move rfl) rfl rfl fun a hF=>q_x (v:=(iV (w64 (p_i + 1)))) hF hS (ex_ibin rfl rfl rfl) rfl rfl fun a hF=>?_)))
  obtain ⟨t_2,ht_2,hr⟩:=bindS hr
  refine q_x (v:=(strV t_2)) hF hS (ex_strSub Tryd.underlying9 rfl rfl rfl (.inr ⟨_,rfl⟩) (.inr ⟨_,rfl⟩) ht_2) rfl rfl fun a hF=>q_x (v:=(strV t_2)) hF hS (ex_assign rfl) rfl rfl fun a hF=>q_end (n_sq (q_ret (r_sq ?_)))
  obtain rfl:=someI hr
  exact ret_of hF hS rfl (.tmp rfl .nil) rfl

theorem c_math_bits_Len64 (p_x : K .u64) (r : Int) (hr : math_bits_Len64 p_x = some r) (w0 : World) (m : Mem) (hv : Vis m w0) :
  Ret Tryd.prog 150 [(.int .u64 p_x.v)] w0 (fun v _=>v = (iV r)):=by
 unfold math_bits_Len64 at hr
 refine ret_start Tryd.func150 rfl 25 rfl rfl m hv fun a hF hS=>q_seq (q_region (q_x (v:=(iV 0)) hF hS (ex_assign rfl) rfl rfl fun a hF=>q_end (n_sq (q_seq (q_seq (q_region (q_x (v:=(.int .u64 p_x.v)) hF hS (ex_move rfl) rfl rfl fun a hF=>q_x (v:=(.bool (decide (4294967296 ≤ p_x.v)))) hF hS (ex_ibin rfl rfl rfl) rfl rfl fun a hF=>q_end (n_sq ?_))))))))
 obtain ⟨j1,hj1,hr⟩:=bindS hr
 refine q_join (fun a w=>∃ x_2,∃ n_3,j1 = (x_2,n_3)∧Fr a 25 [(0,(.int .u64 x_2)),(2,(iV n_3))]∧St [] w0 w m []) ?_ ?_
 ·rcases bcase (decide (4294967296 ≤ p_x.v)) with hc2 | hc2
  ·have hj1:=cond_f hc2 hj1
   refine q_cond_f hF rfl hc2 (q_skipc (n_jn ?_))
   obtain rfl:=someI hj1
   exact ⟨_,_,rfl,hF.sub ⟨rfl,rfl,trivial⟩,hS⟩
  ·have hj1:=cond_t hc2 hj1
   refine q_cond_t hF rfl hc2 (q_seq (q_region (q_x (v:=(.int .u64 p_x.v)) hF hS (ex_move rfl) rfl rfl fun a hF=>?_)))
   obtain ⟨t_1,ht_1,hj1⟩:=bindS hj1
   refine q_x (v:=(.int .u64 t_1)) hF hS (ex_shr rfl rfl ht_1) rfl rfl fun a hF=>q_x (v:=(.int .u64 t_1)) hF hS (ex_assign rfl) rfl rfl fun a hF=>q_end (n_sq (q_region (q_x (v:=(iV 32)) hF hS (ex_assign rfl) rfl rfl fun a hF=>q_end (n_jn ?_))))
   obtain rfl:=someI hj1
   exact ⟨_,_,rfl,hF.sub ⟨rfl,rfl,trivial⟩,hS⟩
 ·rintro a w ⟨x_2,n_3,rfl,hF,hS⟩
  refine n_sq ?_
  refine q_seq (q_seq (q_region (q_x (v:=(.int .u64 x_2)) hF hS (ex_move rfl) rfl rfl fun a hF=>q_x (v:=(.bool (decide (65536 ≤ x_2)))) hF hS (ex_ibin rfl rfl rfl) rfl rfl fun a hF=>q_end (n_sq ?_))))
  obtain ⟨j3,hj3,hr⟩:=bindS hr
  refine q_join (fun a w=>∃ x_5,∃ n_6,j3 = (x_5,n_6)∧Fr a 25 [(0,(.int .u64 x_5)),(2,(iV n_6))]∧St [] w0 w m []) ?_ ?_
  ·rcases bcase (decide (65536 ≤ x_2)) with hc4 | hc4
   ·have hj3:=cond_f hc4 hj3
    refine q_cond_f hF rfl hc4 (q_skipc (n_jn ?_))
    obtain rfl:=someI hj3
    exact ⟨_,_,rfl,hF.sub ⟨rfl,rfl,trivial⟩,hS⟩
   ·have hj3:=cond_t hc4 hj3
    refine q_cond_t hF rfl hc4 (q_seq (q_region (q_x (v:=(.int .u64 x_2)) hF hS (ex_move rfl) rfl rfl fun a hF=>?_)))
    obtain ⟨t_4,ht_4,hj3⟩:=bindS hj3
    refine q_x (v:=(.int .u64 t_4)) hF hS (ex_shr rfl rfl ht_4) rfl rfl fun a hF=>q_x (v:=(.int .u64 t_4)) hF hS (ex_assign rfl) rfl rfl fun a hF=>q_end (n_sq (q_region (q_x (v:=(iV n_3)) hF hS (ex_move rfl) rfl rfl fun a hF=>q_x (v:=(iV (w64 (n_3 + 16)))) hF hS (ex_ibin rfl rfl rfl) rfl rfl fun a hF=>q_x (v:=(iV (w64 (n_3 + 16)))) hF hS (ex_assign rfl) rfl rfl fun a hF=>q_end (n_jn ?_))))
    obtain rfl:=someI hj3
    exact ⟨_,_,rfl,hF.sub ⟨rfl,rfl,trivial⟩,hS⟩
  ·rintro a w ⟨x_5,n_6,rfl,hF,hS⟩
   refine n_sq ?_
   refine q_seq (q_seq (q_region (q_x (v:=(.int .u64 x_5)) hF hS (ex_move rfl) rfl rfl fun a hF=>q_x (v:=(.bool (decide (256 ≤ x_5)))) hF hS (ex_ibin rfl rfl rfl) rfl rfl fun a hF=>q_end (n_sq ?_))))
   obtain ⟨j5,hj5,hr⟩:=bindS hr
   refine q_join (fun a w=>∃ x_8,∃ n_9,j5 = (x_8,n_9)∧Fr a 25 [(0,(.int .u64 x_8)),(2,(iV n_9))]∧St [] w0 w m []) ?_ ?_
   ·rcases bcase (decide (256 ≤ x_5)) with hc6 | hc6
    ·have hj5:=cond_f hc6 hj5
     refine q_cond_f hF rfl hc6 (q_skipc (n_jn ?_))
     obtain rfl:=someI hj5
     exact ⟨_,_,rfl,hF.sub ⟨rfl,rfl,trivial⟩,hS⟩
    ·have hj5:=cond_t hc6 hj5
     refine q_cond_t hF rfl hc6 (q_seq (q_region (q_x (v:=(.int .u64 x_5)) hF hS (ex_move rfl) rfl rfl fun a hF=>?_)))
     obtain ⟨t_7,ht_7,hj5⟩:=bindS hj5
     refine q_x (v:=(.int .u64 t_7)) hF hS (ex_shr rfl rfl ht_7) rfl rfl fun a hF=>q_x (v:=(.int .u64 t_7)) hF hS (ex_assign rfl) rfl rfl fun a hF=>q_end (n_sq (q_region (q_x (v:=(iV n_6)) hF hS (ex_move rfl) rfl rfl fun a hF=>q_x (v:=(iV (w64 (n_6 + 8)))) hF hS (ex_ibin rfl rfl rfl) rfl rfl fun a hF=>q_x (v:=(iV (w64 (n_6 + 8)))) hF hS (ex_assign rfl) rfl rfl fun a hF=>q_end (n_jn ?_))))
     obtain rfl:=someI hj5
     exact ⟨_,_,rfl,hF.sub ⟨rfl,rfl,trivial⟩,hS⟩
   ·rintro a w ⟨x_8,n_9,rfl,hF,hS⟩
    refine n_sq ?_
    refine q_seq (q_region (q_x (v:=(iV n_9)) hF hS (ex_move rfl) rfl rfl fun a hF=>q_x (v:=(.int .u64 x_8)) hF hS (ex_move rfl) rfl rfl fun a hF=>q_x (v:=(.int .u8 (IntKind.wrap .u8 x_8))) hF hS (ex_conv Tryd.underlying74 Tryd.underlying5 rfl) rfl rfl fun a hF=>?_))
    obtain ⟨t_10,ht_10,hr⟩:=bindS hr
    refine q_x (v:=(.int .u8 t_10)) hF hS (ex_strIdx Tryd.underlying9 rfl rfl ht_10) rfl rfl fun a hF=>q_x (v:=(iV (w64 t_10))) hF hS (ex_conv Tryd.underlying5 Tryd.underlying3 rfl) rfl rfl fun a hF=>q_x (v:=(iV (w64 (n_9 + (w64 t_10))))) hF hS (ex_ibin rfl rfl rfl) rfl rfl fun a hF=>q_x (v:=(iV (w64 (n_9 + (w64 t_10))))) hF hS (ex_assign rfl) rfl rfl fun a hF=>q_end (n_sq (q_ret ?_))
    obtain rfl:=someI hr
    exact ret_of hF hS rfl (.tmp rfl .nil) rfl

theorem c_internal_strconv_log10Pow2 (p_x : Int) (r : Int) (hr : internal_strconv_log10Pow2 p_x = some r) (w0 : World) (m : Mem) (hv : Vis m w0) :
  Ret Tryd.prog 149 [(iV p_x)] w0 (fun v _=>v = (iV r)):=by
 unfold internal_strconv_log10Pow2 at hr
 refine ret_start Tryd.func149 rfl 6 rfl rfl m hv fun a hF hS=>q_seq (q_region (q_x (v:=(iV 0)) hF hS (ex_assign rfl) rfl rfl fun a hF=>q_end (n_sq (q_seq (q_region (q_x (v:=(iV p_x)) hF hS (ex_move rfl) rfl rfl fun a hF=>q_x (v:=(iV (w64 (p_x * 78913)))) hF hS (ex_ibin rfl rfl rfl) rfl rfl fun a hF=>?_))))))
 obtain ⟨t_1,ht_1,hr⟩:=bindS hr
 refine q_x (v:=(iV t_1)) hF hS (ex_shr rfl rfl ht_1) rfl rfl fun a hF=>q_x (v:=(iV t_1)) hF hS (ex_assign rfl) rfl rfl fun a hF=>q_end (n_sq (q_ret ?_))
 obtain rfl:=someI hr
 exact ret_of hF hS rfl (.tmp rfl .nil) rfl

theorem c_internal_strconv_bool2_int (p_b : Bool) (r : Int) (hr : internal_strconv_bool2_int p_b = some r) (w0 : World) (m : Mem) (hv : Vis m w0) :
  Ret Tryd.prog 151 [(.bool p_b)] w0 (fun v _=>v = (iV r)):=by
 unfold internal_strconv_bool2_int at hr
 refine ret_start Tryd.func151 rfl 4 rfl rfl m hv fun a hF hS=>q_seq (q_region (q_x (v:=(iV 0)) hF hS (ex_assign rfl) rfl rfl fun a hF=>q_end (n_sq (q_seq (q_seq (q_region (q_x (v:=(.bool p_b)) hF hS (ex_move rfl) rfl rfl fun a hF=>q_end (n_sq ?_))))))))
 rcases bcase (p_b) with hc1 | hc1
 ·have hr:=cond_f hc1 hr
  refine q_cond_f hF rfl hc1 (q_skipc (n_sq (q_seq (q_region (q_x (v:=(iV 0)) hF hS (ex_assign rfl) rfl rfl fun a hF=>q_end (n_sq (q_ret ?_)))))))
  obtain rfl:=someI hr
  exact ret_of hF hS rfl (.tmp rfl .nil) rfl
 ·have hr:=cond_t hc1 hr
  refine q_cond_t hF rfl hc1 (q_seq (q_region (q_x (v:=(iV 1)) hF hS (ex_assign rfl) rfl rfl fun a hF=>q_end (n_sq (q_ret (r_sq ?_))))))
  obtain rfl:=someI hr
  exact ret_of hF hS rfl (.tmp rfl .nil) rfl

theorem c_internal_strconv_formatBase10 (p_a : List (K .u8)) (p_u : K .u64) (r : (List (K .u8))) (hr : internal_strconv_formatBase10 p_a p_u = some r) (w0 : World) (m : Mem) (s1 : Sl) (q1 : Piece) (h1 : OwnL m 5 q1 s1 p_a) (X : List Nat) (hS : St X w0 w0 m [q1]) :
  RetX Tryd.prog 140 [s1.v,(.int .u64 p_u.v)] w0 (fun v w=>∃ (qp0 : Piece),v = (.tuple #[])∧St X w0 w m [qp0]∧OwnL m 5 qp0 s1 r):=by
 unfold internal_strconv_formatBase10 at hr
 refine ret_startX Tryd.func140 rfl 167 rfl rfl fun a hF=>q_seq (q_region (q_x (v:=s1.v) hF hS (ex_move rfl) rfl rfl fun a hF=>q_x (v:=(iV (goLen p_a))) hF hS (ex_len Tryd.underlying22 rfl h1.len) rfl rfl fun a hF=>q_x (v:=(iV (goLen p_a))) hF hS (ex_assign rfl) rfl rfl fun a hF=>q_end (n_sq (q_seq (q_block ?_)))))
 obtain ⟨o1,hl1,hr⟩:=bindS hr
 refine q_loop (fun (s : (List (K .u8)) × Int × Int) a w=>∃ (q3 : Piece),∃ a_2,∃ u_4,∃ nd_5,s = (a_2,u_4,nd_5)∧Fr a 167 [(0,s1.v),(1,(.int .u64 u_4)),(4,(iV nd_5))]∧St X w0 w m [q3]∧OwnL m 5 q3 s1 a_2) (fun (o : (List (K .u8)) × Int × Int) e a w=>∃ (q47 : Piece),∃ a_46,∃ u_48,∃ nd_49,o = (a_46,u_48,nd_49)∧e = .exit 0∧Fr a 167 [(0,s1.v),(1,(.int .u64 u_48)),(4,(iV nd_49))]∧St X w0 w m [q47]∧OwnL m 5 q47 s1 a_46) hl1 ⟨q1,_,_,_,rfl,hF.sub ⟨rfl,rfl,rfl,trivial⟩,hS,h1⟩ ?_ ?_
 ·clear hF hS
  rintro s a w st ⟨q3,a_2,u_4,nd_5,rfl,hF,hS,h3⟩ hb1
  unfold internal_strconv_formatBase10_l1 at hb1
  refine q_seq (q_seq (q_region (q_x (v:=(iV nd_5)) hF hS (ex_move rfl) rfl rfl fun a hF=>q_x (v:=(.bool (decide (8 ≤ nd_5)))) hF hS (ex_ibin rfl rfl rfl) rfl rfl fun a hF=>q_end (n_sq ?_))))
  rcases bcase (decide (8 ≤ nd_5)) with hc2 | hc2
  ·have hb1:=cond_f hc2 hb1
   refine q_cond_f hF rfl hc2 (q_exit (x_sq ?_))
   obtain rfl:=someI hb1
   exact ⟨nofun,.inl ⟨q3,_,_,_,rfl,rfl,hF.sub ⟨rfl,rfl,rfl,trivial⟩,hS,h3⟩⟩
  ·have hb1:=cond_t hc2 hb1
   refine q_cond_t hF rfl hc2 (q_skipc (n_sq (q_block (q_seq (q_region (q_x (v:=(.int .u64 u_4)) hF hS (ex_move rfl) rfl rfl fun a hF=>?_))))))
   obtain ⟨t_6,ht_6,hb1⟩:=bindS hb1
   refine q_x (v:=(.int .u64 t_6)) hF hS (ex_rem rfl rfl ht_6) rfl rfl fun a hF=>q_x (v:=(.int .u32 (IntKind.wrap .u32 t_6))) hF hS (ex_conv Tryd.underlying74 Tryd.underlying151 rfl) rfl rfl fun a hF=>q_x (v:=(.int .u32 (IntKind.wrap .u32 t_6))) hF hS (ex_assign rfl) rfl rfl fun a hF=>q_end (n_sq (q_seq (q_region (q_x (v:=(.int .u64 u_4)) hF hS (ex_move rfl) rfl rfl fun a hF=>?_))))
   obtain ⟨t_7,ht_7,hb1⟩:=bindS hb1
   refine q_x (v:=(.int .u64 t_7)) hF hS (ex_quo rfl rfl ht_7) rfl rfl fun a hF=>q_x (v:=(.int .u64 t_7)) hF hS (ex_assign rfl) rfl rfl fun a hF=>q_end (n_sq (q_seq (q_region (q_x (v:=(.int .u32 (IntKind.wrap .u32 t_6))) hF hS (ex_move rfl) rfl rfl fun a hF=>?_))))
   obtain ⟨t_8,ht_8,hb1⟩:=bindS hb1
   refine q_x (v:=(.int .u32 t_8)) hF hS (ex_quo rfl rfl ht_8) rfl rfl fun a hF=>q_x (v:=(.int .u32 (IntKind.wrap .u32 t_6))) hF hS (ex_move rfl) rfl rfl fun a hF=>?_
   obtain ⟨t_9,ht_9,hb1⟩:=bindS hb1
   refine q_x (v:=(.int .u32 t_9)) hF hS (ex_rem rfl rfl ht_9) rfl rfl fun a hF=>q_x (v:=(.int .u32 t_8)) hF hS (ex_assign rfl) rfl rfl fun a hF=>q_x (v:=(.int .u32 t_9)) hF hS (ex_assign rfl) rfl rfl fun a hF=>q_end (n_sq (q_seq (q_region (q_x (v:=(.int .u32 t_9)) hF hS (ex_move rfl) rfl rfl fun a hF=>?_))))
   obtain ⟨t_10,ht_10,hb1⟩:=bindS hb1
   refine q_x (v:=(.int .u32 t_10)) hF hS (ex_quo rfl rfl ht_10) rfl rfl fun a hF=>q_x (v:=(.int .u32 (IntKind.wrap .u32 (t_10 * 2)))) hF hS (ex_ibin rfl rfl rfl) rfl rfl fun a hF=>q_x (v:=(.int .u32 t_9)) hF hS (ex_move rfl) rfl rfl fun a hF=>?_
   obtain ⟨t_11,ht_11,hb1⟩:=bindS hb1
   refine q_x (v:=(.int .u32 t_11)) hF hS (ex_rem rfl rfl ht_11) rfl rfl fun a hF=>q_x (v:=(.int .u32 (IntKind.wrap .u32 (t_11 * 2)))) hF hS (ex_ibin rfl rfl rfl) rfl rfl fun a hF=>q_x (v:=(.int .u32 (IntKind.wrap .u32 (t_10 * 2)))) hF hS (ex_assign rfl) rfl rfl fun a hF=>q_x (v:=(.int .u32 (IntKind.wrap .u32 (t_11 * 2)))) hF hS (ex_assign rfl) rfl rfl fun a hF=>q_end (n_sq (q_seq (q_region (q_x (v:=(.int .u32 t_8)) hF hS (ex_move rfl) rfl rfl fun a hF=>?_))))
   obtain ⟨t_12,ht_12,hb1⟩:=bindS hb1
   refine q_x (v:=(.int .u32 t_12)) hF hS (ex_quo rfl rfl ht_12) rfl rfl fun a hF=>q_x (v:=(.int .u32 (IntKind.wrap .u32 (t_12 * 2)))) hF hS (ex_ibin rfl rfl rfl) rfl rfl fun a hF=>q_x (v:=(.int .u32 t_8)) hF hS (ex_move rfl) rfl rfl fun a hF=>?_
   obtain ⟨t_13,ht_13,hb1⟩:=bindS hb1
   refine q_x (v:=(.int .u32 t_13)) hF hS (ex_rem rfl rfl ht_13) rfl rfl fun a hF=>q_x (v:=(.int .u32 (IntKind.wrap .u32 (t_13 * 2)))) hF hS (ex_ibin rfl rfl rfl) rfl rfl fun a hF=>q_x (v:=(.int .u32 (IntKind.wrap .u32 (t_12 * 2)))) hF hS (ex_assign rfl) rfl rfl fun a hF=>q_x (v:=(.int .u32 (IntKind.wrap .u32 (t_13 * 2)))) hF hS (ex_assign rfl) rfl rfl fun a hF=>q_end (n_sq (q_seq (e_region ⟨[12,14],[]⟩ mixed fun w' hw'=>?_)))
   have hS:=hS.below hw'
   refine e_p (v:=s1.v) 0 hF rfl (ex_move rfl) rfl rfl (by kernel_rfl) (by kernel_rfl) (by kernel_rfl) fun a hF=>e_p (v:=(iV nd_5)) 1 hF rfl (ex_move rfl) rfl rfl (by kernel_rfl) (by kernel_rfl) (by kernel_rfl) fun a hF=>e_p (v:=(iV (w64 (nd_5 - 1)))) 2 hF rfl (ex_ibin rfl rfl rfl) rfl rfl (by kernel_rfl) (by kernel_rfl) (by kernel_rfl) fun a hF=>e_p (v:=s1.v) 3 hF rfl (ex_move rfl) rfl rfl (by kernel_rfl) (by kernel_rfl) (by kernel_rfl) fun a hF=>e_p (v:=(iV nd_5)) 4 hF rfl (ex_move rfl) rfl rfl (by kernel_rfl) (by kernel_rfl) (by kernel_rfl) fun a hF=>e_p (v:=(iV (w64 (nd_5 - 2)))) 5 hF rfl (ex_ibin rfl rfl rfl) rfl rfl (by kernel_rfl) (by kernel_rfl) (by kernel_rfl) fun a hF=>e_p (v:=(.int .u32 (IntKind.wrap .u32 (t_11 * 2)))) 6 hF rfl (ex_move rfl) rfl rfl (by kernel_rfl) (by kernel_rfl) (by kernel_rfl) fun a hF=>e_p (v:=(.int .u32 (IntKind.wrap .u32 ((IntKind.wrap .u32 (t_11 * 2)) + 1)))) 7 hF rfl (ex_ibin rfl rfl rfl) rfl rfl (by kernel_rfl) (by kernel_rfl) (by kernel_rfl) fun a hF=>?_
   obtain ⟨t_14,ht_14,hb1⟩:=bindS hb1
   refine e_p (v:=(.int .u8 t_14)) 8 hF rfl (ex_strIdx Tryd.underlying9 rfl rfl ht_14) rfl rfl (by kernel_rfl) (by kernel_rfl) (by kernel_rfl) fun a hF=>e_p (v:=(.int .u32 (IntKind.wrap .u32 (t_11 * 2)))) 9 hF rfl (ex_move rfl) rfl rfl (by kernel_rfl) (by kernel_rfl) (by kernel_rfl) fun a hF=>?_
   obtain ⟨t_15,ht_15,hb1⟩:=bindS hb1
   refine e_p (v:=(.int .u8 t_15)) 10 hF rfl (ex_strIdx Tryd.underlying9 rfl rfl ht_15) rfl rfl (by kernel_rfl) (by kernel_rfl) (by kernel_rfl) fun a hF=>?_
   obtain ⟨e_16,he_16,hb1⟩:=bindS hb1
   obtain ⟨vs17,at17,d17⟩:=h3.at he_16 1 rfl
   obtain rfl : vs17 = [(.int .u8 e_16.v)]:=d17
   refine e_p (v:=(elP s1 ((w64 (nd_5 - 1)).toNat * 1))) 11 hF rfl (ex_indexAddr Tryd.underlying22 sz5 rfl rfl (h3.idx he_16)) rfl rfl (by kernel_rfl) (by kernel_rfl) (by kernel_rfl) fun a hF=>e_one 12 (by kernel_rfl) (e_opl rfl rfl rfl fun _ hK=>wp_storeE (e':=(⟨t_14⟩ : K .u8)) (us:=[(.int .u8 t_14)]) (vs:=[(.int .u8 e_16.v)]) 0 hF hS h3 sz5 rfl rfl rfl rfl rfl rfl rfl he_16 at17 rfl rfl rfl fun w q18 hS h18=>hK _ _ (⟨kpN,?_⟩))
   obtain ⟨e_19,he_19,hb1⟩:=bindS hb1
   obtain ⟨vs20,at20,d20⟩:=h18.at he_19 1 rfl
   obtain rfl : vs20 = [(.int .u8 e_19.v)]:=d20
   refine e_p (v:=(elP s1 ((w64 (nd_5 - 2)).toNat * 1))) 13 hF rfl (ex_indexAddr Tryd.underlying22 sz5 rfl rfl (h18.idx he_19)) rfl rfl (by kernel_rfl) (by kernel_rfl) (by kernel_rfl) fun a hF=>e_one 14 (by kernel_rfl) (e_opl rfl rfl rfl fun _ hK=>wp_storeE (e':=(⟨t_15⟩ : K .u8)) (us:=[(.int .u8 t_15)]) (vs:=[(.int .u8 e_19.v)]) 0 hF hS h18 sz5 rfl rfl rfl rfl rfl rfl rfl he_19 at20 rfl rfl rfl fun w q21 hS h21=>hK _ _ (⟨kpN,?_⟩))
   refine e_end (by kernel_rfl) (n_sq ?_) _
   refine q_seq (e_region ⟨[12,14],[]⟩ mixed fun w' hw'=>?_)
   have hS:=hS.below hw'
   refine e_p (v:=s1.v) 0 hF rfl (ex_move rfl) rfl rfl (by kernel_rfl) (by kernel_rfl) (by kernel_rfl) fun a hF=>e_p (v:=(iV nd_5)) 1 hF rfl (ex_move rfl) rfl rfl (by kernel_rfl) (by kernel_rfl) (by kernel_rfl) fun a hF=>e_p (v:=(iV (w64 (nd_5 - 3)))) 2 hF rfl (ex_ibin rfl rfl rfl) rfl rfl (by kernel_rfl) (by kernel_rfl) (by kernel_rfl) fun a hF=>e_p (v:=s1.v) 3 hF rfl (ex_move rfl) rfl rfl (by kernel_rfl) (by kernel_rfl) (by kernel_rfl) fun a hF=>e_p (v:=(iV nd_5)) 4 hF rfl (ex_move rfl) rfl rfl (by kernel_rfl) (by kernel_rfl) (by kernel_rfl) fun a hF=>e_p (v:=(iV (w64 (nd_5 - 4)))) 5 hF rfl (ex_ibin rfl rfl rfl) rfl rfl (by kernel_rfl) (by kernel_rfl) (by kernel_rfl) fun a hF=>e_p (v:=(.int .u32 (IntKind.wrap .u32 (t_10 * 2)))) 6 hF rfl (ex_move rfl) rfl rfl (by kernel_rfl) (by kernel_rfl) (by kernel_rfl) fun a hF=>e_p (v:=(.int .u32 (IntKind.wrap .u32 ((IntKind.wrap .u32 (t_10 * 2)) + 1)))) 7 hF rfl (ex_ibin rfl rfl rfl) rfl rfl (by kernel_rfl) (by kernel_rfl) (by kernel_rfl) fun a hF=>?_
   obtain ⟨t_22,ht_22,hb1⟩:=bindS hb1
   refine e_p (v:=(.int .u8 t_22)) 8 hF rfl (ex_strIdx Tryd.underlying9 rfl rfl ht_22) rfl rfl (by kernel_rfl) (by kernel_rfl) (by kernel_rfl) fun a hF=>e_p (v:=(.int .u32 (IntKind.wrap .u32 (t_10 * 2)))) 9 hF rfl (ex_move rfl) rfl rfl (by kernel_rfl) (by kernel_rfl) (by kernel_rfl) fun a hF=>?_
   obtain ⟨t_23,ht_23,hb1⟩:=bindS hb1
   refine e_p (v:=(.int .u8 t_23)) 10 hF rfl (ex_strIdx Tryd.underlying9 rfl rfl ht_23) rfl rfl (by kernel_rfl) (by kernel_rfl) (by kernel_rfl) fun a hF=>?_
   obtain ⟨e_24,he_24,hb1⟩:=bindS hb1
   obtain ⟨vs25,at25,d25⟩:=h21.at he_24 1 rfl
   obtain rfl : vs25 = [(.int .u8 e_24.v)]:=d25
   refine e_p (v:=(elP s1 ((w64 (nd_5 - 3)).toNat * 1))) 11 hF rfl (ex_indexAddr Tryd.underlying22 sz5 rfl rfl (h21.idx he_24)) rfl rfl (by kernel_rfl) (by kernel_rfl) (by kernel_rfl) fun a hF=>e_one 12 (by kernel_rfl) (e_opl rfl rfl rfl fun _ hK=>wp_storeE (e':=(⟨t_22⟩ : K .u8)) (us:=[(.int .u8 t_22)]) (vs:=[(.int .u8 e_24.v)]) 0 hF hS h21 sz5 rfl rfl rfl rfl rfl rfl rfl he_24 at25 rfl rfl rfl fun w q26 hS h26=>hK _ _ (⟨kpN,?_⟩))
   obtain ⟨e_27,he_27,hb1⟩:=bindS hb1
   obtain ⟨vs28,at28,d28⟩:=h26.at he_27 1 rfl
   obtain rfl : vs28 = [(.int .u8 e_27.v)]:=d28
   refine e_p (v:=(elP s1 ((w64 (nd_5 - 4)).toNat * 1))) 13 hF rfl (ex_indexAddr Tryd.underlying22 sz5 rfl rfl (h26.idx he_27)) rfl rfl (by kernel_rfl) (by kernel_rfl) (by kernel_rfl) fun a hF=>e_one 14 (by kernel_rfl) (e_opl rfl rfl rfl fun _ hK=>wp_storeE (e':=(⟨t_23⟩ : K .u8)) (us:=[(.int .u8 t_23)]) (vs:=[(.int .u8 e_27.v)]) 0 hF hS h26 sz5 rfl rfl rfl rfl rfl rfl rfl he_27 at28 rfl rfl rfl fun w q29 hS h29=>hK _ _ (⟨kpN,?_⟩))
   refine e_end (by kernel_rfl) (n_sq ?_) _
   refine q_seq (e_region ⟨[12,14],[]⟩ mixed fun w' hw'=>?_)
   have hS:=hS.below hw'
   refine e_p (v:=s1.v) 0 hF rfl (ex_move rfl) rfl rfl (by kernel_rfl) (by kernel_rfl) (by kernel_rfl) fun a hF=>e_p (v:=(iV nd_5)) 1 hF rfl (ex_move rfl) rfl rfl (by kernel_rfl) (by kernel_rfl) (by kernel_rfl) fun a hF=>e_p (v:=(iV (w64 (nd_5 - 5)))) 2 hF rfl (ex_ibin rfl rfl rfl) rfl rfl (by kernel_rfl) (by kernel_rfl) (by kernel_rfl) fun a hF=>e_p (v:=s1.v) 3 hF rfl (ex_move rfl) rfl rfl (by kernel_rfl) (by kernel_rfl) (by kernel_rfl) fun a hF=>e_p (v:=(iV nd_5)) 4 hF rfl (ex_move rfl) rfl rfl (by kernel_rfl) (by kernel_rfl) (by kernel_rfl) fun a hF=>e_p (v:=(iV (w64 (nd_5 - 6)))) 5 hF rfl (ex_ibin rfl rfl rfl) rfl rfl (by kernel_rfl) (by kernel_rfl) (by kernel_rfl) fun a hF=>e_p (v:=(.int .u32 (IntKind.wrap .u32 (t_13 * 2)))) 6 hF rfl (ex_move rfl) rfl rfl (by kernel_rfl) (by kernel_rfl) (by kernel_rfl) fun a hF=>e_p (v:=(.int .u32 (IntKind.wrap .u32 ((IntKind.wrap .u32 (t_13 * 2)) + 1)))) 7 hF rfl (ex_ibin rfl rfl rfl) rfl rfl (by kernel_rfl) (by kernel_rfl) (by kernel_rfl) fun a hF=>?_
   obtain ⟨t_30,ht_30,hb1⟩:=bindS hb1
   refine e_p (v:=(.int .u8 t_30)) 8 hF rfl (ex_strIdx Tryd.underlying9 rfl rfl ht_30) rfl rfl (by kernel_rfl) (by kernel_rfl) (by kernel_rfl) fun a hF=>e_p (v:=(.int .u32 (IntKind.wrap .u32 (t_13 * 2)))) 9 hF rfl (ex_move rfl) rfl rfl (by kernel_rfl) (by kernel_rfl) (by kernel_rfl) fun a hF=>?_
   obtain ⟨t_31,ht_31,hb1⟩:=bindS hb1
   refine e_p (v:=(.int .u8 t_31)) 10 hF rfl (ex_strIdx Tryd.underlying9 rfl rfl ht_31) rfl rfl (by kernel_rfl) (by kernel_rfl) (by kernel_rfl) fun a hF=>?_
   obtain ⟨e_32,he_32,hb1⟩:=bindS hb1
   obtain ⟨vs33,at33,d33⟩:=h29.at he_32 1 rfl
   obtain rfl : vs33 = [(.int .u8 e_32.v)]:=d33
   refine e_p (v:=(elP s1 ((w64 (nd_5 - 5)).toNat * 1))) 11 hF rfl (ex_indexAddr Tryd.underlying22 sz5 rfl rfl (h29.idx he_32)) rfl rfl (by kernel_rfl) (by kernel_rfl) (by kernel_rfl) fun a hF=>e_one 12 (by kernel_rfl) (e_opl rfl rfl rfl fun _ hK=>wp_storeE (e':=(⟨t_30⟩ : K .u8)) (us:=[(.int .u8 t_30)]) (vs:=[(.int .u8 e_32.v)]) 0 hF hS h29 sz5 rfl rfl rfl rfl rfl rfl rfl he_32 at33 rfl rfl rfl fun w q34 hS h34=>hK _ _ (⟨kpN,?_⟩))
   obtain ⟨e_35,he_35,hb1⟩:=bindS hb1
   obtain ⟨vs36,at36,d36⟩:=h34.at he_35 1 rfl
   obtain rfl : vs36 = [(.int .u8 e_35.v)]:=d36
   refine e_p (v:=(elP s1 ((w64 (nd_5 - 6)).toNat * 1))) 13 hF rfl (ex_indexAddr Tryd.underlying22 sz5 rfl rfl (h34.idx he_35)) rfl rfl (by kernel_rfl) (by kernel_rfl) (by kernel_rfl) fun a hF=>e_one 14 (by kernel_rfl) (e_opl rfl rfl rfl fun _ hK=>wp_storeE (e':=(⟨t_31⟩ : K .u8)) (us:=[(.int .u8 t_31)]) (vs:=[(.int .u8 e_35.v)]) 0 hF hS h34 sz5 rfl rfl rfl rfl rfl rfl rfl he_35 at36 rfl rfl rfl fun w q37 hS h37=>hK _ _ (⟨kpN,?_⟩))
   refine e_end (by kernel_rfl) (n_sq ?_) _
   refine q_seq (e_region ⟨[12,14],[]⟩ mixed fun w' hw'=>?_)
   have hS:=hS.below hw'
   refine e_p (v:=s1.v) 0 hF rfl (ex_move rfl) rfl rfl (by kernel_rfl) (by kernel_rfl) (by kernel_rfl) fun a hF=>e_p (v:=(iV nd_5)) 1 hF rfl (ex_move rfl) rfl rfl (by kernel_rfl) (by kernel_rfl) (by kernel_rfl) fun a hF=>e_p (v:=(iV (w64 (nd_5 - 7)))) 2 hF rfl (ex_ibin rfl rfl rfl) rfl rfl (by kernel_rfl) (by kernel_rfl) (by kernel_rfl) fun a hF=>e_p (v:=s1.v) 3 hF rfl (ex_move rfl) rfl rfl (by kernel_rfl) (by kernel_rfl) (by kernel_rfl) fun a hF=>e_p (v:=(iV nd_5)) 4 hF rfl (ex_move rfl) rfl rfl (by kernel_rfl) (by kernel_rfl) (by kernel_rfl) fun a hF=>e_p (v:=(iV (w64 (nd_5 - 8)))) 5 hF rfl (ex_ibin rfl rfl rfl) rfl rfl (by kernel_rfl) (by kernel_rfl) (by kernel_rfl) fun a hF=>e_p (v:=(.int .u32 (IntKind.wrap .u32 (t_12 * 2)))) 6 hF rfl (ex_move rfl) rfl rfl (by kernel_rfl) (by kernel_rfl) (by kernel_rfl) fun a hF=>e_p (v:=(.int .u32 (IntKind.wrap .u32 ((IntKind.wrap .u32 (t_12 * 2)) + 1)))) 7 hF rfl (ex_ibin rfl rfl rfl) rfl rfl (by kernel_rfl) (by kernel_rfl) (by kernel_rfl) fun a hF=>?_
   obtain ⟨t_38,ht_38,hb1⟩:=bindS hb1
   refine e_p (v:=(.int .u8 t_38)) 8 hF rfl (ex_strIdx Tryd.underlying9 rfl rfl ht_38) rfl rfl (by kernel_rfl) (by kernel_rfl) (by kernel_rfl) fun a hF=>e_p (v:=(.int .u32 (IntKind.wrap .u32 (t_12 * 2)))) 9 hF rfl (ex_move rfl) rfl rfl (by kernel_rfl) (by kernel_rfl) (by kernel_rfl) fun a hF=>?_
   obtain ⟨t_39,ht_39,hb1⟩:=bindS hb1
   refine e_p (v:=(.int .u8 t_39)) 10 hF rfl (ex_strIdx Tryd.underlying9 rfl rfl ht_39) rfl rfl (by kernel_rfl) (by kernel_rfl) (by kernel_rfl) fun a hF=>?_
   obtain ⟨e_40,he_40,hb1⟩:=bindS hb1
   obtain ⟨vs41,at41,d41⟩:=h37.at he_40 1 rfl
   obtain rfl : vs41 = [(.int .u8 e_40.v)]:=d41
   refine e_p (v:=(elP s1 ((w64 (nd_5 - 7)).toNat * 1))) 11 hF rfl (ex_indexAddr Tryd.underlying22 sz5 rfl rfl (h37.idx he_40)) rfl rfl (by kernel_rfl) (by kernel_rfl) (by kernel_rfl) fun a hF=>e_one 12 (by kernel_rfl) (e_opl rfl rfl rfl fun _ hK=>wp_storeE (e':=(⟨t_38⟩ : K .u8)) (us:=[(.int .u8 t_38)]) (vs:=[(.int .u8 e_40.v)]) 0 hF hS h37 sz5 rfl rfl rfl rfl rfl rfl rfl he_40 at41 rfl rfl rfl fun w q42 hS h42=>hK _ _ (⟨kpN,?_⟩))
   obtain ⟨e_43,he_43,hb1⟩:=bindS hb1
   obtain ⟨vs44,at44,d44⟩:=h42.at he_43 1 rfl
   obtain rfl : vs44 = [(.int .u8 e_43.v)]:=d44
   refine e_p (v:=(elP s1 ((w64 (nd_5 - 8)).toNat * 1))) 13 hF rfl (ex_indexAddr Tryd.underlying22 sz5 rfl rfl (h42.idx he_43)) rfl rfl (by kernel_rfl) (by kernel_rfl) (by kernel_rfl) fun a hF=>e_one 14 (by kernel_rfl) (e_opl rfl rfl rfl fun _ hK=>wp_storeE (e':=(⟨t_39⟩ : K .u8)) (us:=[(.int .u8 t_39)]) (vs:=[(.int .u8 e_43.v)]) 0 hF hS h42 sz5 rfl rfl rfl rfl rfl rfl rfl he_43 at44 rfl rfl rfl fun w q45 hS h45=>hK _ _ (⟨kpN,?_⟩))
   refine e_end (by kernel_rfl) (n_sq ?_) _
   refine q_region (q_x (v:=(iV nd_5)) hF hS (ex_move rfl) rfl rfl fun a hF=>q_x (v:=(iV (w64 (nd_5 - 8)))) hF hS (ex_ibin rfl rfl rfl) rfl rfl fun a hF=>q_x (v:=(iV (w64 (nd_5 - 8)))) hF hS (ex_assign rfl) rfl rfl fun a hF=>q_end (n_ib ?_))
   obtain rfl:=someI hb1
   exact ⟨rfl,q45,_,_,_,rfl,hF.sub ⟨rfl,rfl,rfl,trivial⟩,hS,h45⟩
 ·rintro e a w ⟨q47,a_46,u_48,nd_49,rfl,rfl,hF,hS,h47⟩
  refine x_ib (n_sq ?_)
  refine q_seq (q_region (q_x (v:=(.int .u64 u_48)) hF hS (ex_move rfl) rfl rfl fun a hF=>q_x (v:=(.int .u32 (IntKind.wrap .u32 u_48))) hF hS (ex_conv Tryd.underlying74 Tryd.underlying151 rfl) rfl rfl fun a hF=>q_x (v:=(.int .u32 (IntKind.wrap .u32 u_48))) hF hS (ex_assign rfl) rfl rfl fun a hF=>q_end (n_sq (q_seq (q_seq (q_region (q_x (v:=(iV nd_49)) hF hS (ex_move rfl) rfl rfl fun a hF=>q_x (v:=(.bool (decide (4 ≤ nd_49)))) hF hS (ex_ibin rfl rfl rfl) rfl rfl fun a hF=>q_end (n_sq ?_))))))))
  obtain ⟨j3,hj3,hr⟩:=bindS hr
  refine q_join (fun a w=>∃ (q71 : Piece),∃ a_70,∃ nd_72,∃ x_73,j3 = (a_70,nd_72,x_73)∧Fr a 167 [(0,s1.v),(4,(iV nd_72)),(12,(.int .u32 x_73))]∧St X w0 w m [q71]∧OwnL m 5 q71 s1 a_70) ?_ ?_
  ·rcases bcase (decide (4 ≤ nd_49)) with hc4 | hc4
   ·have hj3:=cond_f hc4 hj3
    refine q_cond_f hF rfl hc4 (q_skipc (n_jn ?_))
    obtain rfl:=someI hj3
    exact ⟨q47,_,_,_,rfl,hF.sub ⟨rfl,rfl,rfl,trivial⟩,hS,h47⟩
   ·have hj3:=cond_t hc4 hj3
    refine q_cond_t hF rfl hc4 (q_seq (q_region (q_x (v:=(.int .u32 (IntKind.wrap .u32 u_48))) hF hS (ex_move rfl) rfl rfl fun a hF=>?_)))
    obtain ⟨t_50,ht_50,hj3⟩:=bindS hj3
    refine q_x (v:=(.int .u32 t_50)) hF hS (ex_rem rfl rfl ht_50) rfl rfl fun a hF=>q_x (v:=(.int .u32 t_50)) hF hS (ex_assign rfl) rfl rfl fun a hF=>q_end (n_sq (q_seq (q_region (q_x (v:=(.int .u32 (IntKind.wrap .u32 u_48))) hF hS (ex_move rfl) rfl rfl fun a hF=>?_))))
    obtain ⟨t_51,ht_51,hj3⟩:=bindS hj3
    refine q_x (v:=(.int .u32 t_51)) hF hS (ex_quo rfl rfl ht_51) rfl rfl fun a hF=>q_x (v:=(.int .u32 t_51)) hF hS (ex_assign rfl) rfl rfl fun a hF=>q_end (n_sq (q_seq (q_region (q_x (v:=(.int .u32 t_50)) hF hS (ex_move rfl) rfl rfl fun a hF=>?_))))
    obtain ⟨t_52,ht_52,hj3⟩:=bindS hj3
    refine q_x (v:=(.int .u32 t_52)) hF hS (ex_quo rfl rfl ht_52) rfl rfl fun a hF=>q_x (v:=(.int .u32 (IntKind.wrap .u32 (t_52 * 2)))) hF hS (ex_ibin rfl rfl rfl) rfl rfl fun a hF=>q_x (v:=(.int .u32 t_50)) hF hS (ex_move rfl) rfl rfl fun a hF=>?_
    obtain ⟨t_53,ht_53,hj3⟩:=bindS hj3
    refine q_x (v:=(.int .u32 t_53)) hF hS (ex_rem rfl rfl ht_53) rfl rfl fun a hF=>q_x (v:=(.int .u32 (IntKind.wrap .u32 (t_53 * 2)))) hF hS (ex_ibin rfl rfl rfl) rfl rfl fun a hF=>q_x (v:=(.int .u32 (IntKind.wrap .u32 (t_52 * 2)))) hF hS (ex_assign rfl) rfl rfl fun a hF=>q_x (v:=(.int .u32 (IntKind.wrap .u32 (t_53 * 2)))) hF hS (ex_assign rfl) rfl rfl fun a hF=>q_end (n_sq (q_seq (e_region ⟨[12,14],[]⟩ mixed fun w' hw'=>?_)))
    have hS:=hS.below hw'
    refine e_p (v:=s1.v) 0 hF rfl (ex_move rfl) rfl rfl (by kernel_rfl) (by kernel_rfl) (by kernel_rfl) fun a hF=>e_p (v:=(iV nd_49)) 1 hF rfl (ex_move rfl) rfl rfl (by kernel_rfl) (by kernel_rfl) (by kernel_rfl) fun a hF=>e_p (v:=(iV (w64 (nd_49 - 1)))) 2 hF rfl (ex_ibin rfl rfl rfl) rfl rfl (by kernel_rfl) (by kernel_rfl) (by kernel_rfl) fun a hF=>e_p (v:=s1.v) 3 hF rfl (ex_move rfl) rfl rfl (by kernel_rfl) (by kernel_rfl) (by kernel_rfl) fun a hF=>e_p (v:=(iV nd_49)) 4 hF rfl (ex_move rfl) rfl rfl (by kernel_rfl) (by kernel_rfl) (by kernel_rfl) fun a hF=>e_p (v:=(iV (w64 (nd_49 - 2)))) 5 hF rfl (ex_ibin rfl rfl rfl) rfl rfl (by kernel_rfl) (by kernel_rfl) (by kernel_rfl) fun a hF=>e_p (v:=(.int .u32 (IntKind.wrap .u32 (t_53 * 2)))) 6 hF rfl (ex_move rfl) rfl rfl (by kernel_rfl) (by kernel_rfl) (by kernel_rfl) fun a hF=>e_p (v:=(.int .u32 (IntKind.wrap .u32 ((IntKind.wrap .u32 (t_53 * 2)) + 1)))) 7 hF rfl (ex_ibin rfl rfl rfl) rfl rfl (by kernel_rfl) (by kernel_rfl) (by kernel_rfl) fun a hF=>?_
    obtain ⟨t_54,ht_54,hj3⟩:=bindS hj3
    refine e_p (v:=(.int .u8 t_54)) 8 hF rfl (ex_strIdx Tryd.underlying9 rfl rfl ht_54) rfl rfl (by kernel_rfl) (by kernel_rfl) (by kernel_rfl) fun a hF=>e_p (v:=(.int .u32 (IntKind.wrap .u32 (t_53 * 2)))) 9 hF rfl (ex_move rfl) rfl rfl (by kernel_rfl) (by kernel_rfl) (by kernel_rfl) fun a hF=>?_
    obtain ⟨t_55,ht_55,hj3⟩:=bindS hj3
    refine e_p (v:=(.int .u8 t_55)) 10 hF rfl (ex_strIdx Tryd.underlying9 rfl rfl ht_55) rfl rfl (by kernel_rfl) (by kernel_rfl) (by kernel_rfl) fun a hF=>?_
    obtain ⟨e_56,he_56,hj3⟩:=bindS hj3
    obtain ⟨vs57,at57,d57⟩:=h47.at he_56 1 rfl
    obtain rfl : vs57 = [(.int .u8 e_56.v)]:=d57
    refine e_p (v:=(elP s1 ((w64 (nd_49 - 1)).toNat * 1))) 11 hF rfl (ex_indexAddr Tryd.underlying22 sz5 rfl rfl (h47.idx he_56)) rfl rfl (by kernel_rfl) (by kernel_rfl) (by kernel_rfl) fun a hF=>e_one 12 (by kernel_rfl) (e_opl rfl rfl rfl fun _ hK=>wp_storeE (e':=(⟨t_54⟩ : K .u8)) (us:=[(.int .u8 t_54)]) (vs:=[(.int .u8 e_56.v)]) 0 hF hS h47 sz5 rfl rfl rfl rfl rfl rfl rfl he_56 at57 rfl rfl rfl fun w q58 hS h58=>hK _ _ (⟨kpN,?_⟩))
    obtain ⟨e_59,he_59,hj3⟩:=bindS hj3
    obtain ⟨vs60,at60,d60⟩:=h58.at he_59 1 rfl
    obtain rfl : vs60 = [(.int .u8 e_59.v)]:=d60
    refine e_p (v:=(elP s1 ((w64 (nd_49 - 2)).toNat * 1))) 13 hF rfl (ex_indexAddr Tryd.underlying22 sz5 rfl rfl (h58.idx he_59)) rfl rfl (by kernel_rfl) (by kernel_rfl) (by kernel_rfl) fun a hF=>e_one 14 (by kernel_rfl) (e_opl rfl rfl rfl fun _ hK=>wp_storeE (e':=(⟨t_55⟩ : K .u8)) (us:=[(.int .u8 t_55)]) (vs:=[(.int .u8 e_59.v)]) 0 hF hS h58 sz5 rfl rfl rfl rfl rfl rfl rfl he_59 at60 rfl rfl rfl fun w q61 hS h61=>hK _ _ (⟨kpN,?_⟩))
    refine e_end (by kernel_rfl) (n_sq ?_) _
    refine q_seq (e_region ⟨[12,14],[]⟩ mixed fun w' hw'=>?_)
    have hS:=hS.below hw'
    refine e_p (v:=s1.v) 0 hF rfl (ex_move rfl) rfl rfl (by kernel_rfl) (by kernel_rfl) (by kernel_rfl) fun a hF=>e_p (v:=(iV nd_49)) 1 hF rfl (ex_move rfl) rfl rfl (by kernel_rfl) (by kernel_rfl) (by kernel_rfl) fun a hF=>e_p (v:=(iV (w64 (nd_49 - 3)))) 2 hF rfl (ex_ibin rfl rfl rfl) rfl rfl (by kernel_rfl) (by kernel_rfl) (by kernel_rfl) fun a hF=>e_p (v:=s1.v) 3 hF rfl (ex_move rfl) rfl rfl (by kernel_rfl) (by kernel_rfl) (by kernel_rfl) fun a hF=>e_p (v:=(iV nd_49)) 4 hF rfl (ex_move rfl) rfl rfl (by kernel_rfl) (by kernel_rfl) (by kernel_rfl) fun a hF=>e_p (v:=(iV (w64 (nd_49 - 4)))) 5 hF rfl (ex_ibin rfl rfl rfl) rfl rfl (by kernel_rfl) (by kernel_rfl) (by kernel_rfl) fun a hF=>e_p (v:=(.int .u32 (IntKind.wrap .u32 (t_52 * 2)))) 6 hF rfl (ex_move rfl) rfl rfl (by kernel_rfl) (by kernel_rfl) (by kernel_rfl) fun a hF=>e_p (v:=(.int .u32 (IntKind.wrap .u32 ((IntKind.wrap .u32 (t_52 * 2)) + 1)))) 7 hF rfl (ex_ibin rfl rfl rfl) rfl rfl (by kernel_rfl) (by kernel_rfl) (by kernel_rfl) fun a hF=>?_
    obtain ⟨t_62,ht_62,hj3⟩:=bindS hj3
    refine e_p (v:=(.int .u8 t_62)) 8 hF rfl (ex_strIdx Tryd.underlying9 rfl rfl ht_62) rfl rfl (by kernel_rfl) (by kernel_rfl) (by kernel_rfl) fun a hF=>e_p (v:=(.int .u32 (IntKind.wrap .u32 (t_52 * 2)))) 9 hF rfl (ex_move rfl) rfl rfl (by kernel_rfl) (by kernel_rfl) (by kernel_rfl) fun a hF=>?_
    obtain ⟨t_63,ht_63,hj3⟩:=bindS hj3
    refine e_p (v:=(.int .u8 t_63)) 10 hF rfl (ex_strIdx Tryd.underlying9 rfl rfl ht_63) rfl rfl (by kernel_rfl) (by kernel_rfl) (by kernel_rfl) fun a hF=>?_
    obtain ⟨e_64,he_64,hj3⟩:=bindS hj3
    obtain ⟨vs65,at65,d65⟩:=h61.at he_64 1 rfl
    obtain rfl : vs65 = [(.int .u8 e_64.v)]:=d65
    refine e_p (v:=(elP s1 ((w64 (nd_49 - 3)).toNat * 1))) 11 hF rfl (ex_indexAddr Tryd.underlying22 sz5 rfl rfl (h61.idx he_64)) rfl rfl (by kernel_rfl) (by kernel_rfl) (by kernel_rfl) fun a hF=>e_one 12 (by kernel_rfl) (e_opl rfl rfl rfl fun _ hK=>wp_storeE (e':=(⟨t_62⟩ : K .u8)) (us:=[(.int .u8 t_62)]) (vs:=[(.int .u8 e_64.v)]) 0 hF hS h61 sz5 rfl rfl rfl rfl rfl rfl rfl he_64 at65 rfl rfl rfl fun w q66 hS h66=>hK _ _ (⟨kpN,?_⟩))
    obtain ⟨e_67,he_67,hj3⟩:=bindS hj3
    obtain ⟨vs68,at68,d68⟩:=h66.at he_67 1 rfl
    obtain rfl : vs68 = [(.int .u8 e_67.v)]:=d68
    refine e_p (v:=(elP s1 ((w64 (nd_49 - 4)).toNat * 1))) 13 hF rfl (ex_indexAddr Tryd.underlying22 sz5 rfl rfl (h66.idx he_67)) rfl rfl (by kernel_rfl) (by kernel_rfl) (by kernel_rfl) fun a hF=>e_one 14 (by kernel_rfl) (e_opl rfl rfl rfl fun _ hK=>wp_storeE (e':=(⟨t_63⟩ : K .u8)) (us:=[(.int .u8 t_63)]) (vs:=[(.int .u8 e_67.v)]) 0 hF hS h66 sz5 rfl rfl rfl rfl rfl rfl rfl he_67 at68 rfl rfl rfl fun w q69 hS h69=>hK _ _ (⟨kpN,?_⟩))
    refine e_end (by kernel_rfl) (n_sq ?_) _
    refine q_region (q_x (v:=(iV nd_49)) hF hS (ex_move rfl) rfl rfl fun a hF=>q_x (v:=(iV (w64 (nd_49 - 4)))) hF hS (ex_ibin rfl rfl rfl) rfl rfl fun a hF=>q_x (v:=(iV (w64 (nd_49 - 4)))) hF hS (ex_assign rfl) rfl rfl fun a hF=>q_end (n_jn ?_))
    obtain rfl:=someI hj3
    exact ⟨q69,_,_,_,rfl,hF.sub ⟨rfl,rfl,rfl,trivial⟩,hS,h69⟩
  ·rintro a w ⟨q71,a_70,nd_72,x_73,rfl,hF,hS,h71⟩
   refine n_sq ?_
   refine q_seq (q_seq (q_region (q_x (v:=(iV nd_72)) hF hS (ex_move rfl) rfl rfl fun a hF=>q_x (v:=(.bool (decide (2 ≤ nd_72)))) hF hS (ex_ibin rfl rfl rfl) rfl rfl fun a hF=>q_end (n_sq ?_))))
   obtain ⟨j5,hj5,hr⟩:=bindS hr
   refine q_join (fun a w=>∃ (q85 : Piece),∃ a_84,∃ nd_86,∃ x_87,j5 = (a_84,nd_86,x_87)∧Fr a 167 [(0,s1.v),(4,(iV nd_86)),(12,(.int .u32 x_87))]∧St X w0 w m [q85]∧OwnL m 5 q85 s1 a_84) ?_ ?_
   ·rcases bcase (decide (2 ≤ nd_72)) with hc6 | hc6
    ·have hj5:=cond_f hc6 hj5
     refine q_cond_f hF rfl hc6 (q_skipc (n_jn ?_))
     obtain rfl:=someI hj5
     exact ⟨q71,_,_,_,rfl,hF.sub ⟨rfl,rfl,rfl,trivial⟩,hS,h71⟩
    ·have hj5:=cond_t hc6 hj5
     refine q_cond_t hF rfl hc6 (q_seq (q_region (q_x (v:=(.int .u32 x_73)) hF hS (ex_move rfl) rfl rfl fun a hF=>?_)))
     obtain ⟨t_74,ht_74,hj5⟩:=bindS hj5
     refine q_x (v:=(.int .u32 t_74)) hF hS (ex_rem rfl rfl ht_74) rfl rfl fun a hF=>q_x (v:=(.int .u32 (IntKind.wrap .u32 (t_74 * 2)))) hF hS (ex_ibin rfl rfl rfl) rfl rfl fun a hF=>q_x (v:=(.int .u32 (IntKind.wrap .u32 (t_74 * 2)))) hF hS (ex_assign rfl) rfl rfl fun a hF=>q_end (n_sq (q_seq (q_region (q_x (v:=(.int .u32 x_73)) hF hS (ex_move rfl) rfl rfl fun a hF=>?_))))
     obtain ⟨t_75,ht_75,hj5⟩:=bindS hj5
     refine q_x (v:=(.int .u32 t_75)) hF hS (ex_quo rfl rfl ht_75) rfl rfl fun a hF=>q_x (v:=(.int .u32 t_75)) hF hS (ex_assign rfl) rfl rfl fun a hF=>q_end (n_sq (q_seq (e_region ⟨[12,14],[]⟩ mixed fun w' hw'=>?_)))
     have hS:=hS.below hw'
     refine e_p (v:=s1.v) 0 hF rfl (ex_move rfl) rfl rfl (by kernel_rfl) (by kernel_rfl) (by kernel_rfl) fun a hF=>e_p (v:=(iV nd_72)) 1 hF rfl (ex_move rfl) rfl rfl (by kernel_rfl) (by kernel_rfl) (by kernel_rfl) fun a hF=>e_p (v:=(iV (w64 (nd_72 - 1)))) 2 hF rfl (ex_ibin rfl rfl rfl) rfl rfl (by kernel_rfl) (by kernel_rfl) (by kernel_rfl) fun a hF=>e_p (v:=s1.v) 3 hF rfl (ex_move rfl) rfl rfl (by kernel_rfl) (by kernel_rfl) (by kernel_rfl) fun a hF=>e_p (v:=(iV nd_72)) 4 hF rfl (ex_move rfl) rfl rfl (by kernel_rfl) (by kernel_rfl) (by kernel_rfl) fun a hF=>e_p (v:=(iV (w64 (nd_72 - 2)))) 5 hF rfl (ex_ibin rfl rfl rfl) rfl rfl (by kernel_rfl) (by kernel_rfl) (by kernel_rfl) fun a hF=>e_p (v:=(.int .u32 (IntKind.wrap .u32 (t_74 * 2)))) 6 hF rfl (ex_move rfl) rfl rfl (by kernel_rfl) (by kernel_rfl) (by kernel_rfl) fun a hF=>e_p (v:=(.int .u32 (IntKind.wrap .u32 ((IntKind.wrap .u32 (t_74 * 2)) + 1)))) 7 hF rfl (ex_ibin rfl rfl rfl) rfl rfl (by kernel_rfl) (by kernel_rfl) (by kernel_rfl) fun a hF=>?_
     obtain ⟨t_76,ht_76,hj5⟩:=bindS hj5
     refine e_p (v:=(.int .u8 t_76)) 8 hF rfl (ex_strIdx Tryd.underlying9 rfl rfl ht_76) rfl rfl (by kernel_rfl) (by kernel_rfl) (by kernel_rfl) fun a hF=>e_p (v:=(.int .u32 (IntKind.wrap .u32 (t_74 * 2)))) 9 hF rfl (ex_move rfl) rfl rfl (by kernel_rfl) (by kernel_rfl) (by kernel_rfl) fun a hF=>?_
     obtain ⟨t_77,ht_77,hj5⟩:=bindS hj5
     refine e_p (v:=(.int .u8 t_77)) 10 hF rfl (ex_strIdx Tryd.underlying9 rfl rfl ht_77) rfl rfl (by kernel_rfl) (by kernel_rfl) (by kernel_rfl) fun a hF=>?_
     obtain ⟨e_78,he_78,hj5⟩:=bindS hj5
     obtain ⟨vs79,at79,d79⟩:=h71.at he_78 1 rfl
     obtain rfl : vs79 = [(.int .u8 e_78.v)]:=d79
     refine e_p (v:=(elP s1 ((w64 (nd_72 - 1)).toNat * 1))) 11 hF rfl (ex_indexAddr Tryd.underlying22 sz5 rfl rfl (h71.idx he_78)) rfl rfl (by kernel_rfl) (by kernel_rfl) (by kernel_rfl) fun a hF=>e_one 12 (by kernel_rfl) (e_opl rfl rfl rfl fun _ hK=>wp_storeE (e':=(⟨t_76⟩ : K .u8)) (us:=[(.int .u8 t_76)]) (vs:=[(.int .u8 e_78.v)]) 0 hF hS h71 sz5 rfl rfl rfl rfl rfl rfl rfl he_78 at79 rfl rfl rfl fun w q80 hS h80=>hK _ _ (⟨kpN,?_⟩))
     obtain ⟨e_81,he_81,hj5⟩:=bindS hj5
     obtain ⟨vs82,at82,d82⟩:=h80.at he_81 1 rfl
     obtain rfl : vs82 = [(.int .u8 e_81.v)]:=d82
     refine e_p (v:=(elP s1 ((w64 (nd_72 - 2)).toNat * 1))) 13 hF rfl (ex_indexAddr Tryd.underlying22 sz5 rfl rfl (h80.idx he_81)) rfl rfl (by kernel_rfl) (by kernel_rfl) (by kernel_rfl) fun a hF=>e_one 14 (by kernel_rfl) (e_opl rfl rfl rfl fun _ hK=>wp_storeE (e':=(⟨t_77⟩ : K .u8)) (us:=[(.int .u8 t_77)]) (vs:=[(.int .u8 e_81.v)]) 0 hF hS h80 sz5 rfl rfl rfl rfl rfl rfl rfl he_81 at82 rfl rfl rfl fun w q83 hS h83=>hK _ _ (⟨kpN,?_⟩))
     refine e_end (by kernel_rfl) (n_sq ?_) _
     refine q_region (q_x (v:=(iV nd_72)) hF hS (ex_move rfl) rfl rfl fun a hF=>q_x (v:=(iV (w64 (nd_72 - 2)))) hF hS (ex_ibin rfl rfl rfl) rfl rfl fun a hF=>q_x (v:=(iV (w64 (nd_72 - 2)))) hF hS (ex_assign rfl) rfl rfl fun a hF=>q_end (n_jn ?_))
     obtain rfl:=someI hj5
     exact ⟨q83,_,_,_,rfl,hF.sub ⟨rfl,rfl,rfl,trivial⟩,hS,h83⟩
   ·rintro a w ⟨q85,a_84,nd_86,x_87,rfl,hF,hS,h85⟩
    refine n_sq ?_
    refine q_seq (q_region (q_x (v:=(iV nd_86)) hF hS (ex_move rfl) rfl rfl fun a hF=>q_x (v:=(.bool (decide (0 < nd_86)))) hF hS (ex_ibin rfl rfl rfl) rfl rfl fun a hF=>q_end (n_sq ?_)))
    obtain ⟨a_91,hj7,hr⟩:=bindS hr
    refine q_join (fun a w=>∃ (q92 : Piece),Fr a 167 []∧St X w0 w m [q92]∧OwnL m 5 q92 s1 a_91) ?_ ?_
    ·rcases bcase (decide (0 < nd_86)) with hc8 | hc8
     ·have hj7:=cond_f hc8 hj7
      refine q_cond_f hF rfl hc8 (q_skipc (n_jn ?_))
      obtain rfl:=someI hj7
      exact ⟨q85,hF.sub trivial,hS,h85⟩
     ·have hj7:=cond_t hc8 hj7
      refine q_cond_t hF rfl hc8 (q_region (q_x (v:=s1.v) hF hS (ex_move rfl) rfl rfl fun a hF=>q_x (v:=(.int .u32 x_87)) hF hS (ex_move rfl) rfl rfl fun a hF=>q_x (v:=(.int .u32 (IntKind.wrap .u32 (48 + x_87)))) hF hS (ex_ibin rfl rfl rfl) rfl rfl fun a hF=>q_x (v:=(.int .u8 (IntKind.wrap .u8 (IntKind.wrap .u32 (48 + x_87))))) hF hS (ex_conv Tryd.underlying151 Tryd.underlying5 rfl) rfl rfl fun a hF=>?_))
      obtain ⟨e_88,he_88,hj7⟩:=bindS hj7
      obtain ⟨vs89,at89,d89⟩:=h85.at he_88 1 rfl
      obtain rfl : vs89 = [(.int .u8 e_88.v)]:=d89
      refine q_x (v:=(elP s1 ((0 : Int).toNat * 1))) hF hS (ex_indexAddr Tryd.underlying22 sz5 rfl rfl (h85.idx he_88)) rfl rfl fun a hF=>q_do rfl fun _ hK=>wp_storeE (e':=(⟨(IntKind.wrap .u8 (IntKind.wrap .u32 (48 + x_87)))⟩ : K .u8)) (us:=[(.int .u8 (IntKind.wrap .u8 (IntKind.wrap .u32 (48 + x_87))))]) (vs:=[(.int .u8 e_88.v)]) 0 hF hS h85 sz5 rfl rfl rfl rfl rfl rfl rfl he_88 at89 rfl rfl rfl fun w q90 hS h90=>hK _ _ (q_end (n_jn ?_))
      obtain rfl:=someI hj7
      exact ⟨q90,hF.sub trivial,hS,h90⟩
    ·rintro a w ⟨q92,hF,hS,h92⟩
     refine normal_ret ?_
     obtain rfl:=someI hr
     exact ret_ofX hF hS rfl .nil ⟨q92,rfl,hS.sel [0] (by decide),h92⟩

theorem c_internal_strconv_isPowerOfTwo (p_x : Int) (r : Bool) (hr : internal_strconv_isPowerOfTwo p_x = some r) (w0 : World) (m : Mem) (hv : Vis m w0) :
  Ret Tryd.prog 152 [(iV p_x)] w0 (fun v _=>v = (.bool r)):=by
 unfold internal_strconv_isPowerOfTwo at hr
 refine ret_start Tryd.func152 rfl 8 rfl rfl m hv fun a hF hS=>q_seq (q_region (q_x (v:=(.bool false)) hF hS (ex_assign rfl) rfl rfl fun a hF=>q_end (n_sq (q_seq (q_region (q_x (v:=(iV p_x)) hF hS (ex_move rfl) rfl rfl fun a hF=>q_x (v:=(iV p_x)) hF hS (ex_move rfl) rfl rfl fun a hF=>q_x (v:=(iV (w64 (p_x - 1)))) hF hS (ex_ibin rfl rfl rfl) rfl rfl fun a hF=>q_x (v:=(iV (goBits .and .i64 p_x (w64 (p_x - 1))))) hF hS (ex_bits rfl rfl rfl) rfl rfl fun a hF=>q_x (v:=(.bool ((goBits .and .i64 p_x (w64 (p_x - 1))) == 0))) hF hS (ex_ibin rfl rfl rfl) rfl rfl fun a hF=>q_x (v:=(.bool ((goBits .and .i64 p_x (w64 (p_x - 1))) == 0))) hF hS (ex_assign rfl) rfl rfl fun a hF=>q_end (n_sq (q_ret ?_))))))))
 obtain rfl:=someI hr
 exact ret_of hF hS rfl (.tmp rfl .nil) rfl

theorem c_impl_FracText (p_f : impl_Frac) (r : (List UInt8) × Bool) (hr : impl_FracText p_f = some r) (w0 : World) (m : Mem) (hv : Vis m w0) (ht : Tbl m) :
  Ret Tryd.prog 17 [(.agg #[(iV p_f.Num),(iV p_f.Den)])] w0 (fun v _=>v = (.tuple #[(strV r.1),(.bool r.2)])):=by
 unfold impl_FracText at hr
 refine ret_start Tryd.func17 rfl 21 rfl rfl m hv fun a hF hS=>q_seq (q_region (q_box (cs:=[(iV p_f.Num),(iV p_f.Den)]) hF hS rfl rfl rfl fun a w b1 hF hS=>q_x (v:=(strV ([] : List UInt8))) hF hS (ex_assign rfl) rfl rfl fun a hF=>q_x (v:=(.bool false)) hF hS (ex_assign rfl) rfl rfl fun a hF=>q_end (n_sq (q_seq (q_seq (q_region (q_x (v:=(.agg #[(iV p_f.Num),(iV p_f.Den)])) hF hS (ex_loadA (vs:=[(iV p_f.Num),(iV p_f.Den)]) 0 0 Tryd.underlying24 rfl sz24 rfl rfl rfl rfl) rfl rfl fun a hF=>?_)))))))
 obtain ⟨t_2,ht_2,hr⟩:=bindS hr
 refine q_call (vs:=[(.agg #[(iV p_f.Num),(iV p_f.Den)])]) hF hS Tryd.func54 (by kernel_rfl) rfl rfl rfl (c_impl_IsFrac p_f t_2 ht_2 _ m hS.vis) ?_
 rintro a w _ rfl hF hS
 refine q_x (v:=(.bool (!t_2))) hF hS (ex_not rfl) rfl rfl fun a hF=>q_end (n_sq ?_)
 rcases bcase (!t_2) with hc1 | hc1
 ·have hr:=cond_f hc1 hr
  refine q_cond_f hF rfl hc1 (q_skipc (n_sq (q_seq (q_region (q_x (v:=(.pointer (some ⟨b1,0,none⟩))) hF hS (ex_fieldAddr Tryd.underlying24 rfl sz3 rfl rfl) rfl rfl fun a hF=>q_x (v:=(iV p_f.Num)) hF hS (ex_load1 0 0 Tryd.underlying3 rfl rfl rfl rfl) rfl rfl fun a hF=>?_)))))
  obtain ⟨t_3,ht_3,hr⟩:=bindS hr
  refine q_call (vs:=[(iV p_f.Num)]) hF hS Tryd.func68 (by kernel_rfl) rfl rfl rfl (c_strconv_Itoa p_f.Num t_3 ht_3 _ m hS.vis ht) ?_
  rintro a w _ rfl hF hS
  refine q_x (v:=(strV t_3)) hF hS (ex_assign rfl) rfl rfl fun a hF=>q_end (n_sq (q_seq (q_seq (q_region (q_x (v:=(.pointer (some ⟨b1,1,none⟩))) hF hS (ex_fieldAddr Tryd.underlying24 rfl sz3 rfl rfl) rfl rfl fun a hF=>q_x (v:=(iV p_f.Den)) hF hS (ex_load1 0 0 Tryd.underlying3 rfl rfl rfl rfl) rfl rfl fun a hF=>q_x (v:=(.bool (p_f.Den != 1))) hF hS (ex_ibin rfl rfl rfl) rfl rfl fun a hF=>q_end (n_sq ?_))))))
  obtain ⟨text_7,hj2,hr⟩:=bindS hr
  refine q_join (fun a w=>Fr a 21 [(4,(strV text_7))]∧St [] w0 w m []) ?_ ?_
  ·rcases bcase (p_f.Den != 1) with hc3 | hc3
   ·have hj2:=cond_f hc3 hj2
    refine q_cond_f hF rfl hc3 (q_skipc (n_jn ?_))
    obtain rfl:=someI hj2
    exact ⟨hF.sub ⟨rfl,trivial⟩,hS.mask [false]⟩
   ·have hj2:=cond_t hc3 hj2
    refine q_cond_t hF rfl hc3 (q_region (q_x (v:=(strV t_3)) hF hS (ex_move rfl) rfl rfl fun a hF=>q_x (v:=(.pointer (some ⟨b1,1,none⟩))) hF hS (ex_fieldAddr Tryd.underlying24 rfl sz3 rfl rfl) rfl rfl fun a hF=>q_x (v:=(iV p_f.Den)) hF hS (ex_load1 0 0 Tryd.underlying3 rfl rfl rfl rfl) rfl rfl fun a hF=>?_))
    obtain ⟨t_4,ht_4,hj2⟩:=bindS hj2
    refine q_call (vs:=[(iV p_f.Den)]) hF hS Tryd.func68 (by kernel_rfl) rfl rfl rfl (c_strconv_Itoa p_f.Den t_4 ht_4 _ m hS.vis ht) ?_
    rintro a w _ rfl hF hS
    obtain ⟨t_5,ht_5,hj2⟩:=bindS hj2
    refine q_x (v:=(strV t_5)) hF hS (ex_strCat rfl rfl ht_5) rfl rfl fun a hF=>?_
    obtain ⟨t_6,ht_6,hj2⟩:=bindS hj2
    refine q_x (v:=(strV t_6)) hF hS (ex_strCat rfl rfl ht_6) rfl rfl fun a hF=>q_x (v:=(strV t_6)) hF hS (ex_assign rfl) rfl rfl fun a hF=>q_end (n_jn ?_)
    obtain rfl:=someI hj2
    exact ⟨hF.sub ⟨rfl,trivial⟩,hS.mask [false]⟩
  ·rintro a w ⟨hF,hS⟩
   refine n_sq ?_
   refine q_seq (q_region (q_x (v:=(strV text_7)) hF hS (ex_move rfl) rfl rfl fun a hF=>q_x (v:=(strV text_7)) hF hS (ex_assign rfl) rfl rfl fun a hF=>q_x (v:=(.bool true)) hF hS (ex_assign rfl) rfl rfl fun a hF=>q_end (n_sq (q_ret ?_))))
   obtain rfl:=someI hr
   exact ret_of hF hS rfl (.tmp rfl (.tmp rfl .nil)) rfl
 ·have hr:=cond_t hc1 hr
  refine q_cond_t hF rfl hc1 (q_seq (q_region (q_x (v:=(strV ([] : List UInt8))) hF hS (ex_assign rfl) rfl rfl fun a hF=>q_x (v:=(.bool false)) hF hS (ex_assign rfl) rfl rfl fun a hF=>q_end (n_sq (q_ret (r_sq ?_))))))
  obtain rfl:=someI hr
  exact ret_of hF hS rfl (.tmp rfl (.tmp rfl .nil)) rfl

end Go.Proofs.YtgaeknajcakinaaDoor
