/- The walks of the functions: each returns what its plain function says. -/
import Derived.Test.YtpjcfmpfiadkgaaSDefs
import Derived.Test.YtpjcfmpfiadkgaaRows
import Derived.Test.YtpjcfmpfiadkgaaSSort
namespace Go.Proofs.Ytpjcfmpfiadkgaa
open Go.Gx Go.Gx.F Go.RowKit
set_option linter.all false
set_option maxRecDepth 10000

theorem mixed : Try.prog.follows .mixedOrders = true := by kernel_rfl
theorem inf3 : inf Try.prog 3 = some (1, 8, [(.int .i64 0)]) := by kernel_rfl
theorem inf28 : inf Try.prog 28 = some (1, 24, [nilS.v]) := by kernel_rfl
theorem sz3 : szOf Try.prog 3 = some 1 := by kernel_rfl
theorem sz5 : szOf Try.prog 5 = some 1 := by kernel_rfl
theorem sz22 : szOf Try.prog 22 = some 1 := by kernel_rfl
theorem sz28 : szOf Try.prog 28 = some 1 := by kernel_rfl
theorem sz88 : szOf Try.prog 88 = some 1 := by kernel_rfl
theorem sz164 : szOf Try.prog 164 = some 1 := by kernel_rfl

theorem c_spec_l1Cur_next (p_c : spec_l1Cur) (r : Int × spec_l1Cur) (hr : spec_l1Cur_next p_c = some r) (w0 : World) (m : Mem) (b_p_c : Nat) (s1 : Sl) (h1 : Rd m s1 p_c.code) (X : List Nat) (hS : St X w0 w0 m [[⟨b_p_c,[s1.v,(iV p_c.at_),(.int .u64 p_c.seed.v)],90⟩]]) :
  RetX Try.prog 157 [(.pointer (some ⟨b_p_c,0,none⟩))] w0 (fun v w=>v = (iV r.1)∧St X w0 w m [[⟨b_p_c,[s1.v,(iV r.2.at_),(.int .u64 r.2.seed.v)],90⟩]]∧r.2.code = p_c.code):=by
 unfold spec_l1Cur_next at hr
 refine ret_startX Try.func157 rfl 62 rfl rfl fun a hF=>q_seq (q_region (q_x (v:=(iV 0)) hF hS (ex_assign rfl) rfl rfl fun a hF=>q_end (n_sq (q_seq (q_region (q_x (v:=(iV 0)) hF hS (ex_assign rfl) rfl rfl fun a hF=>q_end (n_sq (q_seq (q_seq (e_region ⟨[],[]⟩ mixed fun w' hw'=>?_))))))))))
 have hS:=hS.below hw'
 refine e_p (v:=(.pointer (some ⟨b_p_c,0,none⟩))) 0 hF rfl (ex_move rfl) rfl rfl (by kernel_rfl) (by kernel_rfl) (by kernel_rfl) fun a hF=>e_p (v:=(.pointer (some ⟨b_p_c,0,none⟩))) 1 hF rfl (ex_nilCheck rfl) rfl rfl (by kernel_rfl) (by kernel_rfl) (by kernel_rfl) fun a hF=>e_p (v:=(.pointer (some ⟨b_p_c,1,none⟩))) 2 hF rfl (ex_fieldAddr Try.underlying90 rfl sz3 rfl rfl) rfl rfl (by kernel_rfl) (by kernel_rfl) (by kernel_rfl) fun a hF=>e_x (v:=(iV p_c.at_)) 3 hF hS rfl (ex_load1 0 0 Try.underlying3 rfl rfl rfl rfl) rfl rfl (by kernel_rfl) (by kernel_rfl) (by kernel_rfl) (by kernel_rfl) fun a hF=>e_p (v:=(.pointer (some ⟨b_p_c,0,none⟩))) 4 hF rfl (ex_move rfl) rfl rfl (by kernel_rfl) (by kernel_rfl) (by kernel_rfl) fun a hF=>e_p (v:=(.pointer (some ⟨b_p_c,0,none⟩))) 5 hF rfl (ex_nilCheck rfl) rfl rfl (by kernel_rfl) (by kernel_rfl) (by kernel_rfl) fun a hF=>e_p (v:=(.pointer (some ⟨b_p_c,0,none⟩))) 6 hF rfl (ex_fieldAddr Try.underlying90 rfl sz22 rfl rfl) rfl rfl (by kernel_rfl) (by kernel_rfl) (by kernel_rfl) fun a hF=>e_x (v:=s1.v) 7 hF hS rfl (ex_load1 0 0 Try.underlying22 rfl rfl rfl rfl) rfl rfl (by kernel_rfl) (by kernel_rfl) (by kernel_rfl) (by kernel_rfl) fun a hF=>e_p (v:=(iV (goLen p_c.code))) 8 hF rfl (ex_len Try.underlying22 rfl h1.len) rfl rfl (by kernel_rfl) (by kernel_rfl) (by kernel_rfl) fun a hF=>e_p (v:=(.bool (decide (p_c.at_ < (goLen p_c.code))))) 9 hF rfl (ex_ibin rfl rfl rfl) rfl rfl (by kernel_rfl) (by kernel_rfl) (by kernel_rfl) fun a hF=>e_end (by kernel_rfl) (n_sq ?_) _
 obtain ⟨b_4,hj1,hr⟩:=bindS hr
 refine q_join (fun a w=>Fr a 62 [(0,(.pointer (some ⟨b_p_c,0,none⟩))),(3,(iV b_4))]∧St X w0 w m [[⟨b_p_c,[s1.v,(iV p_c.at_),(.int .u64 p_c.seed.v)],90⟩]]) ?_ ?_
 ·rcases bcase (decide (p_c.at_ < (goLen p_c.code))) with hc2 | hc2
  ·have hj1:=cond_f hc2 hj1
   refine q_cond_f hF rfl hc2 (q_skipc (n_jn ?_))
   obtain rfl:=someI hj1
   exact ⟨hF.sub ⟨rfl,rfl,trivial⟩,hS⟩
  ·have hj1:=cond_t hc2 hj1
   refine q_cond_t hF rfl hc2 (e_region ⟨[],[]⟩ mixed fun w' hw'=>?_)
   have hS:=hS.below hw'
   refine e_p (v:=(.pointer (some ⟨b_p_c,0,none⟩))) 0 hF rfl (ex_move rfl) rfl rfl (by kernel_rfl) (by kernel_rfl) (by kernel_rfl) fun a hF=>e_p (v:=(.pointer (some ⟨b_p_c,0,none⟩))) 1 hF rfl (ex_nilCheck rfl) rfl rfl (by kernel_rfl) (by kernel_rfl) (by kernel_rfl) fun a hF=>e_p (v:=(.pointer (some ⟨b_p_c,0,none⟩))) 2 hF rfl (ex_fieldAddr Try.underlying90 rfl sz22 rfl rfl) rfl rfl (by kernel_rfl) (by kernel_rfl) (by kernel_rfl) fun a hF=>e_x (v:=s1.v) 3 hF hS rfl (ex_load1 0 0 Try.underlying22 rfl rfl rfl rfl) rfl rfl (by kernel_rfl) (by kernel_rfl) (by kernel_rfl) (by kernel_rfl) fun a hF=>e_p (v:=(.pointer (some ⟨b_p_c,0,none⟩))) 4 hF rfl (ex_move rfl) rfl rfl (by kernel_rfl) (by kernel_rfl) (by kernel_rfl) fun a hF=>e_p (v:=(.pointer (some ⟨b_p_c,0,none⟩))) 5 hF rfl (ex_nilCheck rfl) rfl rfl (by kernel_rfl) (by kernel_rfl) (by kernel_rfl) fun a hF=>e_p (v:=(.pointer (some ⟨b_p_c,1,none⟩))) 6 hF rfl (ex_fieldAddr Try.underlying90 rfl sz3 rfl rfl) rfl rfl (by kernel_rfl) (by kernel_rfl) (by kernel_rfl) fun a hF=>e_x (v:=(iV p_c.at_)) 7 hF hS rfl (ex_load1 0 0 Try.underlying3 rfl rfl rfl rfl) rfl rfl (by kernel_rfl) (by kernel_rfl) (by kernel_rfl) (by kernel_rfl) fun a hF=>?_
   obtain ⟨e_2,he_2,hj1⟩:=bindS hj1
   obtain ⟨vs3,at3,d3⟩:=h1.at he_2 1 rfl
   obtain rfl : vs3 = [(.int .u8 e_2.v)]:=d3
   refine e_p (v:=(elP s1 (p_c.at_.toNat * 1))) 8 hF rfl (ex_indexAddr Try.underlying22 sz5 rfl rfl (h1.idx he_2)) rfl rfl (by kernel_rfl) (by kernel_rfl) (by kernel_rfl) fun a hF=>e_x (v:=(.int .u8 e_2.v)) 9 hF hS rfl (ex_loadE1 0 Try.underlying5 rfl rfl ((at3).at) rfl rfl) rfl rfl (by kernel_rfl) (by kernel_rfl) (by kernel_rfl) (by kernel_rfl) fun a hF=>e_p (v:=(iV (w64 e_2.v))) 10 hF rfl (ex_conv Try.underlying5 Try.underlying3 rfl) rfl rfl (by kernel_rfl) (by kernel_rfl) (by kernel_rfl) fun a hF=>e_p (v:=(iV (w64 e_2.v))) 11 hF rfl (ex_assign rfl) rfl rfl (by kernel_rfl) (by kernel_rfl) (by kernel_rfl) fun a hF=>e_end (by kernel_rfl) (n_jn ?_) _
   obtain rfl:=someI hj1
   exact ⟨hF.sub ⟨rfl,rfl,trivial⟩,hS⟩
 ·rintro a w ⟨hF,hS⟩
  refine n_sq ?_
  refine q_seq (q_region (q_x (v:=(.pointer (some ⟨b_p_c,0,none⟩))) hF hS (ex_move rfl) rfl rfl fun a hF=>q_x (v:=(.pointer (some ⟨b_p_c,0,none⟩))) hF hS (ex_nilCheck rfl) rfl rfl fun a hF=>q_x (v:=(.pointer (some ⟨b_p_c,1,none⟩))) hF hS (ex_fieldAddr Try.underlying90 rfl sz3 rfl rfl) rfl rfl fun a hF=>q_x (v:=(iV p_c.at_)) hF hS (ex_load1 0 0 Try.underlying3 rfl rfl rfl rfl) rfl rfl fun a hF=>q_x (v:=(iV (w64 (p_c.at_ + 1)))) hF hS (ex_ibin rfl rfl rfl) rfl rfl fun a hF=>q_x (v:=(.pointer (some ⟨b_p_c,0,none⟩))) hF hS (ex_nilCheck rfl) rfl rfl fun a hF=>q_x (v:=(.pointer (some ⟨b_p_c,1,none⟩))) hF hS (ex_fieldAddr Try.underlying90 rfl sz3 rfl rfl) rfl rfl fun a hF=>q_store (vs:=[(iV (w64 (p_c.at_ + 1)))]) (cs':=[s1.v,(iV (w64 (p_c.at_ + 1))),(.int .u64 p_c.seed.v)]) 0 0 hF hS sz3 rfl rfl rfl rfl rfl rfl rfl rfl fun a w hF hS=>q_end (n_sq (q_seq (q_region (q_x (v:=(.pointer (some ⟨b_p_c,0,none⟩))) hF hS (ex_move rfl) rfl rfl fun a hF=>q_x (v:=(.pointer (some ⟨b_p_c,0,none⟩))) hF hS (ex_move rfl) rfl rfl fun a hF=>q_x (v:=(.pointer (some ⟨b_p_c,0,none⟩))) hF hS (ex_nilCheck rfl) rfl rfl fun a hF=>q_x (v:=(.pointer (some ⟨b_p_c,2,none⟩))) hF hS (ex_fieldAddr Try.underlying90 rfl sz88 rfl rfl) rfl rfl fun a hF=>q_x (v:=(.int .u64 p_c.seed.v)) hF hS (ex_load1 0 0 Try.underlying88 rfl rfl rfl rfl) rfl rfl fun a hF=>q_x (v:=(.int .u64 (IntKind.wrap .u64 (p_c.seed.v * 6364136223846793005)))) hF hS (ex_ibin rfl rfl rfl) rfl rfl fun a hF=>q_x (v:=(iV b_4)) hF hS (ex_move rfl) rfl rfl fun a hF=>q_x (v:=(.int .u64 (IntKind.wrap .u64 b_4))) hF hS (ex_conv Try.underlying3 Try.underlying88 rfl) rfl rfl fun a hF=>q_x (v:=(.int .u64 (IntKind.wrap .u64 ((IntKind.wrap .u64 (p_c.seed.v * 6364136223846793005)) + (IntKind.wrap .u64 b_4))))) hF hS (ex_ibin rfl rfl rfl) rfl rfl fun a hF=>q_x (v:=(.int .u64 (IntKind.wrap .u64 ((IntKind.wrap .u64 ((IntKind.wrap .u64 (p_c.seed.v * 6364136223846793005)) + (IntKind.wrap .u64 b_4))) + 1442695040888963407)))) hF hS (ex_ibin rfl rfl rfl) rfl rfl fun a hF=>q_x (v:=(.pointer (some ⟨b_p_c,0,none⟩))) hF hS (ex_nilCheck rfl) rfl rfl fun a hF=>q_x (v:=(.pointer (some ⟨b_p_c,2,none⟩))) hF hS (ex_fieldAddr Try.underlying90 rfl sz88 rfl rfl) rfl rfl fun a hF=>?_))))))
  refine q_store (vs:=[(.int .u64 (IntKind.wrap .u64 ((IntKind.wrap .u64 ((IntKind.wrap .u64 (p_c.seed.v * 6364136223846793005)) + (IntKind.wrap .u64 b_4))) + 1442695040888963407)))]) (cs':=[s1.v,(iV (w64 (p_c.at_ + 1))),(.int .u64 (IntKind.wrap .u64 ((IntKind.wrap .u64 ((IntKind.wrap .u64 (p_c.seed.v * 6364136223846793005)) + (IntKind.wrap .u64 b_4))) + 1442695040888963407)))]) 0 0 hF hS sz88 rfl rfl rfl rfl rfl rfl rfl rfl fun a w hF hS=>q_end (n_sq (q_seq (q_seq (e_region ⟨[],[]⟩ mixed fun w' hw'=>?_))))
  have hS:=hS.below hw'
  refine e_p (v:=(.pointer (some ⟨b_p_c,0,none⟩))) 0 hF rfl (ex_move rfl) rfl rfl (by kernel_rfl) (by kernel_rfl) (by kernel_rfl) fun a hF=>e_p (v:=(.pointer (some ⟨b_p_c,0,none⟩))) 1 hF rfl (ex_nilCheck rfl) rfl rfl (by kernel_rfl) (by kernel_rfl) (by kernel_rfl) fun a hF=>e_p (v:=(.pointer (some ⟨b_p_c,1,none⟩))) 2 hF rfl (ex_fieldAddr Try.underlying90 rfl sz3 rfl rfl) rfl rfl (by kernel_rfl) (by kernel_rfl) (by kernel_rfl) fun a hF=>e_x (v:=(iV (w64 (p_c.at_ + 1)))) 3 hF hS rfl (ex_load1 0 0 Try.underlying3 rfl rfl rfl rfl) rfl rfl (by kernel_rfl) (by kernel_rfl) (by kernel_rfl) (by kernel_rfl) fun a hF=>e_p (v:=(.pointer (some ⟨b_p_c,0,none⟩))) 4 hF rfl (ex_move rfl) rfl rfl (by kernel_rfl) (by kernel_rfl) (by kernel_rfl) fun a hF=>e_p (v:=(.pointer (some ⟨b_p_c,0,none⟩))) 5 hF rfl (ex_nilCheck rfl) rfl rfl (by kernel_rfl) (by kernel_rfl) (by kernel_rfl) fun a hF=>e_p (v:=(.pointer (some ⟨b_p_c,0,none⟩))) 6 hF rfl (ex_fieldAddr Try.underlying90 rfl sz22 rfl rfl) rfl rfl (by kernel_rfl) (by kernel_rfl) (by kernel_rfl) fun a hF=>e_x (v:=s1.v) 7 hF hS rfl (ex_load1 0 0 Try.underlying22 rfl rfl rfl rfl) rfl rfl (by kernel_rfl) (by kernel_rfl) (by kernel_rfl) (by kernel_rfl) fun a hF=>e_p (v:=(iV (goLen p_c.code))) 8 hF rfl (ex_len Try.underlying22 rfl h1.len) rfl rfl (by kernel_rfl) (by kernel_rfl) (by kernel_rfl) fun a hF=>e_p (v:=(.bool (decide ((w64 (p_c.at_ + 1)) ≤ (goLen p_c.code))))) 9 hF rfl (ex_ibin rfl rfl rfl) rfl rfl (by kernel_rfl) (by kernel_rfl) (by kernel_rfl) fun a hF=>e_end (by kernel_rfl) (n_sq ?_) _
  rcases bcase (decide ((w64 (p_c.at_ + 1)) ≤ (goLen p_c.code))) with hc3 | hc3
  ·have hr:=cond_f hc3 hr
   refine q_cond_f hF rfl hc3 (q_skipc (n_sq (q_seq (q_region (q_x (v:=(.pointer (some ⟨b_p_c,0,none⟩))) hF hS (ex_move rfl) rfl rfl fun a hF=>q_x (v:=(.pointer (some ⟨b_p_c,0,none⟩))) hF hS (ex_nilCheck rfl) rfl rfl fun a hF=>q_x (v:=(.pointer (some ⟨b_p_c,2,none⟩))) hF hS (ex_fieldAddr Try.underlying90 rfl sz88 rfl rfl) rfl rfl fun a hF=>q_x (v:=(.int .u64 (IntKind.wrap .u64 ((IntKind.wrap .u64 ((IntKind.wrap .u64 (p_c.seed.v * 6364136223846793005)) + (IntKind.wrap .u64 b_4))) + 1442695040888963407)))) hF hS (ex_load1 0 0 Try.underlying88 rfl rfl rfl rfl) rfl rfl fun a hF=>?_)))))
   obtain ⟨t_5,ht_5,hr⟩:=bindS hr
   refine q_x (v:=(.int .u64 t_5)) hF hS (ex_shr rfl rfl ht_5) rfl rfl fun a hF=>q_x (v:=(.int .u64 (goBits .and .u64 t_5 255))) hF hS (ex_bits rfl rfl rfl) rfl rfl fun a hF=>q_x (v:=(iV (w64 (goBits .and .u64 t_5 255)))) hF hS (ex_conv Try.underlying88 Try.underlying3 rfl) rfl rfl fun a hF=>q_x (v:=(iV (w64 (goBits .and .u64 t_5 255)))) hF hS (ex_assign rfl) rfl rfl fun a hF=>q_end (n_sq (q_ret ?_))
   obtain rfl:=someI hr
   exact ret_ofX hF hS rfl (.tmp rfl .nil) ⟨rfl,hS.sel [0] (by decide),rfl⟩
  ·have hr:=cond_t hc3 hr
   refine q_cond_t hF rfl hc3 (q_seq (q_region (q_x (v:=(iV b_4)) hF hS (ex_move rfl) rfl rfl fun a hF=>q_x (v:=(iV b_4)) hF hS (ex_assign rfl) rfl rfl fun a hF=>q_end (n_sq (q_ret (r_sq ?_))))))
   obtain rfl:=someI hr
   exact ret_ofX hF hS rfl (.tmp rfl .nil) ⟨rfl,hS.sel [0] (by decide),rfl⟩

theorem c_spec_l1Cur_pick (p_c : spec_l1Cur) (p_n : Int) (r : Int × spec_l1Cur) (hr : spec_l1Cur_pick p_c p_n = some r) (w0 : World) (m : Mem) (b_p_c : Nat) (s1 : Sl) (h1 : Rd m s1 p_c.code) (X : List Nat) (hS : St X w0 w0 m [[⟨b_p_c,[s1.v,(iV p_c.at_),(.int .u64 p_c.seed.v)],90⟩]]) :
  RetX Try.prog 106 [(.pointer (some ⟨b_p_c,0,none⟩)),(iV p_n)] w0 (fun v w=>v = (iV r.1)∧St X w0 w m [[⟨b_p_c,[s1.v,(iV r.2.at_),(.int .u64 r.2.seed.v)],90⟩]]∧r.2.code = p_c.code):=by
 unfold spec_l1Cur_pick at hr
 refine ret_startX Try.func106 rfl 20 rfl rfl fun a hF=>q_seq (q_region (q_x (v:=(iV 0)) hF hS (ex_assign rfl) rfl rfl fun a hF=>q_end (n_sq (q_seq (q_seq (q_region (q_x (v:=(iV p_n)) hF hS (ex_move rfl) rfl rfl fun a hF=>q_x (v:=(.bool (decide (p_n ≤ 1)))) hF hS (ex_ibin rfl rfl rfl) rfl rfl fun a hF=>q_end (n_sq ?_))))))))
 rcases bcase (decide (p_n ≤ 1)) with hc1 | hc1
 ·have hr:=cond_f hc1 hr
  refine q_cond_f hF rfl hc1 (q_skipc (n_sq (q_seq (q_region (q_x (v:=(.pointer (some ⟨b_p_c,0,none⟩))) hF hS (ex_move rfl) rfl rfl fun a hF=>?_)))))
  have hS2 : St _ _ _ _ ([[⟨b_p_c,[s1.v,(iV p_c.at_),(.int .u64 p_c.seed.v)],90⟩]]++[]):=hS
  have hE2:=hS2.enter
  obtain ⟨t_3,ht_3,hr⟩:=bindS hr
  refine q_do rfl fun _ hK=>wp_callX (vs:=[(.pointer (some ⟨b_p_c,0,none⟩))]) hF Try.func157 (by kernel_rfl) rfl rfl rfl (c_spec_l1Cur_next p_c t_3 ht_3 _ m b_p_c s1 h1 _ hE2) fun a w _ hR hF=>hK _ _ ?_
  obtain ⟨rfl,hR2,hk4⟩:=hR
  have hS : St _ _ _ _ [[⟨b_p_c,[s1.v,(iV t_3.2.at_),(.int .u64 t_3.2.seed.v)],90⟩]]:=hS2.leaveF hR2
  have h4 : Rd m s1 t_3.2.code:=by rw [hk4]; exact h1
  refine q_x (v:=(iV t_3.1)) hF hS (ex_assign rfl) rfl rfl fun a hF=>q_end (n_sq (q_seq (q_seq (q_region (q_x (v:=(iV p_n)) hF hS (ex_move rfl) rfl rfl fun a hF=>q_x (v:=(.bool (decide (200 < p_n)))) hF hS (ex_ibin rfl rfl rfl) rfl rfl fun a hF=>q_end (n_sq ?_))))))
  obtain ⟨j2,hj2,hr⟩:=bindS hr
  refine q_join (fun a w=>∃ x_8,∃ p_c_9,j2 = (x_8,p_c_9)∧Fr a 20 [(1,(iV p_n)),(5,(iV x_8))]∧St X w0 w m [[⟨b_p_c,[s1.v,(iV p_c_9.at_),(.int .u64 p_c_9.seed.v)],90⟩]]∧Rd m s1 p_c_9.code∧p_c_9.code = p_c.code) ?_ ?_
  ·rcases bcase (decide (200 < p_n)) with hc3 | hc3
   ·have hj2:=cond_f hc3 hj2
    refine q_cond_f hF rfl hc3 (q_skipc (n_jn ?_))
    obtain rfl:=someI hj2
    exact ⟨_,_,rfl,hF.sub ⟨rfl,rfl,trivial⟩,hS,h4,hk4⟩
   ·have hj2:=cond_t hc3 hj2
    refine q_cond_t hF rfl hc3 (q_region (q_x (v:=(iV t_3.1)) hF hS (ex_move rfl) rfl rfl fun a hF=>q_x (v:=(iV (w64 (t_3.1 * 256)))) hF hS (ex_ibin rfl rfl rfl) rfl rfl fun a hF=>q_x (v:=(.pointer (some ⟨b_p_c,0,none⟩))) hF hS (ex_move rfl) rfl rfl fun a hF=>?_))
    have hS5 : St _ _ _ _ ([[⟨b_p_c,[s1.v,(iV t_3.2.at_),(.int .u64 t_3.2.seed.v)],90⟩]]++[]):=hS
    have hE5:=hS5.enter
    obtain ⟨t_6,ht_6,hj2⟩:=bindS hj2
    refine q_do rfl fun _ hK=>wp_callX (vs:=[(.pointer (some ⟨b_p_c,0,none⟩))]) hF Try.func157 (by kernel_rfl) rfl rfl rfl (c_spec_l1Cur_next t_3.2 t_6 ht_6 _ m b_p_c s1 h4 _ hE5) fun a w _ hR hF=>hK _ _ ?_
    obtain ⟨rfl,hR5,hk7⟩:=hR
    have hS : St _ _ _ _ [[⟨b_p_c,[s1.v,(iV t_6.2.at_),(.int .u64 t_6.2.seed.v)],90⟩]]:=hS5.leaveF hR5
    have h7 : Rd m s1 t_6.2.code:=by rw [hk7]; exact h4
    refine q_x (v:=(iV (w64 ((w64 (t_3.1 * 256)) + t_6.1)))) hF hS (ex_ibin rfl rfl rfl) rfl rfl fun a hF=>q_x (v:=(iV (w64 ((w64 (t_3.1 * 256)) + t_6.1)))) hF hS (ex_assign rfl) rfl rfl fun a hF=>q_end (n_jn ?_)
    obtain rfl:=someI hj2
    exact ⟨_,_,rfl,hF.sub ⟨rfl,rfl,trivial⟩,hS,h7,(hk7.trans hk4)⟩
  ·rintro a w ⟨x_8,p_c_9,rfl,hF,hS,h10,h10k⟩
   refine n_sq ?_
   refine q_seq (q_region (q_x (v:=(iV x_8)) hF hS (ex_move rfl) rfl rfl fun a hF=>q_x (v:=(iV p_n)) hF hS (ex_move rfl) rfl rfl fun a hF=>?_))
   obtain ⟨t_11,ht_11,hr⟩:=bindS hr
   refine q_x (v:=(iV t_11)) hF hS (ex_rem rfl rfl ht_11) rfl rfl fun a hF=>q_x (v:=(iV t_11)) hF hS (ex_assign rfl) rfl rfl fun a hF=>q_end (n_sq (q_ret ?_))
   obtain rfl:=someI hr
   exact ret_ofX hF hS rfl (.tmp rfl .nil) ⟨rfl,hS.sel [0] (by decide),h10k⟩
 ·have hr:=cond_t hc1 hr
  refine q_cond_t hF rfl hc1 (q_seq (q_region (q_x (v:=(iV 0)) hF hS (ex_assign rfl) rfl rfl fun a hF=>q_end (n_sq (q_ret (r_sq ?_))))))
  obtain rfl:=someI hr
  exact ret_ofX hF hS rfl (.tmp rfl .nil) ⟨rfl,hS.sel [0] (by decide),rfl⟩

theorem c_spec_l1Cur_among (p_c : spec_l1Cur) (p_list : List Int) (r : Int × spec_l1Cur) (hr : spec_l1Cur_among p_c p_list = some r) (w0 : World) (m : Mem) (b_p_c : Nat) (s1 : Sl) (h1 : Rd m s1 p_c.code) (s2 : Sl) (h2 : Rd m s2 p_list) (X : List Nat) (hS : St X w0 w0 m [[⟨b_p_c,[s1.v,(iV p_c.at_),(.int .u64 p_c.seed.v)],90⟩]]) :
  RetX Try.prog 74 [(.pointer (some ⟨b_p_c,0,none⟩)),s2.v] w0 (fun v w=>v = (iV r.1)∧St X w0 w m [[⟨b_p_c,[s1.v,(iV r.2.at_),(.int .u64 r.2.seed.v)],90⟩]]∧r.2.code = p_c.code):=by
 unfold spec_l1Cur_among at hr
 refine ret_startX Try.func74 rfl 12 rfl rfl fun a hF=>q_seq (q_region (q_x (v:=(iV 0)) hF hS (ex_assign rfl) rfl rfl fun a hF=>q_end (n_sq (q_seq (q_region (q_x (v:=s2.v) hF hS (ex_move rfl) rfl rfl fun a hF=>q_x (v:=(.pointer (some ⟨b_p_c,0,none⟩))) hF hS (ex_move rfl) rfl rfl fun a hF=>q_x (v:=s2.v) hF hS (ex_move rfl) rfl rfl fun a hF=>q_x (v:=(iV (goLen p_list))) hF hS (ex_len Try.underlying28 rfl h2.len) rfl rfl fun a hF=>?_))))))
 have hS3 : St _ _ _ _ ([[⟨b_p_c,[s1.v,(iV p_c.at_),(.int .u64 p_c.seed.v)],90⟩]]++[]):=hS
 have hE3:=hS3.enter
 obtain ⟨t_4,ht_4,hr⟩:=bindS hr
 refine q_do rfl fun _ hK=>wp_callX (vs:=[(.pointer (some ⟨b_p_c,0,none⟩)),(iV (goLen p_list))]) hF Try.func106 (by kernel_rfl) rfl rfl rfl (c_spec_l1Cur_pick p_c (goLen p_list) t_4 ht_4 _ m b_p_c s1 h1 _ hE3) fun a w _ hR hF=>hK _ _ ?_
 obtain ⟨rfl,hR3,hk5⟩:=hR
 have hS : St _ _ _ _ [[⟨b_p_c,[s1.v,(iV t_4.2.at_),(.int .u64 t_4.2.seed.v)],90⟩]]:=hS3.leaveF hR3
 have h5 : Rd m s1 t_4.2.code:=by rw [hk5]; exact h1
 obtain ⟨e_6,he_6,hr⟩:=bindS hr
 obtain ⟨vs7,at7,d7⟩:=h2.at he_6 1 rfl
 obtain rfl : vs7 = [(iV e_6)]:=d7
 refine q_x (v:=(elP s2 (t_4.1.toNat * 1))) hF hS (ex_indexAddr Try.underlying28 sz3 rfl rfl (h2.idx he_6)) rfl rfl fun a hF=>q_x (v:=(iV e_6)) hF hS (ex_loadE1 0 Try.underlying3 rfl rfl ((at7).at) rfl rfl) rfl rfl fun a hF=>q_x (v:=(iV e_6)) hF hS (ex_assign rfl) rfl rfl fun a hF=>q_end (n_sq (q_ret ?_))
 obtain rfl:=someI hr
 exact ret_ofX hF hS rfl (.tmp rfl .nil) ⟨rfl,hS.sel [0] (by decide),hk5⟩

theorem c_spec_l1Cur_twoWay (p_c : spec_l1Cur) (r : (List (List Int)) × spec_l1Cur) (hr : spec_l1Cur_twoWay p_c = some r) (w0 : World) (m : Mem) (b_p_c : Nat) (s1 : Sl) (h1 : Rd m s1 p_c.code) (X : List Nat) (hS : St X w0 w0 m [[⟨b_p_c,[s1.v,(iV p_c.at_),(.int .u64 p_c.seed.v)],90⟩]]) :
  RetX Try.prog 84 [(.pointer (some ⟨b_p_c,0,none⟩))] w0 (fun v w=>∃ (q0' : Piece) (s0' : Sl),v = s0'.v∧St X w0 w m [[⟨b_p_c,[s1.v,(iV r.2.at_),(.int .u64 r.2.seed.v)],90⟩],q0']∧OwnD m 28 3 q0' s0' r.1∧r.2.code = p_c.code):=by
 unfold spec_l1Cur_twoWay at hr
 refine ret_startX Try.func84 rfl 38 rfl rfl fun a hF=>q_seq (q_region (q_x (v:=nilS.v) hF hS (ex_assign rfl) rfl rfl fun a hF=>q_end (n_sq (q_seq (q_region (q_x (v:=(.pointer (some ⟨b_p_c,0,none⟩))) hF hS (ex_move rfl) rfl rfl fun a hF=>?_))))))
 have hS2 : St _ _ _ _ ([[⟨b_p_c,[s1.v,(iV p_c.at_),(.int .u64 p_c.seed.v)],90⟩]]++[]):=hS
 have hE2:=hS2.enter
 obtain ⟨t_3,ht_3,hr⟩:=bindS hr
 refine q_do rfl fun _ hK=>wp_callX (vs:=[(.pointer (some ⟨b_p_c,0,none⟩)),(iV 4)]) hF Try.func106 (by kernel_rfl) rfl rfl rfl (c_spec_l1Cur_pick p_c 4 t_3 ht_3 _ m b_p_c s1 h1 _ hE2) fun a w _ hR hF=>hK _ _ ?_
 obtain ⟨rfl,hR2,hk4⟩:=hR
 have hS : St _ _ _ _ [[⟨b_p_c,[s1.v,(iV t_3.2.at_),(.int .u64 t_3.2.seed.v)],90⟩]]:=hS2.leaveF hR2
 have h4 : Rd m s1 t_3.2.code:=by rw [hk4]; exact h1
 refine q_x (v:=(iV (w64 (1 + t_3.1)))) hF hS (ex_ibin rfl rfl rfl) rfl rfl fun a hF=>q_x (v:=(.pointer (some ⟨b_p_c,0,none⟩))) hF hS (ex_move rfl) rfl rfl fun a hF=>?_
 have hS5 : St _ _ _ _ ([[⟨b_p_c,[s1.v,(iV t_3.2.at_),(.int .u64 t_3.2.seed.v)],90⟩]]++[]):=hS
 have hE5:=hS5.enter
 obtain ⟨t_6,ht_6,hr⟩:=bindS hr
 refine q_do rfl fun _ hK=>wp_callX (vs:=[(.pointer (some ⟨b_p_c,0,none⟩)),(iV 4)]) hF Try.func106 (by kernel_rfl) rfl rfl rfl (c_spec_l1Cur_pick t_3.2 4 t_6 ht_6 _ m b_p_c s1 h4 _ hE5) fun a w _ hR hF=>hK _ _ ?_
 obtain ⟨rfl,hR5,hk7⟩:=hR
 have hS : St _ _ _ _ [[⟨b_p_c,[s1.v,(iV t_6.2.at_),(.int .u64 t_6.2.seed.v)],90⟩]]:=hS5.leaveF hR5
 have h7 : Rd m s1 t_6.2.code:=by rw [hk7]; exact h4
 refine q_x (v:=(iV (w64 (1 + t_6.1)))) hF hS (ex_ibin rfl rfl rfl) rfl rfl fun a hF=>q_x (v:=(iV (w64 (1 + t_3.1)))) hF hS (ex_assign rfl) rfl rfl fun a hF=>q_x (v:=(iV (w64 (1 + t_6.1)))) hF hS (ex_assign rfl) rfl rfl fun a hF=>q_end (n_sq (q_seq (q_region (q_x (v:=nilS.v) hF hS (ex_assign rfl) rfl rfl fun a hF=>q_end (n_sq (q_seq (q_seq (q_region (q_x (v:=(iV 0)) hF hS (ex_assign rfl) rfl rfl fun a hF=>q_end (n_sq (q_block ?_)))))))))))
 obtain ⟨o1,hl1,hr⟩:=bindS hr
 refine q_loop (fun (s : (List (List Int)) × Int × spec_l1Cur) a w=>∃ (q9 : Piece),∃ (s9 : Sl),∃ out_8,∃ i_10,∃ p_c_11,s = (out_8,i_10,p_c_11)∧Fr a 38 [(0,(.pointer (some ⟨b_p_c,0,none⟩))),(3,(iV (w64 (1 + t_3.1)))),(4,(iV (w64 (1 + t_6.1)))),(5,s9.v),(6,(iV i_10))]∧St X w0 w m [q9,[⟨b_p_c,[s1.v,(iV p_c_11.at_),(.int .u64 p_c_11.seed.v)],90⟩]]∧OwnD m 28 3 q9 s9 out_8∧Rd m s1 p_c_11.code∧p_c_11.code = p_c.code) (fun (o : (List (List Int)) × spec_l1Cur) e a w=>∃ (q36 : Piece),∃ (s36 : Sl),∃ out_35,∃ p_c_37,o = (out_35,p_c_37)∧e = .exit 0∧Fr a 38 [(5,s36.v)]∧St X w0 w m [q36,[⟨b_p_c,[s1.v,(iV p_c_37.at_),(.int .u64 p_c_37.seed.v)],90⟩]]∧OwnD m 28 3 q36 s36 out_35∧Rd m s1 p_c_37.code∧p_c_37.code = p_c.code) hl1 ⟨[],nilS,_,_,_,rfl,hF.sub ⟨rfl,rfl,rfl,rfl,rfl,trivial⟩,hS.sel [1,0] (by decide),(OwnD.nil (β:=Int) m 28 3),h7,(hk7.trans hk4)⟩ ?_ ?_
 ·clear hF hS
  rintro s a w st ⟨q9,s9,out_8,i_10,p_c_11,rfl,hF,hS,h9,h12,h12k⟩ hb1
  unfold spec_l1Cur_twoWay_l1 at hb1
  refine q_seq (q_seq (q_region (q_x (v:=(iV i_10)) hF hS (ex_move rfl) rfl rfl fun a hF=>q_x (v:=(iV (w64 (1 + t_3.1)))) hF hS (ex_move rfl) rfl rfl fun a hF=>q_x (v:=(.bool (decide (i_10 < (w64 (1 + t_3.1)))))) hF hS (ex_ibin rfl rfl rfl) rfl rfl fun a hF=>q_end (n_sq ?_))))
  rcases bcase (decide (i_10 < (w64 (1 + t_3.1)))) with hc2 | hc2
  ·have hb1:=cond_f hc2 hb1
   refine q_cond_f hF rfl hc2 (q_exit (x_sq ?_))
   obtain rfl:=someI hb1
   exact ⟨nofun,.inl ⟨q9,s9,_,_,rfl,rfl,hF.sub ⟨rfl,trivial⟩,hS,h9,h12,h12k⟩⟩
  ·have hb1:=cond_t hc2 hb1
   refine q_cond_t hF rfl hc2 (q_skipc (n_sq (q_seq (q_block (q_seq (q_region (q_x (v:=nilS.v) hF hS (ex_assign rfl) rfl rfl fun a hF=>q_end (n_sq (q_seq (q_seq (q_region (q_x (v:=(iV 0)) hF hS (ex_assign rfl) rfl rfl fun a hF=>q_end (n_sq (q_block ?_))))))))))))))
   obtain ⟨o3,hl3,hb1⟩:=bindS hb1
   refine q_loop (fun (s : (List Int) × Int × spec_l1Cur) a w=>∃ (q14 : Piece),∃ (s14 : Sl),∃ row_13,∃ j_15,∃ p_c_16,s = (row_13,j_15,p_c_16)∧Fr a 38 [(0,(.pointer (some ⟨b_p_c,0,none⟩))),(3,(iV (w64 (1 + t_3.1)))),(4,(iV (w64 (1 + t_6.1)))),(5,s9.v),(6,(iV i_10)),(7,s14.v),(8,(iV j_15))]∧St X w0 w m [q14,q9,[⟨b_p_c,[s1.v,(iV p_c_16.at_),(.int .u64 p_c_16.seed.v)],90⟩]]∧OwnL m 3 q14 s14 row_13∧Rd m s1 p_c_16.code∧p_c_16.code = p_c.code) (fun (o : (List Int) × spec_l1Cur) e a w=>∃ (q29 : Piece),∃ (s29 : Sl),∃ row_28,∃ p_c_30,o = (row_28,p_c_30)∧e = .exit 2∧Fr a 38 [(0,(.pointer (some ⟨b_p_c,0,none⟩))),(3,(iV (w64 (1 + t_3.1)))),(4,(iV (w64 (1 + t_6.1)))),(5,s9.v),(6,(iV i_10)),(7,s29.v)]∧St X w0 w m [q9,q29,[⟨b_p_c,[s1.v,(iV p_c_30.at_),(.int .u64 p_c_30.seed.v)],90⟩]]∧OwnL m 3 q29 s29 row_28∧Rd m s1 p_c_30.code∧p_c_30.code = p_c.code) hl3 ⟨[],nilS,_,_,_,rfl,hF.sub ⟨rfl,rfl,rfl,rfl,rfl,rfl,rfl,trivial⟩,hS.sel [2,0,1] (by decide),(OwnL.nil (α:=Int) m 3),h12,h12k⟩ ?_ ?_
   ·clear hF hS
    rintro s a w st ⟨q14,s14,row_13,j_15,p_c_16,rfl,hF,hS,h14,h17,h17k⟩ hb3
    unfold spec_l1Cur_twoWay_l2 at hb3
    refine q_seq (q_seq (q_region (q_x (v:=(iV j_15)) hF hS (ex_move rfl) rfl rfl fun a hF=>q_x (v:=(iV (w64 (1 + t_6.1)))) hF hS (ex_move rfl) rfl rfl fun a hF=>q_x (v:=(.bool (decide (j_15 < (w64 (1 + t_6.1)))))) hF hS (ex_ibin rfl rfl rfl) rfl rfl fun a hF=>q_end (n_sq ?_))))
    rcases bcase (decide (j_15 < (w64 (1 + t_6.1)))) with hc4 | hc4
    ·have hb3:=cond_f hc4 hb3
     refine q_cond_f hF rfl hc4 (q_exit (x_sq ?_))
     obtain rfl:=someI hb3
     exact ⟨nofun,.inl ⟨q14,s14,_,_,rfl,rfl,hF.sub ⟨rfl,rfl,rfl,rfl,rfl,rfl,trivial⟩,hS.sel [1,0,2] (by decide),h14,h17,h17k⟩⟩
    ·have hb3:=cond_t hc4 hb3
     refine q_cond_t hF rfl hc4 (q_skipc (n_sq (q_seq (q_block (q_region (q_x (v:=s14.v) hF hS (ex_move rfl) rfl rfl fun a hF=>q_x (v:=(.pointer (some ⟨b_p_c,0,none⟩))) hF hS (ex_move rfl) rfl rfl fun a hF=>q_x (v:=(.pointer (some ⟨b_p_c,0,none⟩))) hF hS (ex_move rfl) rfl rfl fun a hF=>?_))))))
     have hS : St _ _ _ _ [[⟨b_p_c,[s1.v,(iV p_c_16.at_),(.int .u64 p_c_16.seed.v)],90⟩],q14,q9]:=hS.sel [2,0,1] (by decide)
     have hS18 : St _ _ _ _ ([[⟨b_p_c,[s1.v,(iV p_c_16.at_),(.int .u64 p_c_16.seed.v)],90⟩]]++[q14,q9]):=hS
     have hE18:=hS18.enter
     obtain ⟨t_19,ht_19,hb3⟩:=bindS hb3
     refine q_do rfl fun _ hK=>wp_callX (vs:=[(.pointer (some ⟨b_p_c,0,none⟩)),(iV 30)]) hF Try.func106 (by kernel_rfl) rfl rfl rfl (c_spec_l1Cur_pick p_c_16 30 t_19 ht_19 _ m b_p_c s1 h17 _ hE18) fun a w _ hR hF=>hK _ _ ?_
     obtain ⟨rfl,hR18,hk20⟩:=hR
     have hS : St _ _ _ _ [[⟨b_p_c,[s1.v,(iV t_19.2.at_),(.int .u64 t_19.2.seed.v)],90⟩],q14,q9]:=hS18.leaveF hR18
     have h20 : Rd m s1 t_19.2.code:=by rw [hk20]; exact h17
     refine q_do rfl fun _ hK=>wp_buildSlice' (l:=([0,1,2,3,5,9,t_19.1] : List Int)) (cells:=[(iV 0),(iV 1),(iV 2),(iV 3),(iV 5),(iV 9),(iV t_19.1)]) hF hS Try.underlying28 inf3 rfl rfl (by kernel_rfl) rfl rfl rfl ⟨rfl,rfl,rfl,rfl,rfl,rfl,rfl,rfl⟩ rfl rfl fun a w q21 s21 hF hS h21 _=>hK _ _ ?_
     have hS : St _ _ _ _ [[⟨b_p_c,[s1.v,(iV t_19.2.at_),(.int .u64 t_19.2.seed.v)],90⟩],q21,q14,q9]:=hS.sel [1,0,2,3] (by decide)
     have hS22 : St _ _ _ _ ([[⟨b_p_c,[s1.v,(iV t_19.2.at_),(.int .u64 t_19.2.seed.v)],90⟩]]++[q21,q14,q9]):=hS
     obtain ⟨m22,hl22,hE22,hz22⟩:=hS22.lendX
     obtain ⟨t_23,ht_23,hb3⟩:=bindS hb3
     refine q_do rfl fun _ hK=>wp_callX (vs:=[(.pointer (some ⟨b_p_c,0,none⟩)),s21.v]) hF Try.func74 (by kernel_rfl) rfl rfl rfl (c_spec_l1Cur_among t_19.2 ([0,1,2,3,5,9,t_19.1] : List Int) t_23 ht_23 _ m22 b_p_c s1 (h20.mono hl22) s21 (h21.froz hl22 (hz22 0 _ rfl)) _ hE22) fun a w _ hR hF=>hK _ _ ?_
     obtain ⟨rfl,hR22,hk24⟩:=hR
     have hS : St _ _ _ _ [[⟨b_p_c,[s1.v,(iV t_23.2.at_),(.int .u64 t_23.2.seed.v)],90⟩],q21,q14,q9]:=hS22.leaveF hR22
     have h24 : Rd m s1 t_23.2.code:=by rw [hk24]; exact h20
     refine q_do rfl fun _ hK=>wp_buildSlice' (l:=([t_23.1] : List Int)) (cells:=[(iV t_23.1)]) hF hS Try.underlying28 inf3 rfl rfl (by kernel_rfl) rfl rfl rfl ⟨rfl,rfl⟩ rfl rfl fun a w q25 s25 hF hS h25 _=>hK _ _ ?_
     have hS : St _ _ _ _ [q14,q25,[⟨b_p_c,[s1.v,(iV t_23.2.at_),(.int .u64 t_23.2.seed.v)],90⟩],q21,q9]:=hS.sel [3,0,1,2,4] (by decide)
     obtain ⟨l_26,hl_26,hb3⟩:=bindS hb3
     refine q_do rfl fun _ hK=>wp_append hF hS h14 Try.underlying28 inf3 rfl rfl rfl rfl (h25.vw hS (j:=1) rfl) rfl (by decide) hl_26 rfl fun a w q27 s27 hF hS h27=>hK _ _ (q_x (v:=s27.v) hF hS (ex_assign rfl) rfl rfl fun a hF=>q_end (n_ib (n_sq (q_region (q_x (v:=(iV j_15)) hF hS (ex_move rfl) rfl rfl fun a hF=>q_x (v:=(iV (w64 (j_15 + 1)))) hF hS (ex_ibin rfl rfl rfl) rfl rfl fun a hF=>q_x (v:=(iV (w64 (j_15 + 1)))) hF hS (ex_assign rfl) rfl rfl fun a hF=>q_end ?_)))))
     obtain rfl:=someI hb3
     exact ⟨rfl,q27,s27,_,_,_,rfl,hF.sub ⟨rfl,rfl,rfl,rfl,rfl,rfl,rfl,trivial⟩,hS.sel [0,4,2] (by decide),h27,h24,(hk24.trans (hk20.trans h17k))⟩
   ·rintro e a w ⟨q29,s29,row_28,p_c_30,rfl,rfl,hF,hS,h29,h31,h31k⟩
    refine x_ib (n_sq ?_)
    refine q_region (q_x (v:=s9.v) hF hS (ex_move rfl) rfl rfl fun a hF=>q_x (v:=s29.v) hF hS (ex_move rfl) rfl rfl fun a hF=>?_)
    have hS : St _ _ _ _ [q29,q9,[⟨b_p_c,[s1.v,(iV p_c_30.at_),(.int .u64 p_c_30.seed.v)],90⟩]]:=hS.sel [1,0,2] (by decide)
    refine q_do rfl fun _ hK=>wp_build1D hF hS h29 Try.underlying23 inf28 rfl rfl rfl fun a w q32 s32 hF hS h32 _=>hK _ _ ?_
    have hS : St _ _ _ _ [q9,q32,[⟨b_p_c,[s1.v,(iV p_c_30.at_),(.int .u64 p_c_30.seed.v)],90⟩]]:=hS.sel [1,0,2] (by decide)
    obtain ⟨l_33,hl_33,hb1⟩:=bindS hb1
    refine q_do rfl fun _ hK=>wp_appendD hF hS h9 h32 Try.underlying23 inf28 rfl rfl rfl (by decide) hl_33 rfl fun a w q34 s34 hF hS h34=>hK _ _ (q_x (v:=s34.v) hF hS (ex_assign rfl) rfl rfl fun a hF=>q_end (n_ib (n_sq (q_region (q_x (v:=(iV i_10)) hF hS (ex_move rfl) rfl rfl fun a hF=>q_x (v:=(iV (w64 (i_10 + 1)))) hF hS (ex_ibin rfl rfl rfl) rfl rfl fun a hF=>q_x (v:=(iV (w64 (i_10 + 1)))) hF hS (ex_assign rfl) rfl rfl fun a hF=>q_end ?_)))))
    obtain rfl:=someI hb1
    exact ⟨rfl,q34,s34,_,_,_,rfl,hF.sub ⟨rfl,rfl,rfl,rfl,rfl,trivial⟩,hS,h34,h31,h31k⟩
 ·rintro e a w ⟨q36,s36,out_35,p_c_37,rfl,rfl,hF,hS,h36,h38,h38k⟩
  refine x_ib (n_sq ?_)
  refine q_seq (q_region (q_x (v:=s36.v) hF hS (ex_move rfl) rfl rfl fun a hF=>q_x (v:=s36.v) hF hS (ex_assign rfl) rfl rfl fun a hF=>q_end (n_sq (q_ret ?_))))
  obtain rfl:=someI hr
  exact ret_ofX hF hS rfl (.tmp rfl .nil) ⟨q36,s36,rfl,hS.sel [1,0] (by decide),h36,h38k⟩

theorem c_spec_l1Cur_anyTwoWay (p_c : spec_l1Cur) (r : (List (List Int)) × spec_l1Cur) (hr : spec_l1Cur_anyTwoWay p_c = some r) (w0 : World) (m : Mem) (b_p_c : Nat) (s1 : Sl) (h1 : Rd m s1 p_c.code) (X : List Nat) (hS : St X w0 w0 m [[⟨b_p_c,[s1.v,(iV p_c.at_),(.int .u64 p_c.seed.v)],90⟩]]) :
  RetX Try.prog 73 [(.pointer (some ⟨b_p_c,0,none⟩))] w0 (fun v w=>∃ (q0' : Piece) (s0' : Sl),v = s0'.v∧St X w0 w m [[⟨b_p_c,[s1.v,(iV r.2.at_),(.int .u64 r.2.seed.v)],90⟩],q0']∧OwnD m 28 3 q0' s0' r.1∧r.2.code = p_c.code):=by
 unfold spec_l1Cur_anyTwoWay at hr
 refine ret_startX Try.func73 rfl 35 rfl rfl fun a hF=>q_seq (q_region (q_x (v:=nilS.v) hF hS (ex_assign rfl) rfl rfl fun a hF=>q_end (n_sq (q_seq (q_region (q_x (v:=(.pointer (some ⟨b_p_c,0,none⟩))) hF hS (ex_move rfl) rfl rfl fun a hF=>?_))))))
 have hS2 : St _ _ _ _ ([[⟨b_p_c,[s1.v,(iV p_c.at_),(.int .u64 p_c.seed.v)],90⟩]]++[]):=hS
 have hE2:=hS2.enter
 obtain ⟨t_3,ht_3,hr⟩:=bindS hr
 refine q_do rfl fun _ hK=>wp_callX (vs:=[(.pointer (some ⟨b_p_c,0,none⟩))]) hF Try.func84 (by kernel_rfl) rfl rfl rfl (c_spec_l1Cur_twoWay p_c t_3 ht_3 _ m b_p_c s1 h1 _ hE2) fun a w _ hR hF=>hK _ _ ?_
 obtain ⟨q4,s4,rfl,hR2,h4,hk5⟩:=hR
 have hS : St _ _ _ _ [[⟨b_p_c,[s1.v,(iV t_3.2.at_),(.int .u64 t_3.2.seed.v)],90⟩],q4]:=hS2.leaveF hR2
 have h5 : Rd m s1 t_3.2.code:=by rw [hk5]; exact h1
 refine q_x (v:=s4.v) hF hS (ex_assign rfl) rfl rfl fun a hF=>q_end (n_sq (q_seq (q_seq (q_region (q_x (v:=(.pointer (some ⟨b_p_c,0,none⟩))) hF hS (ex_move rfl) rfl rfl fun a hF=>?_)))))
 have hS6 : St _ _ _ _ ([[⟨b_p_c,[s1.v,(iV t_3.2.at_),(.int .u64 t_3.2.seed.v)],90⟩]]++[q4]):=hS
 have hE6:=hS6.enter
 obtain ⟨t_7,ht_7,hr⟩:=bindS hr
 refine q_do rfl fun _ hK=>wp_callX (vs:=[(.pointer (some ⟨b_p_c,0,none⟩)),(iV 24)]) hF Try.func106 (by kernel_rfl) rfl rfl rfl (c_spec_l1Cur_pick t_3.2 24 t_7 ht_7 _ m b_p_c s1 h5 _ hE6) fun a w _ hR hF=>hK _ _ ?_
 obtain ⟨rfl,hR6,hk8⟩:=hR
 have hS : St _ _ _ _ [[⟨b_p_c,[s1.v,(iV t_7.2.at_),(.int .u64 t_7.2.seed.v)],90⟩],q4]:=hS6.leaveF hR6
 have h8 : Rd m s1 t_7.2.code:=by rw [hk8]; exact h5
 refine q_end (n_sq (q_block (q_seq (q_region (q_x (v:=(.bool (t_7.1 == 0))) hF hS (ex_ibin rfl rfl rfl) rfl rfl fun a hF=>q_x (v:=(.bool (t_7.1 == 0))) hF hS (ex_assign rfl) rfl rfl fun a hF=>q_end (n_sq ?_))))))
 obtain ⟨j1,hj1,hr⟩:=bindS hr
 refine q_join (fun a w=>∃ (q40 : Piece),∃ x_39,∃ p_c_41,j1 = .inl (x_39,p_c_41)∧Fr a 35 [(3,s4.v)]∧St X w0 w m [q40,[⟨b_p_c,[s1.v,(iV p_c_41.at_),(.int .u64 p_c_41.seed.v)],90⟩]]∧OwnD m 28 3 q40 s4 x_39∧Rd m s1 p_c_41.code∧p_c_41.code = p_c.code) ?_ ?_
 ·rcases bcase (t_7.1 == 0) with hc2 | hc2
  ·have hj1:=cond_f hc2 hj1
   refine q_cond_f hF rfl hc2 (q_seq (q_region (q_x (v:=(.bool (t_7.1 == 1))) hF hS (ex_ibin rfl rfl rfl) rfl rfl fun a hF=>q_x (v:=(.bool (t_7.1 == 1))) hF hS (ex_assign rfl) rfl rfl fun a hF=>q_end (n_sq ?_))))
   obtain ⟨j3,hj3,hj1⟩:=bindS hj1
   refine q_join (fun a w=>∃ (q24 : Piece),∃ x_23,j3 = .inl x_23∧Fr a 35 [(3,s4.v)]∧St X w0 w m [q24,[⟨b_p_c,[s1.v,(iV t_7.2.at_),(.int .u64 t_7.2.seed.v)],90⟩]]∧OwnD m 28 3 q24 s4 x_23) ?_ ?_
   ·rcases bcase (t_7.1 == 1) with hc4 | hc4
    ·have hj3:=cond_f hc4 hj3
     refine q_cond_f hF rfl hc4 (q_seq (q_region (q_x (v:=(.bool (t_7.1 == 2))) hF hS (ex_ibin rfl rfl rfl) rfl rfl fun a hF=>q_x (v:=(.bool (t_7.1 == 2))) hF hS (ex_assign rfl) rfl rfl fun a hF=>q_end (n_sq ?_))))
     rcases bcase (t_7.1 == 2) with hc5 | hc5
     ·have hj3:=cond_f hc5 hj3
      refine q_cond_f hF rfl hc5 (q_seq (q_region (q_x (v:=(.bool (t_7.1 == 3))) hF hS (ex_ibin rfl rfl rfl) rfl rfl fun a hF=>q_x (v:=(.bool (t_7.1 == 3))) hF hS (ex_assign rfl) rfl rfl fun a hF=>q_end (n_sq ?_))))
      rcases bcase (t_7.1 == 3) with hc6 | hc6
      ·have hj3:=cond_f hc6 hj3
       refine q_cond_f hF rfl hc6 (q_skipc (n_jn ?_))
       obtain rfl:=someI hj3
       exact ⟨q4,_,rfl,hF.sub ⟨rfl,trivial⟩,hS.sel [1,0] (by decide),h4⟩
      ·have hj3:=cond_t hc6 hj3
       refine q_cond_t hF rfl hc6 (q_seq (q_region (q_x (v:=(.pointer (some ⟨b_p_c,0,none⟩))) hF hS (ex_move rfl) rfl rfl fun a hF=>?_)))
       have hS9 : St _ _ _ _ ([[⟨b_p_c,[s1.v,(iV t_7.2.at_),(.int .u64 t_7.2.seed.v)],90⟩]]++[q4]):=hS
       have hE9:=hS9.enter
       obtain ⟨t_10,ht_10,hj3⟩:=bindS hj3
       refine q_do rfl fun _ hK=>wp_callX (vs:=[(.pointer (some ⟨b_p_c,0,none⟩)),(iV 2)]) hF Try.func106 (by kernel_rfl) rfl rfl rfl (c_spec_l1Cur_pick t_7.2 2 t_10 ht_10 _ m b_p_c s1 h8 _ hE9) fun a w _ hR hF=>hK _ _ ?_
       obtain ⟨rfl,hR9,hk11⟩:=hR
       have hS : St _ _ _ _ [[⟨b_p_c,[s1.v,(iV t_10.2.at_),(.int .u64 t_10.2.seed.v)],90⟩],q4]:=hS9.leaveF hR9
       have h11 : Rd m s1 t_10.2.code:=by rw [hk11]; exact h8
       refine q_x (v:=(iV (w64 (1 + t_10.1)))) hF hS (ex_ibin rfl rfl rfl) rfl rfl fun a hF=>?_
       obtain ⟨l_12,hl_12,hj3⟩:=bindS hj3
       refine q_do rfl fun _ hK=>wp_makeD (Ei:=3) hF hS Try.underlying23 inf28 rfl rfl rfl (by decide) hl_12 rfl fun a w q13 s13 hF hS h13 _=>hK _ _ (q_x (v:=s13.v) hF hS (ex_assign rfl) rfl rfl fun a hF=>q_end (n_sq (q_ret (r_jn ?_))))
       obtain rfl:=someI hj3
       refine r_jn ?_
       obtain rfl:=someI hj1
       refine r_ib (r_sq ?_)
       obtain rfl:=someI hr
       exact ret_ofX hF hS rfl (.tmp rfl .nil) ⟨q13,s13,rfl,hS.sel [1,0] (by decide),h13,(hk11.trans (hk8.trans hk5))⟩
     ·have hj3:=cond_t hc5 hj3
      refine q_cond_t hF rfl hc5 (q_seq (q_region (q_x (v:=nilS.v) hF hS (ex_assign rfl) rfl rfl fun a hF=>q_end (n_sq (q_ret (r_jn ?_))))))
      obtain rfl:=someI hj3
      refine r_jn ?_
      obtain rfl:=someI hj1
      refine r_ib (r_sq ?_)
      obtain rfl:=someI hr
      exact ret_ofX hF hS rfl (.tmp rfl .nil) ⟨[],nilS,rfl,hS.sel [0,2] (by decide),(OwnD.nil (β:=Int) m 28 3),(hk8.trans hk5)⟩
    ·have hj3:=cond_t hc4 hj3
     refine q_cond_t hF rfl hc4 (q_region (q_x (v:=s4.v) hF hS (ex_move rfl) rfl rfl fun a hF=>q_x (v:=s4.v) hF hS (ex_move rfl) rfl rfl fun a hF=>?_))
     obtain ⟨e_14,he_14,hj3⟩:=bindS hj3
     obtain ⟨s15,hV15⟩:=h4.view he_14
     refine q_x (v:=(elP s4 ((0 : Int).toNat * 1))) hF hS (ex_indexAddr Try.underlying23 sz28 rfl rfl (h4.idx he_14)) rfl rfl fun a hF=>q_x (v:=s15.v) hF hS (ex_loadE1 0 Try.underlying28 rfl rfl ((hV15.atH he_14).at 1 rfl) rfl rfl) rfl rfl fun a hF=>q_do rfl fun _ hK=>wp_buildSlice' (l:=([0] : List Int)) (cells:=[(iV 0)]) hF hS Try.underlying28 inf3 rfl rfl (by kernel_rfl) rfl rfl rfl ⟨rfl,rfl⟩ rfl rfl fun a w q16 s16 hF hS h16 _=>hK _ _ ?_
     have hS : St _ _ _ _ [q4,q16,[⟨b_p_c,[s1.v,(iV t_7.2.at_),(.int .u64 t_7.2.seed.v)],90⟩]]:=hS.sel [2,0,1] (by decide)
     obtain ⟨q17,q17',hS,h17,h17'⟩:=hS.takeV hV15 he_14
     obtain ⟨l_18,hl_18,hj3⟩:=bindS hj3
     refine q_do rfl fun _ hK=>wp_append hF hS h17 Try.underlying28 inf3 rfl rfl rfl rfl (h16.vw hS (j:=2) rfl) rfl (by decide) hl_18 rfl fun a w q19 s19 hF hS h19=>hK _ _ ?_
     obtain ⟨e_20,he_20,hj3⟩:=bindS hj3
     refine q_x (v:=(elP s4 ((0 : Int).toNat * 1))) hF hS (ex_indexAddr Try.underlying23 sz28 rfl rfl (h17'.idx he_20)) rfl rfl fun a hF=>?_
     have hS : St _ _ _ _ [q17',q19,q16,[⟨b_p_c,[s1.v,(iV t_7.2.at_),(.int .u64 t_7.2.seed.v)],90⟩]]:=hS.sel [1,0,2,3] (by decide)
     refine q_do rfl fun _ hK=>wp_storeH hF hS h17' h19 sz28 rfl rfl he_20 rfl fun w q22 hS h22=>hK _ _ (q_end (n_jn ?_))
     obtain rfl:=someI hj3
     exact ⟨q22,_,rfl,hF.sub ⟨rfl,trivial⟩,hS.mask [true,false,true],h22⟩
   ·rintro a w ⟨q24,x_23,rfl,hF,hS,h24⟩
    refine n_jn ?_
    obtain rfl:=someI hj1
    exact ⟨q24,_,_,rfl,hF.sub ⟨rfl,trivial⟩,hS,h24,h8,(hk8.trans hk5)⟩
  ·have hj1:=cond_t hc2 hj1
   refine q_cond_t hF rfl hc2 ?_
   obtain ⟨j7,hj7,hj1⟩:=bindS hj1
   refine q_join (fun a w=>∃ (q36 : Piece),∃ x_35,∃ p_c_37,j7 = (x_35,p_c_37)∧Fr a 35 [(3,s4.v)]∧St X w0 w m [q36,[⟨b_p_c,[s1.v,(iV p_c_37.at_),(.int .u64 p_c_37.seed.v)],90⟩]]∧OwnD m 28 3 q36 s4 x_35∧Rd m s1 p_c_37.code∧p_c_37.code = p_c.code) ?_ ?_
   ·refine e_region ⟨[5,7],[]⟩ mixed fun w' hw'=>?_
    have hS:=hS.below hw'
    refine e_p (v:=s4.v) 0 hF rfl (ex_move rfl) rfl rfl (by kernel_rfl) (by kernel_rfl) (by kernel_rfl) fun a hF=>?_
    obtain ⟨e_25,he_25,hj7⟩:=bindS hj7
    obtain ⟨s26,hV26⟩:=h4.view he_25
    refine e_p (v:=(elP s4 ((0 : Int).toNat * 1))) 1 hF rfl (ex_indexAddr Try.underlying23 sz28 rfl rfl (h4.idx he_25)) rfl rfl (by kernel_rfl) (by kernel_rfl) (by kernel_rfl) fun a hF=>e_p (v:=(.pointer (some ⟨b_p_c,0,none⟩))) 3 hF rfl (ex_move rfl) rfl rfl (by kernel_rfl) (by kernel_rfl) (by kernel_rfl) fun a hF=>?_
    obtain ⟨t_30,ht_30,hj7⟩:=bindS hj7
    obtain ⟨e_32,he_32,hj7⟩:=bindS hj7
    refine e_all [2,4] (by kernel_rfl) rfl ⟨?_,?_,trivial⟩
    ·refine e_lx (v:=s26.v) hF hS rfl (ex_loadE1 0 Try.underlying28 rfl rfl ((hV26.atH he_25).at 1 rfl) rfl rfl) rfl rfl fun a hF=>e_one 4 (by kernel_rfl) (e_op rfl rfl fun _ hK=>wp_buildSlice' (l:=([-1,1000,1001] : List Int)) (cells:=[(iV (-1)),(iV 1000),(iV 1001)]) hF hS Try.underlying28 inf3 rfl rfl (by kernel_rfl) rfl rfl rfl ⟨rfl,rfl,rfl,rfl⟩ rfl rfl fun a w q28 s28 hF hS h28 hb=>hK _ _ hb (e_one 5 (by kernel_rfl) ?_))
     have hS : St _ _ _ _ [[⟨b_p_c,[s1.v,(iV t_7.2.at_),(.int .u64 t_7.2.seed.v)],90⟩],q28,q4]:=hS.sel [1,0,2] (by decide)
     have hS29 : St _ _ _ _ ([[⟨b_p_c,[s1.v,(iV t_7.2.at_),(.int .u64 t_7.2.seed.v)],90⟩]]++[q28,q4]):=hS
     obtain ⟨m29,hl29,hE29,hz29⟩:=hS29.lendX
     refine e_opl rfl rfl rfl fun _ hK=>wp_callX (vs:=[(.pointer (some ⟨b_p_c,0,none⟩)),s28.v]) hF Try.func74 (by kernel_rfl) rfl rfl rfl (c_spec_l1Cur_among t_7.2 ([-1,1000,1001] : List Int) t_30 ht_30 _ m29 b_p_c s1 (h8.mono hl29) s28 (h28.froz hl29 (hz29 0 _ rfl)) _ hE29) fun a w _ hR hF=>hK _ _ ?_
     obtain ⟨rfl,hR29,hk31⟩:=hR
     have hS : St _ _ _ _ [[⟨b_p_c,[s1.v,(iV t_30.2.at_),(.int .u64 t_30.2.seed.v)],90⟩],q28,q4]:=hS29.leaveF hR29
     have h31 : Rd m s1 t_30.2.code:=by rw [hk31]; exact h8
     refine ⟨kpN,?_⟩
     obtain ⟨vs33,at33,d33⟩:=hV26.at he_25 he_32 1 rfl
     obtain rfl : vs33 = [(iV e_32)]:=d33
     refine e_p (v:=(elP s26 ((0 : Int).toNat * 1))) 6 hF rfl (ex_indexAddr Try.underlying28 sz3 rfl rfl (hV26.idx he_25 he_32)) rfl rfl (by kernel_rfl) (by kernel_rfl) (by kernel_rfl) fun a hF=>e_one 7 (by kernel_rfl) ?_
     have hS : St _ _ _ _ [q4,[⟨b_p_c,[s1.v,(iV t_30.2.at_),(.int .u64 t_30.2.seed.v)],90⟩],q28]:=hS.sel [2,0,1] (by decide)
     refine e_opl rfl rfl rfl fun _ hK=>wp_storeV (e':=t_30.1) (us:=[(iV t_30.1)]) (vs:=[(iV e_32)]) 0 hF hS hV26 he_25 sz3 rfl rfl rfl rfl rfl rfl rfl he_32 at33 rfl rfl rfl fun w q34 hS h34=>hK _ _ (⟨kpN,?_⟩)
     refine e_end (by kernel_rfl) (n_jn ?_) _
     obtain rfl:=someI hj7
     exact ⟨q34,_,_,rfl,hF.sub ⟨rfl,trivial⟩,hS.mask [true,true,false],h34.own,h31,(hk31.trans (hk8.trans hk5))⟩
    ·refine e_op rfl rfl fun _ hK=>wp_buildSlice' (l:=([-1,1000,1001] : List Int)) (cells:=[(iV (-1)),(iV 1000),(iV 1001)]) hF hS Try.underlying28 inf3 rfl rfl (by kernel_rfl) rfl rfl rfl ⟨rfl,rfl,rfl,rfl⟩ rfl rfl fun a w q28 s28 hF hS h28 hb=>hK _ _ hb (e_all [2,5] (by kernel_rfl) rfl ⟨?_,?_,trivial⟩)
     ·refine e_lx (v:=s26.v) hF hS rfl (ex_loadE1 0 Try.underlying28 rfl rfl ((hV26.atH he_25).at 2 rfl) rfl rfl) rfl rfl fun a hF=>e_one 5 (by kernel_rfl) ?_
      have hS : St _ _ _ _ [[⟨b_p_c,[s1.v,(iV t_7.2.at_),(.int .u64 t_7.2.seed.v)],90⟩],q28,q4]:=hS.sel [1,0,2] (by decide)
      have hS29 : St _ _ _ _ ([[⟨b_p_c,[s1.v,(iV t_7.2.at_),(.int .u64 t_7.2.seed.v)],90⟩]]++[q28,q4]):=hS
      obtain ⟨m29,hl29,hE29,hz29⟩:=hS29.lendX
      refine e_opl rfl rfl rfl fun _ hK=>wp_callX (vs:=[(.pointer (some ⟨b_p_c,0,none⟩)),s28.v]) hF Try.func74 (by kernel_rfl) rfl rfl rfl (c_spec_l1Cur_among t_7.2 ([-1,1000,1001] : List Int) t_30 ht_30 _ m29 b_p_c s1 (h8.mono hl29) s28 (h28.froz hl29 (hz29 0 _ rfl)) _ hE29) fun a w _ hR hF=>hK _ _ ?_
      obtain ⟨rfl,hR29,hk31⟩:=hR
      have hS : St _ _ _ _ [[⟨b_p_c,[s1.v,(iV t_30.2.at_),(.int .u64 t_30.2.seed.v)],90⟩],q28,q4]:=hS29.leaveF hR29
      have h31 : Rd m s1 t_30.2.code:=by rw [hk31]; exact h8
      refine ⟨kpN,?_⟩
      obtain ⟨vs33,at33,d33⟩:=hV26.at he_25 he_32 1 rfl
      obtain rfl : vs33 = [(iV e_32)]:=d33
      refine e_p (v:=(elP s26 ((0 : Int).toNat * 1))) 6 hF rfl (ex_indexAddr Try.underlying28 sz3 rfl rfl (hV26.idx he_25 he_32)) rfl rfl (by kernel_rfl) (by kernel_rfl) (by kernel_rfl) fun a hF=>e_one 7 (by kernel_rfl) ?_
      have hS : St _ _ _ _ [q4,[⟨b_p_c,[s1.v,(iV t_30.2.at_),(.int .u64 t_30.2.seed.v)],90⟩],q28]:=hS.sel [2,0,1] (by decide)
      refine e_opl rfl rfl rfl fun _ hK=>wp_storeV (e':=t_30.1) (us:=[(iV t_30.1)]) (vs:=[(iV e_32)]) 0 hF hS hV26 he_25 sz3 rfl rfl rfl rfl rfl rfl rfl he_32 at33 rfl rfl rfl fun w q34 hS h34=>hK _ _ (⟨kpN,?_⟩)
      refine e_end (by kernel_rfl) (n_jn ?_) _
      obtain rfl:=someI hj7
      exact ⟨q34,_,_,rfl,hF.sub ⟨rfl,trivial⟩,hS.mask [true,true,false],h34.own,h31,(hk31.trans (hk8.trans hk5))⟩
     ·have hS : St _ _ _ _ [[⟨b_p_c,[s1.v,(iV t_7.2.at_),(.int .u64 t_7.2.seed.v)],90⟩],q28,q4]:=hS.sel [1,0,2] (by decide)
      have hS29 : St _ _ _ _ ([[⟨b_p_c,[s1.v,(iV t_7.2.at_),(.int .u64 t_7.2.seed.v)],90⟩]]++[q28,q4]):=hS
      obtain ⟨m29,hl29,hE29,hz29⟩:=hS29.lendX
      refine e_opl rfl rfl rfl fun _ hK=>wp_callX (vs:=[(.pointer (some ⟨b_p_c,0,none⟩)),s28.v]) hF Try.func74 (by kernel_rfl) rfl rfl rfl (c_spec_l1Cur_among t_7.2 ([-1,1000,1001] : List Int) t_30 ht_30 _ m29 b_p_c s1 (h8.mono hl29) s28 (h28.froz hl29 (hz29 0 _ rfl)) _ hE29) fun a w _ hR hF=>hK _ _ ?_
      obtain ⟨rfl,hR29,hk31⟩:=hR
      have hS : St _ _ _ _ [[⟨b_p_c,[s1.v,(iV t_30.2.at_),(.int .u64 t_30.2.seed.v)],90⟩],q28,q4]:=hS29.leaveF hR29
      have h31 : Rd m s1 t_30.2.code:=by rw [hk31]; exact h8
      refine ⟨kpN,?_⟩
      refine e_x (v:=s26.v) 2 hF hS rfl (ex_loadE1 0 Try.underlying28 rfl rfl ((hV26.atH he_25).at 2 rfl) rfl rfl) rfl rfl (by kernel_rfl) (by kernel_rfl) (by kernel_rfl) (by kernel_rfl) fun a hF=>?_
      obtain ⟨vs33,at33,d33⟩:=hV26.at he_25 he_32 1 rfl
      obtain rfl : vs33 = [(iV e_32)]:=d33
      refine e_p (v:=(elP s26 ((0 : Int).toNat * 1))) 6 hF rfl (ex_indexAddr Try.underlying28 sz3 rfl rfl (hV26.idx he_25 he_32)) rfl rfl (by kernel_rfl) (by kernel_rfl) (by kernel_rfl) fun a hF=>e_one 7 (by kernel_rfl) ?_
      have hS : St _ _ _ _ [q4,[⟨b_p_c,[s1.v,(iV t_30.2.at_),(.int .u64 t_30.2.seed.v)],90⟩],q28]:=hS.sel [2,0,1] (by decide)
      refine e_opl rfl rfl rfl fun _ hK=>wp_storeV (e':=t_30.1) (us:=[(iV t_30.1)]) (vs:=[(iV e_32)]) 0 hF hS hV26 he_25 sz3 rfl rfl rfl rfl rfl rfl rfl he_32 at33 rfl rfl rfl fun w q34 hS h34=>hK _ _ (⟨kpN,?_⟩)
      refine e_end (by kernel_rfl) (n_jn ?_) _
      obtain rfl:=someI hj7
      exact ⟨q34,_,_,rfl,hF.sub ⟨rfl,trivial⟩,hS.mask [true,true,false],h34.own,h31,(hk31.trans (hk8.trans hk5))⟩
   ·rintro a w ⟨q36,x_35,p_c_37,rfl,hF,hS,h36,h38,h38k⟩
    refine n_jn ?_
    obtain rfl:=someI hj1
    exact ⟨q36,_,_,rfl,hF.sub ⟨rfl,trivial⟩,hS,h36,h38,h38k⟩
 ·rintro a w ⟨q40,x_39,p_c_41,rfl,hF,hS,h40,h42,h42k⟩
  refine n_ib (n_sq ?_)
  refine q_seq (q_region (q_x (v:=s4.v) hF hS (ex_move rfl) rfl rfl fun a hF=>q_x (v:=s4.v) hF hS (ex_assign rfl) rfl rfl fun a hF=>q_end (n_sq (q_ret ?_))))
  obtain rfl:=someI hr
  exact ret_ofX hF hS rfl (.tmp rfl .nil) ⟨q40,s4,rfl,hS.sel [1,0] (by decide),h40,h42k⟩

theorem c_spec_DrawThresholdCells (p_code : List (K .u8)) (r : (List (List Int)) × Int) (hr : spec_DrawThresholdCells p_code = some r) (w0 : World) (m : Mem) (hv : Vis m w0) (s1 : Sl) (h1 : Rd m s1 p_code) :
  Ret Try.prog 8 [s1.v] w0 (fun v w=>∃ (q0' : Piece) (s0' : Sl),v = (.tuple #[s0'.v,(iV r.2)])∧St [] w0 w m [q0']∧OwnD m 28 3 q0' s0' r.1):=by
 unfold spec_DrawThresholdCells at hr
 refine ret_start Try.func8 rfl 13 rfl rfl m hv fun a hF hS=>q_seq (q_region (q_x (v:=nilS.v) hF hS (ex_assign rfl) rfl rfl fun a hF=>q_x (v:=(iV 0)) hF hS (ex_assign rfl) rfl rfl fun a hF=>q_end (n_sq (q_seq (q_region (q_x (v:=s1.v) hF hS (ex_move rfl) rfl rfl fun a hF=>q_x (v:=(.agg #[s1.v,(iV 0),(.int .u64 0)])) hF hS (ex_build (cells:=[s1.v,(iV 0),(.int .u64 0)]) rfl (by kernel_rfl)) rfl rfl fun a hF=>q_box (cs:=[s1.v,(iV 0),(.int .u64 0)]) hF hS rfl rfl rfl fun a w b2 hF hS=>q_x (v:=(.pointer (some ⟨b2,0,none⟩))) hF hS (ex_assign rfl) rfl rfl fun a hF=>q_end (n_sq (q_seq (q_region (q_x (v:=(.pointer (some ⟨b2,0,none⟩))) hF hS (ex_move rfl) rfl rfl fun a hF=>?_))))))))))
 have hS3 : St _ _ _ _ ([[⟨b2,[s1.v,(iV 0),(.int .u64 0)],90⟩]]++[]):=hS
 have hE3:=hS3.enter
 obtain ⟨t_4,ht_4,hr⟩:=bindS hr
 refine q_do rfl fun _ hK=>wp_callX (vs:=[(.pointer (some ⟨b2,0,none⟩))]) hF Try.func73 (by kernel_rfl) rfl rfl rfl (c_spec_l1Cur_anyTwoWay (spec_l1Cur.mk p_code 0 (⟨0⟩ : K .u64)) t_4 ht_4 _ m b2 s1 h1 _ hE3) fun a w _ hR hF=>hK _ _ ?_
 obtain ⟨q5,s5,rfl,hR3,h5,hk6⟩:=hR
 have hS : St _ _ _ _ [[⟨b2,[s1.v,(iV t_4.2.at_),(.int .u64 t_4.2.seed.v)],90⟩],q5]:=hS3.leaveF hR3
 have h6 : Rd m s1 t_4.2.code:=by rw [hk6]; exact h1
 refine q_x (v:=(.pointer (some ⟨b2,0,none⟩))) hF hS (ex_move rfl) rfl rfl fun a hF=>q_do rfl fun _ hK=>wp_buildSlice' (l:=([0,1,3,5,1001,1002,-1] : List Int)) (cells:=[(iV 0),(iV 1),(iV 3),(iV 5),(iV 1001),(iV 1002),(iV (-1))]) hF hS Try.underlying28 inf3 rfl rfl (by kernel_rfl) rfl rfl rfl ⟨rfl,rfl,rfl,rfl,rfl,rfl,rfl,rfl⟩ rfl rfl fun a w q7 s7 hF hS h7 _=>hK _ _ ?_
 have hS : St _ _ _ _ [[⟨b2,[s1.v,(iV t_4.2.at_),(.int .u64 t_4.2.seed.v)],90⟩],q7,q5]:=hS.sel [1,0,2] (by decide)
 have hS8 : St _ _ _ _ ([[⟨b2,[s1.v,(iV t_4.2.at_),(.int .u64 t_4.2.seed.v)],90⟩]]++[q7,q5]):=hS
 obtain ⟨m8,hl8,hE8,hz8⟩:=hS8.lendX
 obtain ⟨t_9,ht_9,hr⟩:=bindS hr
 refine q_do rfl fun _ hK=>wp_callX (vs:=[(.pointer (some ⟨b2,0,none⟩)),s7.v]) hF Try.func74 (by kernel_rfl) rfl rfl rfl (c_spec_l1Cur_among t_4.2 ([0,1,3,5,1001,1002,-1] : List Int) t_9 ht_9 _ m8 b2 s1 (h6.mono hl8) s7 (h7.froz hl8 (hz8 0 _ rfl)) _ hE8) fun a w _ hR hF=>hK _ _ ?_
 obtain ⟨rfl,hR8,hk10⟩:=hR
 have hS : St _ _ _ _ [[⟨b2,[s1.v,(iV t_9.2.at_),(.int .u64 t_9.2.seed.v)],90⟩],q7,q5]:=hS8.leaveF hR8
 have h10 : Rd m s1 t_9.2.code:=by rw [hk10]; exact h6
 refine q_x (v:=s5.v) hF hS (ex_assign rfl) rfl rfl fun a hF=>q_x (v:=(iV t_9.1)) hF hS (ex_assign rfl) rfl rfl fun a hF=>q_end (n_sq (q_ret ?_))
 obtain rfl:=someI hr
 exact ret_of hF hS rfl (.tmp rfl (.tmp rfl .nil)) ⟨q5,s5,rfl,hS.sel [2] (by decide),h5⟩

theorem c_impl_hasShape (p_x : List (List Int)) (p_rows : Int) (p_cols : Int) (r : Bool) (hr : impl_hasShape p_x p_rows p_cols = some r) (w0 : World) (m : Mem) (hv : Vis m w0) (s1 : Sl) (h1 : Rd m s1 p_x) :
  Ret Try.prog 88 [s1.v,(iV p_rows),(iV p_cols)] w0 (fun v _=>v = (.bool r)):=by
 unfold impl_hasShape at hr
 refine ret_start Try.func88 rfl 24 rfl rfl m hv fun a hF hS=>q_seq (q_region (q_x (v:=(.bool false)) hF hS (ex_assign rfl) rfl rfl fun a hF=>q_end (n_sq (q_seq (q_seq (q_region (q_x (v:=s1.v) hF hS (ex_move rfl) rfl rfl fun a hF=>q_x (v:=(iV (goLen p_x))) hF hS (ex_len Try.underlying23 rfl h1.len) rfl rfl fun a hF=>q_x (v:=(iV p_rows)) hF hS (ex_move rfl) rfl rfl fun a hF=>q_x (v:=(.bool ((goLen p_x) != p_rows))) hF hS (ex_ibin rfl rfl rfl) rfl rfl fun a hF=>q_end (n_sq ?_))))))))
 rcases bcase ((goLen p_x) != p_rows) with hc1 | hc1
 ·have hr:=cond_f hc1 hr
  refine q_cond_f hF rfl hc1 (q_skipc (n_sq (q_seq (q_seq (q_region (q_x (v:=s1.v) hF hS (ex_move rfl) rfl rfl fun a hF=>q_x (v:=(iV (goLen p_x))) hF hS (ex_len Try.underlying23 rfl h1.len) rfl rfl fun a hF=>q_x (v:=(iV 0)) hF hS (ex_move rfl) rfl rfl fun a hF=>q_end (n_sq (q_block ?_))))))))
  obtain ⟨o2,hl2,hr⟩:=bindS hr
  refine q_loop (fun (t_2 : Int) a w=>Fr a 24 [(2,(iV p_cols)),(13,s1.v),(14,(iV (goLen p_x))),(15,(iV t_2))]∧St [] w0 w m []) (fun (o : (Unit) ⊕ (Bool)) e a w=>o = .inl ()∧e = .exit 0∧Fr a 24 []∧St [] w0 w m []) hl2 ⟨hF.sub ⟨rfl,rfl,rfl,rfl,trivial⟩,hS⟩ ?_ ?_
  ·clear hF hS
   rintro t_2 a w st ⟨hF,hS⟩ hb2
   unfold impl_hasShape_l1 at hb2
   refine q_seq (q_region (q_x (v:=(.bool (decide (t_2 < (goLen p_x))))) hF hS (ex_ibin rfl rfl rfl) rfl rfl fun a hF=>q_end (n_sq (q_seq ?_))))
   rcases bcase (decide (t_2 < (goLen p_x))) with hc3 | hc3
   ·have hb2:=cond_f hc3 hb2
    refine q_cond_f hF rfl hc3 (q_exit (x_sq ?_))
    obtain rfl:=someI hb2
    exact ⟨nofun,.inl ⟨rfl,rfl,hF.sub trivial,hS⟩⟩
   ·have hb2:=cond_t hc3 hb2
    refine q_cond_t hF rfl hc3 (q_skipc (n_sq (q_seq (q_block (q_seq (q_region ?_))))))
    obtain ⟨e_3,he_3,hb2⟩:=bindS hb2
    obtain ⟨vs4,at4,d4⟩:=h1.at he_3 1 rfl
    obtain ⟨s5,rfl,h5⟩ : ∃ s5 : Sl,vs4 = [s5.v]∧Rd m s5 e_3:=d4
    refine q_x (v:=(elP s1 (t_2.toNat * 1))) hF hS (ex_indexAddr Try.underlying23 sz28 rfl rfl (h1.idx he_3)) rfl rfl fun a hF=>q_x (v:=s5.v) hF hS (ex_loadE1 0 Try.underlying28 rfl rfl ((at4).at) rfl rfl) rfl rfl fun a hF=>q_x (v:=s5.v) hF hS (ex_assign rfl) rfl rfl fun a hF=>q_end (n_sq (q_seq (q_region (q_x (v:=s5.v) hF hS (ex_move rfl) rfl rfl fun a hF=>q_x (v:=(iV (goLen e_3))) hF hS (ex_len Try.underlying28 rfl h5.len) rfl rfl fun a hF=>q_x (v:=(iV p_cols)) hF hS (ex_move rfl) rfl rfl fun a hF=>q_x (v:=(.bool ((goLen e_3) != p_cols))) hF hS (ex_ibin rfl rfl rfl) rfl rfl fun a hF=>q_end (n_sq ?_)))))
    rcases bcase ((goLen e_3) != p_cols) with hc4 | hc4
    ·have hb2:=cond_f hc4 hb2
     refine q_cond_f hF rfl hc4 (q_skipc (n_ib (n_sq (q_region (q_x (v:=(iV (w64 (t_2 + 1)))) hF hS (ex_ibin rfl rfl rfl) rfl rfl fun a hF=>q_x (v:=(iV (w64 (t_2 + 1)))) hF hS (ex_move rfl) rfl rfl fun a hF=>q_end ?_)))))
     obtain rfl:=someI hb2
     exact ⟨rfl,hF.sub ⟨rfl,rfl,rfl,rfl,trivial⟩,hS⟩
    ·have hb2:=cond_t hc4 hb2
     refine q_cond_t hF rfl hc4 (q_seq (q_region (q_x (v:=(.bool false)) hF hS (ex_assign rfl) rfl rfl fun a hF=>q_end (n_sq (q_ret (r_ib (r_sq ?_)))))))
     obtain rfl:=someI hb2
     refine ⟨nofun,.inr fun ho=>?_⟩
     subst ho
     refine r_ib (r_sq ?_)
     obtain rfl:=someI hr
     exact ret_of hF hS rfl (.tmp rfl .nil) rfl
  ·rintro e a w ⟨rfl,rfl,hF,hS⟩
   refine x_ib (n_sq ?_)
   refine q_seq (q_region (q_x (v:=(.bool true)) hF hS (ex_assign rfl) rfl rfl fun a hF=>q_end (n_sq (q_ret ?_))))
   obtain rfl:=someI hr
   exact ret_of hF hS rfl (.tmp rfl .nil) rfl
 ·have hr:=cond_t hc1 hr
  refine q_cond_t hF rfl hc1 (q_seq (q_region (q_x (v:=(.bool false)) hF hS (ex_assign rfl) rfl rfl fun a hF=>q_end (n_sq (q_ret (r_sq ?_))))))
  obtain rfl:=someI hr
  exact ret_of hF hS rfl (.tmp rfl .nil) rfl

theorem c_impl_isGrid (p_x : List (List Int)) (p_most : Int) (r : Bool) (hr : impl_isGrid p_x p_most = some r) (w0 : World) (m : Mem) (hv : Vis m w0) (s1 : Sl) (h1 : Rd m s1 p_x) :
  Ret Try.prog 87 [s1.v,(iV p_most)] w0 (fun v _=>v = (.bool r)):=by
 unfold impl_isGrid at hr
 refine ret_start Try.func87 rfl 63 rfl rfl m hv fun a hF hS=>q_seq (q_region (q_x (v:=(.bool false)) hF hS (ex_assign rfl) rfl rfl fun a hF=>q_end (n_sq (q_seq (q_seq ?_)))))
 obtain ⟨t_12,hj1,hr⟩:=bindS hr
 refine q_join (fun a w=>Fr a 63 [(0,s1.v),(1,(iV p_most)),(41,(.bool t_12))]∧St [] w0 w m []) ?_ ?_
 ·refine q_region (q_x (v:=s1.v) hF hS (ex_move rfl) rfl rfl fun a hF=>q_x (v:=(iV (goLen p_x))) hF hS (ex_len Try.underlying23 rfl h1.len) rfl rfl fun a hF=>q_x (v:=(.bool (decide ((goLen p_x) < 1)))) hF hS (ex_ibin rfl rfl rfl) rfl rfl fun a hF=>q_x (v:=(.bool (decide ((goLen p_x) < 1)))) hF hS (ex_move rfl) rfl rfl fun a hF=>?_)
  rcases bcase (decide ((goLen p_x) < 1)) with hc2 | hc2
  ·have hj1:=cond_f hc2 hj1
   refine q_xg (v:=s1.v) hF hS (ex_move rfl) (wanted_t hF rfl rfl rfl hc2) rfl fun a hF=>q_xg (v:=(iV (goLen p_x))) hF hS (ex_len Try.underlying23 rfl h1.len) (wanted_t hF rfl rfl rfl hc2) rfl fun a hF=>q_xg (v:=(.bool (decide (8 < (goLen p_x))))) hF hS (ex_ibin rfl rfl rfl) (wanted_t hF rfl rfl rfl hc2) rfl fun a hF=>q_x (v:=(.bool (decide (8 < (goLen p_x))))) hF hS (ex_pick_f rfl rfl hc2) rfl rfl fun a hF=>q_x (v:=(.bool (decide (8 < (goLen p_x))))) hF hS (ex_move rfl) rfl rfl fun a hF=>?_
   rcases bcase (decide (8 < (goLen p_x))) with hc3 | hc3
   ·have hj1:=cond_f hc3 hj1
    refine q_xg (v:=s1.v) hF hS (ex_move rfl) (wanted_t hF rfl rfl rfl hc3) rfl fun a hF=>?_
    obtain ⟨e_2,he_2,hj1⟩:=bindS hj1
    obtain ⟨vs3,at3,d3⟩:=h1.at he_2 1 rfl
    obtain ⟨s4,rfl,h4⟩ : ∃ s4 : Sl,vs3 = [s4.v]∧Rd m s4 e_2:=d3
    refine q_xg (v:=(elP s1 ((0 : Int).toNat * 1))) hF hS (ex_indexAddr Try.underlying23 sz28 rfl rfl (h1.idx he_2)) (wanted_t hF rfl rfl rfl hc3) rfl fun a hF=>q_xg (v:=s4.v) hF hS (ex_loadE1 0 Try.underlying28 rfl rfl ((at3).at) rfl rfl) (wanted_t hF rfl rfl rfl hc3) rfl fun a hF=>q_xg (v:=(iV (goLen e_2))) hF hS (ex_len Try.underlying28 rfl h4.len) (wanted_t hF rfl rfl rfl hc3) rfl fun a hF=>q_xg (v:=(.bool (decide ((goLen e_2) < 1)))) hF hS (ex_ibin rfl rfl rfl) (wanted_t hF rfl rfl rfl hc3) rfl fun a hF=>q_x (v:=(.bool (decide ((goLen e_2) < 1)))) hF hS (ex_pick_f rfl rfl hc3) rfl rfl fun a hF=>q_x (v:=(.bool (decide ((goLen e_2) < 1)))) hF hS (ex_move rfl) rfl rfl fun a hF=>?_
    rcases bcase (decide ((goLen e_2) < 1)) with hc4 | hc4
    ·have hj1:=cond_f hc4 hj1
     refine q_xg (v:=s1.v) hF hS (ex_move rfl) (wanted_t hF rfl rfl rfl hc4) rfl fun a hF=>?_
     obtain ⟨e_5,he_5,hj1⟩:=bindS hj1
     obtain ⟨vs6,at6,d6⟩:=h1.at he_5 1 rfl
     obtain ⟨s7,rfl,h7⟩ : ∃ s7 : Sl,vs6 = [s7.v]∧Rd m s7 e_5:=d6
     refine q_xg (v:=(elP s1 ((0 : Int).toNat * 1))) hF hS (ex_indexAddr Try.underlying23 sz28 rfl rfl (h1.idx he_5)) (wanted_t hF rfl rfl rfl hc4) rfl fun a hF=>q_xg (v:=s7.v) hF hS (ex_loadE1 0 Try.underlying28 rfl rfl ((at6).at) rfl rfl) (wanted_t hF rfl rfl rfl hc4) rfl fun a hF=>q_xg (v:=(iV (goLen e_5))) hF hS (ex_len Try.underlying28 rfl h7.len) (wanted_t hF rfl rfl rfl hc4) rfl fun a hF=>q_xg (v:=(.bool (decide (8 < (goLen e_5))))) hF hS (ex_ibin rfl rfl rfl) (wanted_t hF rfl rfl rfl hc4) rfl fun a hF=>q_x (v:=(.bool (decide (8 < (goLen e_5))))) hF hS (ex_pick_f rfl rfl hc4) rfl rfl fun a hF=>q_x (v:=(.bool (decide (8 < (goLen e_5))))) hF hS (ex_move rfl) rfl rfl fun a hF=>?_
     rcases bcase (decide (8 < (goLen e_5))) with hc5 | hc5
     ·have hj1:=cond_f hc5 hj1
      refine q_xg (v:=s1.v) hF hS (ex_move rfl) (wanted_t hF rfl rfl rfl hc5) rfl fun a hF=>q_xg (v:=s1.v) hF hS (ex_move rfl) (wanted_t hF rfl rfl rfl hc5) rfl fun a hF=>q_xg (v:=(iV (goLen p_x))) hF hS (ex_len Try.underlying23 rfl h1.len) (wanted_t hF rfl rfl rfl hc5) rfl fun a hF=>q_xg (v:=s1.v) hF hS (ex_move rfl) (wanted_t hF rfl rfl rfl hc5) rfl fun a hF=>?_
      obtain ⟨e_8,he_8,hj1⟩:=bindS hj1
      obtain ⟨vs9,at9,d9⟩:=h1.at he_8 1 rfl
      obtain ⟨s10,rfl,h10⟩ : ∃ s10 : Sl,vs9 = [s10.v]∧Rd m s10 e_8:=d9
      refine q_xg (v:=(elP s1 ((0 : Int).toNat * 1))) hF hS (ex_indexAddr Try.underlying23 sz28 rfl rfl (h1.idx he_8)) (wanted_t hF rfl rfl rfl hc5) rfl fun a hF=>q_xg (v:=s10.v) hF hS (ex_loadE1 0 Try.underlying28 rfl rfl ((at9).at) rfl rfl) (wanted_t hF rfl rfl rfl hc5) rfl fun a hF=>q_xg (v:=(iV (goLen e_8))) hF hS (ex_len Try.underlying28 rfl h10.len) (wanted_t hF rfl rfl rfl hc5) rfl fun a hF=>?_
      obtain ⟨t_11,ht_11,hj1⟩:=bindS hj1
      refine q_callg (vs:=[s1.v,(iV (goLen p_x)),(iV (goLen e_8))]) hF hS (wanted_t hF rfl rfl rfl hc5) Try.func88 (by kernel_rfl) rfl rfl rfl (c_impl_hasShape p_x (goLen p_x) (goLen e_8) t_11 ht_11 _ m hS.vis s1 h1) ?_
      rintro a w _ rfl hF hS
      refine q_xg (v:=(.bool (!t_11))) hF hS (ex_not rfl) (wanted_t hF rfl rfl rfl hc5) rfl fun a hF=>q_x (v:=(.bool (!t_11))) hF hS (ex_pick_f rfl rfl hc5) rfl rfl fun a hF=>q_end (n_jn ?_)
      obtain rfl:=someI hj1
      exact ⟨hF.sub ⟨rfl,rfl,rfl,trivial⟩,hS⟩
     ·have hj1:=cond_t hc5 hj1
      refine q_skip hF (wanted_f hF rfl rfl rfl hc5 rfl) rfl fun a hF=>q_skip hF (wanted_f hF rfl rfl rfl hc5 rfl) rfl fun a hF=>q_skip hF (wanted_f hF rfl rfl rfl hc5 rfl) rfl fun a hF=>q_skip hF (wanted_f hF rfl rfl rfl hc5 rfl) rfl fun a hF=>q_skip hF (wanted_f hF rfl rfl rfl hc5 rfl) rfl fun a hF=>q_skip hF (wanted_f hF rfl rfl rfl hc5 rfl) rfl fun a hF=>q_skip hF (wanted_f hF rfl rfl rfl hc5 rfl) rfl fun a hF=>q_skip hF (wanted_f hF rfl rfl rfl hc5 rfl) rfl fun a hF=>q_skip hF (wanted_f hF rfl rfl rfl hc5 rfl) rfl fun a hF=>q_x (v:=(.bool true)) hF hS (ex_pick_t rfl rfl hc5) rfl rfl fun a hF=>q_end (n_jn ?_)
      obtain rfl:=someI hj1
      exact ⟨hF.sub ⟨rfl,rfl,rfl,trivial⟩,hS⟩
    ·have hj1:=cond_t hc4 hj1
     refine q_skip hF (wanted_f hF rfl rfl rfl hc4 rfl) rfl fun a hF=>q_skip hF (wanted_f hF rfl rfl rfl hc4 rfl) rfl fun a hF=>q_skip hF (wanted_f hF rfl rfl rfl hc4 rfl) rfl fun a hF=>q_skip hF (wanted_f hF rfl rfl rfl hc4 rfl) rfl fun a hF=>q_skip hF (wanted_f hF rfl rfl rfl hc4 rfl) rfl fun a hF=>q_x (v:=(.bool true)) hF hS (ex_pick_t rfl rfl hc4) rfl rfl fun a hF=>q_x (v:=(.bool true)) hF hS (ex_move rfl) rfl rfl fun a hF=>q_skip hF (wanted_f hF rfl rfl rfl rfl rfl) rfl fun a hF=>q_skip hF (wanted_f hF rfl rfl rfl rfl rfl) rfl fun a hF=>q_skip hF (wanted_f hF rfl rfl rfl rfl rfl) rfl fun a hF=>q_skip hF (wanted_f hF rfl rfl rfl rfl rfl) rfl fun a hF=>q_skip hF (wanted_f hF rfl rfl rfl rfl rfl) rfl fun a hF=>q_skip hF (wanted_f hF rfl rfl rfl rfl rfl) rfl fun a hF=>q_skip hF (wanted_f hF rfl rfl rfl rfl rfl) rfl fun a hF=>q_skip hF (wanted_f hF rfl rfl rfl rfl rfl) rfl fun a hF=>q_skip hF (wanted_f hF rfl rfl rfl rfl rfl) rfl fun a hF=>q_x (v:=(.bool true)) hF hS (ex_pick_t rfl rfl rfl) rfl rfl fun a hF=>q_end (n_jn ?_)
     obtain rfl:=someI hj1
     exact ⟨hF.sub ⟨rfl,rfl,rfl,trivial⟩,hS⟩
   ·have hj1:=cond_t hc3 hj1
    refine q_skip hF (wanted_f hF rfl rfl rfl hc3 rfl) rfl fun a hF=>q_skip hF (wanted_f hF rfl rfl rfl hc3 rfl) rfl fun a hF=>q_skip hF (wanted_f hF rfl rfl rfl hc3 rfl) rfl fun a hF=>q_skip hF (wanted_f hF rfl rfl rfl hc3 rfl) rfl fun a hF=>q_skip hF (wanted_f hF rfl rfl rfl hc3 rfl) rfl fun a hF=>q_x (v:=(.bool true)) hF hS (ex_pick_t rfl rfl hc3) rfl rfl fun a hF=>q_x (v:=(.bool true)) hF hS (ex_move rfl) rfl rfl fun a hF=>q_skip hF (wanted_f hF rfl rfl rfl rfl rfl) rfl fun a hF=>q_skip hF (wanted_f hF rfl rfl rfl rfl rfl) rfl fun a hF=>q_skip hF (wanted_f hF rfl rfl rfl rfl rfl) rfl fun a hF=>q_skip hF (wanted_f hF rfl rfl rfl rfl rfl) rfl fun a hF=>q_skip hF (wanted_f hF rfl rfl rfl rfl rfl) rfl fun a hF=>q_x (v:=(.bool true)) hF hS (ex_pick_t rfl rfl rfl) rfl rfl fun a hF=>q_x (v:=(.bool true)) hF hS (ex_move rfl) rfl rfl fun a hF=>q_skip hF (wanted_f hF rfl rfl rfl rfl rfl) rfl fun a hF=>q_skip hF (wanted_f hF rfl rfl rfl rfl rfl) rfl fun a hF=>q_skip hF (wanted_f hF rfl rfl rfl rfl rfl) rfl fun a hF=>q_skip hF (wanted_f hF rfl rfl rfl rfl rfl) rfl fun a hF=>q_skip hF (wanted_f hF rfl rfl rfl rfl rfl) rfl fun a hF=>q_skip hF (wanted_f hF rfl rfl rfl rfl rfl) rfl fun a hF=>q_skip hF (wanted_f hF rfl rfl rfl rfl rfl) rfl fun a hF=>q_skip hF (wanted_f hF rfl rfl rfl rfl rfl) rfl fun a hF=>q_skip hF (wanted_f hF rfl rfl rfl rfl rfl) rfl fun a hF=>q_x (v:=(.bool true)) hF hS (ex_pick_t rfl rfl rfl) rfl rfl fun a hF=>q_end (n_jn ?_)
    obtain rfl:=someI hj1
    exact ⟨hF.sub ⟨rfl,rfl,rfl,trivial⟩,hS⟩
  ·have hj1:=cond_t hc2 hj1
   refine q_skip hF (wanted_f hF rfl rfl rfl hc2 rfl) rfl fun a hF=>q_skip hF (wanted_f hF rfl rfl rfl hc2 rfl) rfl fun a hF=>q_skip hF (wanted_f hF rfl rfl rfl hc2 rfl) rfl fun a hF=>q_x (v:=(.bool true)) hF hS (ex_pick_t rfl rfl hc2) rfl rfl fun a hF=>q_x (v:=(.bool true)) hF hS (ex_move rfl) rfl rfl fun a hF=>q_skip hF (wanted_f hF rfl rfl rfl rfl rfl) rfl fun a hF=>q_skip hF (wanted_f hF rfl rfl rfl rfl rfl) rfl fun a hF=>q_skip hF (wanted_f hF rfl rfl rfl rfl rfl) rfl fun a hF=>q_skip hF (wanted_f hF rfl rfl rfl rfl rfl) rfl fun a hF=>q_skip hF (wanted_f hF rfl rfl rfl rfl rfl) rfl fun a hF=>q_x (v:=(.bool true)) hF hS (ex_pick_t rfl rfl rfl) rfl rfl fun a hF=>q_x (v:=(.bool true)) hF hS (ex_move rfl) rfl rfl fun a hF=>q_skip hF (wanted_f hF rfl rfl rfl rfl rfl) rfl fun a hF=>q_skip hF (wanted_f hF rfl rfl rfl rfl rfl) rfl fun a hF=>q_skip hF (wanted_f hF rfl rfl rfl rfl rfl) rfl fun a hF=>q_skip hF (wanted_f hF rfl rfl rfl rfl rfl) rfl fun a hF=>q_skip hF (wanted_f hF rfl rfl rfl rfl rfl) rfl fun a hF=>q_x (v:=(.bool true)) hF hS (ex_pick_t rfl rfl rfl) rfl rfl fun a hF=>q_x (v:=(.bool true)) hF hS (ex_move rfl) rfl rfl fun a hF=>q_skip hF (wanted_f hF rfl rfl rfl rfl rfl) rfl fun a hF=>q_skip hF (wanted_f hF rfl rfl rfl rfl rfl) rfl fun a hF=>q_skip hF (wanted_f hF rfl rfl rfl rfl rfl) rfl fun a hF=>q_skip hF (wanted_f hF rfl rfl rfl rfl rfl) rfl fun a hF=>q_skip hF (wanted_f hF rfl rfl rfl rfl rfl) rfl fun a hF=>q_skip hF (wanted_f hF rfl rfl rfl rfl rfl) rfl fun a hF=>?_
   refine q_skip hF (wanted_f hF rfl rfl rfl rfl rfl) rfl fun a hF=>q_skip hF (wanted_f hF rfl rfl rfl rfl rfl) rfl fun a hF=>q_skip hF (wanted_f hF rfl rfl rfl rfl rfl) rfl fun a hF=>q_x (v:=(.bool true)) hF hS (ex_pick_t rfl rfl rfl) rfl rfl fun a hF=>q_end (n_jn ?_)
   obtain rfl:=someI hj1
   exact ⟨hF.sub ⟨rfl,rfl,rfl,trivial⟩,hS⟩
 ·rintro a w ⟨hF,hS⟩
  refine n_sq ?_
  rcases bcase (t_12) with hc6 | hc6
  ·have hr:=cond_f hc6 hr
   refine q_cond_f hF rfl hc6 (q_skipc (n_sq (q_seq (q_seq (q_region (q_x (v:=s1.v) hF hS (ex_move rfl) rfl rfl fun a hF=>q_x (v:=(iV (goLen p_x))) hF hS (ex_len Try.underlying23 rfl h1.len) rfl rfl fun a hF=>q_x (v:=(iV 0)) hF hS (ex_move rfl) rfl rfl fun a hF=>q_end (n_sq (q_block ?_))))))))
   obtain ⟨o7,hl7,hr⟩:=bindS hr
   refine q_loop (fun (t_13 : Int) a w=>Fr a 63 [(1,(iV p_most)),(42,s1.v),(43,(iV (goLen p_x))),(44,(iV t_13))]∧St [] w0 w m []) (fun (o : (Unit) ⊕ (Bool)) e a w=>o = .inl ()∧e = .exit 0∧Fr a 63 []∧St [] w0 w m []) hl7 ⟨hF.sub ⟨rfl,rfl,rfl,rfl,trivial⟩,hS⟩ ?_ ?_
   ·clear hF hS
    rintro t_13 a w st ⟨hF,hS⟩ hb7
    unfold impl_isGrid_l1 at hb7
    refine q_seq (q_region (q_x (v:=(.bool (decide (t_13 < (goLen p_x))))) hF hS (ex_ibin rfl rfl rfl) rfl rfl fun a hF=>q_end (n_sq (q_seq ?_))))
    rcases bcase (decide (t_13 < (goLen p_x))) with hc8 | hc8
    ·have hb7:=cond_f hc8 hb7
     refine q_cond_f hF rfl hc8 (q_exit (x_sq ?_))
     obtain rfl:=someI hb7
     exact ⟨nofun,.inl ⟨rfl,rfl,hF.sub trivial,hS⟩⟩
    ·have hb7:=cond_t hc8 hb7
     refine q_cond_t hF rfl hc8 (q_skipc (n_sq (q_seq (q_block (q_seq (q_region ?_))))))
     obtain ⟨e_14,he_14,hb7⟩:=bindS hb7
     obtain ⟨vs15,at15,d15⟩:=h1.at he_14 1 rfl
     obtain ⟨s16,rfl,h16⟩ : ∃ s16 : Sl,vs15 = [s16.v]∧Rd m s16 e_14:=d15
     refine q_x (v:=(elP s1 (t_13.toNat * 1))) hF hS (ex_indexAddr Try.underlying23 sz28 rfl rfl (h1.idx he_14)) rfl rfl fun a hF=>q_x (v:=s16.v) hF hS (ex_loadE1 0 Try.underlying28 rfl rfl ((at15).at) rfl rfl) rfl rfl fun a hF=>q_x (v:=s16.v) hF hS (ex_assign rfl) rfl rfl fun a hF=>q_end (n_sq (q_seq (q_region (q_x (v:=s16.v) hF hS (ex_move rfl) rfl rfl fun a hF=>q_x (v:=(iV (goLen e_14))) hF hS (ex_len Try.underlying28 rfl h16.len) rfl rfl fun a hF=>q_x (v:=(iV 0)) hF hS (ex_move rfl) rfl rfl fun a hF=>q_end (n_sq (q_block ?_))))))
     obtain ⟨o9,hl9,hb7⟩:=bindS hb7
     refine q_loop (fun (t_17 : Int) a w=>Fr a 63 [(1,(iV p_most)),(42,s1.v),(43,(iV (goLen p_x))),(44,(iV t_13)),(48,s16.v),(49,(iV (goLen e_14))),(50,(iV t_17))]∧St [] w0 w m []) (fun (o : (Unit) ⊕ (Stp (Int) ((Unit) ⊕ (Bool)))) e a w=>o = .inl ()∧e = .exit 2∧Fr a 63 [(1,(iV p_most)),(42,s1.v),(43,(iV (goLen p_x))),(44,(iV t_13))]∧St [] w0 w m []) hl9 ⟨hF.sub ⟨rfl,rfl,rfl,rfl,rfl,rfl,rfl,trivial⟩,hS⟩ ?_ ?_
     ·clear hF hS
      rintro t_17 a w st ⟨hF,hS⟩ hb9
      unfold impl_isGrid_l2 at hb9
      refine q_seq (q_region (q_x (v:=(.bool (decide (t_17 < (goLen e_14))))) hF hS (ex_ibin rfl rfl rfl) rfl rfl fun a hF=>q_end (n_sq (q_seq ?_))))
      rcases bcase (decide (t_17 < (goLen e_14))) with hc10 | hc10
      ·have hb9:=cond_f hc10 hb9
       refine q_cond_f hF rfl hc10 (q_exit (x_sq ?_))
       obtain rfl:=someI hb9
       exact ⟨nofun,.inl ⟨rfl,rfl,hF.sub ⟨rfl,rfl,rfl,rfl,trivial⟩,hS⟩⟩
      ·have hb9:=cond_t hc10 hb9
       refine q_cond_t hF rfl hc10 (q_skipc (n_sq (q_seq (q_block (q_seq (q_region ?_))))))
       obtain ⟨e_18,he_18,hb9⟩:=bindS hb9
       obtain ⟨vs19,at19,d19⟩:=h16.at he_18 1 rfl
       obtain rfl : vs19 = [(iV e_18)]:=d19
       refine q_x (v:=(elP s16 (t_17.toNat * 1))) hF hS (ex_indexAddr Try.underlying28 sz3 rfl rfl (h16.idx he_18)) rfl rfl fun a hF=>q_x (v:=(iV e_18)) hF hS (ex_loadE1 0 Try.underlying3 rfl rfl ((at19).at) rfl rfl) rfl rfl fun a hF=>q_x (v:=(iV e_18)) hF hS (ex_assign rfl) rfl rfl fun a hF=>q_end (n_sq (q_seq ?_))
       obtain ⟨t_20,hj11,hb9⟩:=bindS hb9
       refine q_join (fun a w=>Fr a 63 [(1,(iV p_most)),(42,s1.v),(43,(iV (goLen p_x))),(44,(iV t_13)),(48,s16.v),(49,(iV (goLen e_14))),(50,(iV t_17)),(60,(.bool t_20))]∧St [] w0 w m []) ?_ ?_
       ·refine q_region (q_x (v:=(iV e_18)) hF hS (ex_move rfl) rfl rfl fun a hF=>q_x (v:=(.bool (decide (e_18 < 0)))) hF hS (ex_ibin rfl rfl rfl) rfl rfl fun a hF=>q_x (v:=(.bool (decide (e_18 < 0)))) hF hS (ex_move rfl) rfl rfl fun a hF=>?_)
        rcases bcase (decide (e_18 < 0)) with hc12 | hc12
        ·have hj11:=cond_f hc12 hj11
         refine q_xg (v:=(iV e_18)) hF hS (ex_move rfl) (wanted_t hF rfl rfl rfl hc12) rfl fun a hF=>q_xg (v:=(iV p_most)) hF hS (ex_move rfl) (wanted_t hF rfl rfl rfl hc12) rfl fun a hF=>q_xg (v:=(.bool (decide (p_most < e_18)))) hF hS (ex_ibin rfl rfl rfl) (wanted_t hF rfl rfl rfl hc12) rfl fun a hF=>q_x (v:=(.bool (decide (p_most < e_18)))) hF hS (ex_pick_f rfl rfl hc12) rfl rfl fun a hF=>q_end (n_jn ?_)
         obtain rfl:=someI hj11
         exact ⟨hF.sub ⟨rfl,rfl,rfl,rfl,rfl,rfl,rfl,rfl,trivial⟩,hS⟩
        ·have hj11:=cond_t hc12 hj11
         refine q_skip hF (wanted_f hF rfl rfl rfl hc12 rfl) rfl fun a hF=>q_skip hF (wanted_f hF rfl rfl rfl hc12 rfl) rfl fun a hF=>q_skip hF (wanted_f hF rfl rfl rfl hc12 rfl) rfl fun a hF=>q_x (v:=(.bool true)) hF hS (ex_pick_t rfl rfl hc12) rfl rfl fun a hF=>q_end (n_jn ?_)
         obtain rfl:=someI hj11
         exact ⟨hF.sub ⟨rfl,rfl,rfl,rfl,rfl,rfl,rfl,rfl,trivial⟩,hS⟩
       ·rintro a w ⟨hF,hS⟩
        refine n_sq ?_
        rcases bcase (t_20) with hc13 | hc13
        ·have hb9:=cond_f hc13 hb9
         refine q_cond_f hF rfl hc13 (q_skipc (n_ib (n_sq (q_region (q_x (v:=(iV (w64 (t_17 + 1)))) hF hS (ex_ibin rfl rfl rfl) rfl rfl fun a hF=>q_x (v:=(iV (w64 (t_17 + 1)))) hF hS (ex_move rfl) rfl rfl fun a hF=>q_end ?_)))))
         obtain rfl:=someI hb9
         exact ⟨rfl,hF.sub ⟨rfl,rfl,rfl,rfl,rfl,rfl,rfl,trivial⟩,hS⟩
        ·have hb9:=cond_t hc13 hb9
         refine q_cond_t hF rfl hc13 (q_seq (q_region (q_x (v:=(.bool false)) hF hS (ex_assign rfl) rfl rfl fun a hF=>q_end (n_sq (q_ret (r_ib (r_sq ?_)))))))
         obtain rfl:=someI hb9
         refine ⟨nofun,.inr fun ho=>?_⟩
         subst ho
         refine r_ib (r_ib (r_sq ?_))
         obtain rfl:=someI hb7
         refine ⟨nofun,.inr fun ho=>?_⟩
         subst ho
         refine r_ib (r_sq ?_)
         obtain rfl:=someI hr
         exact ret_of hF hS rfl (.tmp rfl .nil) rfl
     ·rintro e a w ⟨rfl,rfl,hF,hS⟩
      refine x_ib (n_ib (n_sq ?_))
      refine q_region (q_x (v:=(iV (w64 (t_13 + 1)))) hF hS (ex_ibin rfl rfl rfl) rfl rfl fun a hF=>q_x (v:=(iV (w64 (t_13 + 1)))) hF hS (ex_move rfl) rfl rfl fun a hF=>q_end ?_)
      obtain rfl:=someI hb7
      exact ⟨rfl,hF.sub ⟨rfl,rfl,rfl,rfl,trivial⟩,hS⟩
   ·rintro e a w ⟨rfl,rfl,hF,hS⟩
    refine x_ib (n_sq ?_)
    refine q_seq (q_region (q_x (v:=(.bool true)) hF hS (ex_assign rfl) rfl rfl fun a hF=>q_end (n_sq (q_ret ?_))))
    obtain rfl:=someI hr
    exact ret_of hF hS rfl (.tmp rfl .nil) rfl
  ·have hr:=cond_t hc6 hr
   refine q_cond_t hF rfl hc6 (q_seq (q_region (q_x (v:=(.bool false)) hF hS (ex_assign rfl) rfl rfl fun a hF=>q_end (n_sq (q_ret (r_sq ?_))))))
   obtain rfl:=someI hr
   exact ret_of hF hS rfl (.tmp rfl .nil) rfl

theorem c_impl_IsTwoWay (p_x : List (List Int)) (r : Bool) (hr : impl_IsTwoWay p_x = some r) (w0 : World) (m : Mem) (hv : Vis m w0) (s1 : Sl) (h1 : Rd m s1 p_x) :
  Ret Try.prog 22 [s1.v] w0 (fun v _=>v = (.bool r)):=by
 unfold impl_IsTwoWay at hr
 refine ret_start Try.func22 rfl 5 rfl rfl m hv fun a hF hS=>q_seq (q_region (q_x (v:=(.bool false)) hF hS (ex_assign rfl) rfl rfl fun a hF=>q_end (n_sq (q_seq (q_region (q_x (v:=s1.v) hF hS (ex_move rfl) rfl rfl fun a hF=>?_))))))
 obtain ⟨t_2,ht_2,hr⟩:=bindS hr
 refine q_call (vs:=[s1.v,(iV 1000)]) hF hS Try.func87 (by kernel_rfl) rfl rfl rfl (c_impl_isGrid p_x 1000 t_2 ht_2 _ m hS.vis s1 h1) ?_
 rintro a w _ rfl hF hS
 refine q_x (v:=(.bool t_2)) hF hS (ex_assign rfl) rfl rfl fun a hF=>q_end (n_sq (q_ret ?_))
 obtain rfl:=someI hr
 exact ret_of hF hS rfl (.tmp rfl .nil) rfl

theorem c_slices_Clone_int_int (p_s : List Int) (r : (List Int)) (hr : slices_Clone_int_int p_s = some r) (w0 : World) (m : Mem) (hv : Vis m w0) (s1 : Sl) (h1 : Rd m s1 p_s) :
  Ret Try.prog 149 [s1.v] w0 (fun v w=>∃ (q0' : Piece) (s0' : Sl),v = s0'.v∧St [] w0 w m [q0']∧OwnL m 3 q0' s0' r):=by
 unfold slices_Clone_int_int at hr
 refine ret_start Try.func149 rfl 8 rfl rfl m hv fun a hF hS=>q_seq (q_region (q_x (v:=nilS.v) hF hS (ex_assign rfl) rfl rfl fun a hF=>q_end (n_sq (q_seq (q_seq (q_region (q_x (v:=s1.v) hF hS (ex_move rfl) rfl rfl fun a hF=>q_x (v:=(.bool s1.p.isNone)) hF hS (ex_eqNil Try.underlying28 rfl rfl) rfl rfl fun a hF=>q_end (n_sq ?_))))))))
 rcases bcase (s1.p.isNone) with hc1 | hc1
 ·refine q_cond_f hF rfl hc1 (q_skipc (n_sq (q_seq (q_region (q_do rfl fun _ hK=>wp_build0 (α:=Int) hF hS Try.underlying28 inf3 rfl fun a w q2 s2 hF hS h2 _=>hK _ _ (q_x (v:=s1.v) hF hS (ex_move rfl) rfl rfl fun a hF=>?_))))))
  obtain ⟨l_3,hl_3,hr⟩:=bindS hr
  refine q_do rfl fun _ hK=>wp_append hF hS h2 Try.underlying28 inf3 rfl rfl rfl rfl (h1.vw hS.vis) rfl (by decide) hl_3 rfl fun a w q4 s4 hF hS h4=>hK _ _ (q_x (v:=s4.v) hF hS (ex_assign rfl) rfl rfl fun a hF=>q_end (n_sq (q_ret ?_)))
  obtain rfl:=someI hr
  exact ret_of hF hS rfl (.tmp rfl .nil) ⟨q4,s4,rfl,hS.sel [0] (by decide),h4⟩
 ·have hnhc1:=h1.nilE hc1
  have hr : (some ([] : List Int)) = some r:=by rw [hnhc1] at hr; exact hr
  refine q_cond_t hF rfl hc1 (q_seq (q_region (q_x (v:=nilS.v) hF hS (ex_assign rfl) rfl rfl fun a hF=>q_end (n_sq (q_ret (r_sq ?_))))))
  obtain rfl:=someI hr
  exact ret_of hF hS rfl (.tmp rfl .nil) ⟨[],nilS,rfl,hS.sel [0] (by decide),(OwnL.nil (α:=Int) m 3)⟩

theorem c_impl_copyMatrix (p_x : List (List Int)) (r : (List (List Int))) (hr : impl_copyMatrix p_x = some r) (w0 : World) (m : Mem) (hv : Vis m w0) (s1 : Sl) (h1 : Rd m s1 p_x) :
  Ret Try.prog 75 [s1.v] w0 (fun v w=>∃ (q0' : Piece) (s0' : Sl),v = s0'.v∧St [] w0 w m [q0']∧OwnD m 28 3 q0' s0' r):=by
 unfold impl_copyMatrix at hr
 refine ret_start Try.func75 rfl 23 rfl rfl m hv fun a hF hS=>q_seq (q_region (q_x (v:=nilS.v) hF hS (ex_assign rfl) rfl rfl fun a hF=>q_end (n_sq (q_seq (q_region (q_x (v:=s1.v) hF hS (ex_move rfl) rfl rfl fun a hF=>q_x (v:=(iV (goLen p_x))) hF hS (ex_len Try.underlying23 rfl h1.len) rfl rfl fun a hF=>?_))))))
 obtain ⟨l_2,hl_2,hr⟩:=bindS hr
 refine q_do rfl fun _ hK=>wp_makeD (Ei:=3) hF hS Try.underlying23 inf28 rfl rfl rfl (by decide) hl_2 rfl fun a w q3 s3 hF hS h3 _=>hK _ _ (q_x (v:=s3.v) hF hS (ex_assign rfl) rfl rfl fun a hF=>q_end (n_sq (q_seq (q_seq (q_region (q_x (v:=s1.v) hF hS (ex_move rfl) rfl rfl fun a hF=>q_x (v:=(iV (goLen p_x))) hF hS (ex_len Try.underlying23 rfl h1.len) rfl rfl fun a hF=>q_x (v:=(iV 0)) hF hS (ex_move rfl) rfl rfl fun a hF=>q_end (n_sq (q_block ?_))))))))
 obtain ⟨out_16,hl1,hr⟩:=bindS hr
 refine q_loop (fun (s : (List (List Int)) × Int) a w=>∃ (q5 : Piece),∃ out_4,∃ t_6,s = (out_4,t_6)∧Fr a 23 [(3,s3.v),(9,s1.v),(10,(iV (goLen p_x))),(11,(iV t_6))]∧St [] w0 w m [q5]∧OwnD m 28 3 q5 s3 out_4) (fun (out_16 : (List (List Int))) e a w=>∃ (q17 : Piece),e = .exit 0∧Fr a 23 [(3,s3.v)]∧St [] w0 w m [q17]∧OwnD m 28 3 q17 s3 out_16) hl1 ⟨q3,_,_,rfl,hF.sub ⟨rfl,rfl,rfl,rfl,trivial⟩,hS,h3⟩ ?_ ?_
 ·clear hF hS
  rintro s a w st ⟨q5,out_4,t_6,rfl,hF,hS,h5⟩ hb1
  unfold impl_copyMatrix_l1 at hb1
  refine q_seq (q_region (q_x (v:=(.bool (decide (t_6 < (goLen p_x))))) hF hS (ex_ibin rfl rfl rfl) rfl rfl fun a hF=>q_end (n_sq (q_seq ?_))))
  rcases bcase (decide (t_6 < (goLen p_x))) with hc2 | hc2
  ·have hb1:=cond_f hc2 hb1
   refine q_cond_f hF rfl hc2 (q_exit (x_sq ?_))
   obtain rfl:=someI hb1
   exact ⟨nofun,.inl ⟨q5,rfl,hF.sub ⟨rfl,trivial⟩,hS,h5⟩⟩
  ·have hb1:=cond_t hc2 hb1
   refine q_cond_t hF rfl hc2 (q_skipc (n_sq (q_seq (q_block (q_seq (q_region (q_x (v:=(iV t_6)) hF hS (ex_move rfl) rfl rfl fun a hF=>?_)))))))
   obtain ⟨e_7,he_7,hb1⟩:=bindS hb1
   obtain ⟨vs8,at8,d8⟩:=h1.at he_7 1 rfl
   obtain ⟨s9,rfl,h9⟩ : ∃ s9 : Sl,vs8 = [s9.v]∧Rd m s9 e_7:=d8
   refine q_x (v:=(elP s1 (t_6.toNat * 1))) hF hS (ex_indexAddr Try.underlying23 sz28 rfl rfl (h1.idx he_7)) rfl rfl fun a hF=>q_x (v:=s9.v) hF hS (ex_loadE1 0 Try.underlying28 rfl rfl ((at8).at) rfl rfl) rfl rfl fun a hF=>q_x (v:=(iV t_6)) hF hS (ex_assign rfl) rfl rfl fun a hF=>q_x (v:=s9.v) hF hS (ex_assign rfl) rfl rfl fun a hF=>q_end (n_sq (q_region (q_x (v:=s3.v) hF hS (ex_move rfl) rfl rfl fun a hF=>q_x (v:=(iV t_6)) hF hS (ex_move rfl) rfl rfl fun a hF=>q_x (v:=s9.v) hF hS (ex_move rfl) rfl rfl fun a hF=>?_)))
   obtain ⟨t_10,ht_10,hb1⟩:=bindS hb1
   refine q_call (vs:=[s9.v]) hF hS Try.func149 (by kernel_rfl) rfl rfl rfl (c_slices_Clone_int_int e_7 t_10 ht_10 _ m hS.vis s9 h9) ?_
   rintro a w _ ⟨q12,s12,rfl,hR11,h12⟩ hF hS2
   have hS : St _ _ _ _ [q12,q5]:=hS.joinF hR11
   obtain ⟨e_13,he_13,hb1⟩:=bindS hb1
   obtain ⟨s14,hV14⟩:=h5.view he_13
   refine q_x (v:=(elP s3 (t_6.toNat * 1))) hF hS (ex_indexAddr Try.underlying23 sz28 rfl rfl (h5.idx he_13)) rfl rfl fun a hF=>?_
   have hS : St _ _ _ _ [q5,q12]:=hS.sel [1,0] (by decide)
   refine q_do rfl fun _ hK=>wp_storeD hF hS h5 h12 sz28 rfl rfl he_13 rfl fun w q15 hS h15=>hK _ _ (q_end (n_ib (n_sq (q_region (q_x (v:=(iV (w64 (t_6 + 1)))) hF hS (ex_ibin rfl rfl rfl) rfl rfl fun a hF=>q_x (v:=(iV (w64 (t_6 + 1)))) hF hS (ex_move rfl) rfl rfl fun a hF=>q_end ?_)))))
   obtain rfl:=someI hb1
   exact ⟨rfl,q15,_,_,rfl,hF.sub ⟨rfl,rfl,rfl,rfl,trivial⟩,hS,h15⟩
 ·rintro e a w ⟨q17,rfl,hF,hS,h17⟩
  refine x_ib (n_sq ?_)
  refine q_seq (q_region (q_x (v:=s3.v) hF hS (ex_move rfl) rfl rfl fun a hF=>q_x (v:=s3.v) hF hS (ex_assign rfl) rfl rfl fun a hF=>q_end (n_sq (q_ret ?_))))
  obtain rfl:=someI hr
  exact ret_of hF hS rfl (.tmp rfl .nil) ⟨q17,s3,rfl,hS.sel [0] (by decide),h17⟩

theorem c_impl_ThresholdCells (p_x : List (List Int)) (p_t : Int) (r : (List (List Int)) × Bool) (hr : impl_ThresholdCells p_x p_t = some r) (w0 : World) (m : Mem) (hv : Vis m w0) (s1 : Sl) (h1 : Rd m s1 p_x) :
  Ret Try.prog 9 [s1.v,(iV p_t)] w0 (fun v w=>∃ (q0' : Piece) (s0' : Sl),v = (.tuple #[s0'.v,(.bool r.2)])∧St [] w0 w m [q0']∧OwnD m 28 3 q0' s0' r.1):=by
 unfold impl_ThresholdCells at hr
 refine ret_start Try.func9 rfl 53 rfl rfl m hv fun a hF hS=>q_seq (q_region (q_x (v:=nilS.v) hF hS (ex_assign rfl) rfl rfl fun a hF=>q_x (v:=(.bool false)) hF hS (ex_assign rfl) rfl rfl fun a hF=>q_end (n_sq (q_seq (q_seq ?_)))))
 obtain ⟨t_3,hj1,hr⟩:=bindS hr
 refine q_join (fun a w=>Fr a 53 [(0,s1.v),(1,(iV p_t)),(21,(.bool t_3))]∧St [] w0 w m []) ?_ ?_
 ·refine q_region (q_x (v:=s1.v) hF hS (ex_move rfl) rfl rfl fun a hF=>?_)
  obtain ⟨t_2,ht_2,hj1⟩:=bindS hj1
  refine q_call (vs:=[s1.v]) hF hS Try.func22 (by kernel_rfl) rfl rfl rfl (c_impl_IsTwoWay p_x t_2 ht_2 _ m hS.vis s1 h1) ?_
  rintro a w _ rfl hF hS
  refine q_x (v:=(.bool (!t_2))) hF hS (ex_not rfl) rfl rfl fun a hF=>q_x (v:=(.bool (!t_2))) hF hS (ex_move rfl) rfl rfl fun a hF=>?_
  rcases bcase (!t_2) with hc2 | hc2
  ·have hj1:=cond_f hc2 hj1
   refine q_xg (v:=(iV p_t)) hF hS (ex_move rfl) (wanted_t hF rfl rfl rfl hc2) rfl fun a hF=>q_xg (v:=(.bool (decide (p_t < 0)))) hF hS (ex_ibin rfl rfl rfl) (wanted_t hF rfl rfl rfl hc2) rfl fun a hF=>q_x (v:=(.bool (decide (p_t < 0)))) hF hS (ex_pick_f rfl rfl hc2) rfl rfl fun a hF=>q_x (v:=(.bool (decide (p_t < 0)))) hF hS (ex_move rfl) rfl rfl fun a hF=>?_
   rcases bcase (decide (p_t < 0)) with hc3 | hc3
   ·have hj1:=cond_f hc3 hj1
    refine q_xg (v:=(iV p_t)) hF hS (ex_move rfl) (wanted_t hF rfl rfl rfl hc3) rfl fun a hF=>q_xg (v:=(.bool (decide (1001 < p_t)))) hF hS (ex_ibin rfl rfl rfl) (wanted_t hF rfl rfl rfl hc3) rfl fun a hF=>q_x (v:=(.bool (decide (1001 < p_t)))) hF hS (ex_pick_f rfl rfl hc3) rfl rfl fun a hF=>q_end (n_jn ?_)
    obtain rfl:=someI hj1
    exact ⟨hF.sub ⟨rfl,rfl,rfl,trivial⟩,hS⟩
   ·have hj1:=cond_t hc3 hj1
    refine q_skip hF (wanted_f hF rfl rfl rfl hc3 rfl) rfl fun a hF=>q_skip hF (wanted_f hF rfl rfl rfl hc3 rfl) rfl fun a hF=>q_x (v:=(.bool true)) hF hS (ex_pick_t rfl rfl hc3) rfl rfl fun a hF=>q_end (n_jn ?_)
    obtain rfl:=someI hj1
    exact ⟨hF.sub ⟨rfl,rfl,rfl,trivial⟩,hS⟩
  ·have hj1:=cond_t hc2 hj1
   refine q_skip hF (wanted_f hF rfl rfl rfl hc2 rfl) rfl fun a hF=>q_skip hF (wanted_f hF rfl rfl rfl hc2 rfl) rfl fun a hF=>q_x (v:=(.bool true)) hF hS (ex_pick_t rfl rfl hc2) rfl rfl fun a hF=>q_x (v:=(.bool true)) hF hS (ex_move rfl) rfl rfl fun a hF=>q_skip hF (wanted_f hF rfl rfl rfl rfl rfl) rfl fun a hF=>q_skip hF (wanted_f hF rfl rfl rfl rfl rfl) rfl fun a hF=>q_x (v:=(.bool true)) hF hS (ex_pick_t rfl rfl rfl) rfl rfl fun a hF=>q_end (n_jn ?_)
   obtain rfl:=someI hj1
   exact ⟨hF.sub ⟨rfl,rfl,rfl,trivial⟩,hS⟩
 ·rintro a w ⟨hF,hS⟩
  refine n_sq ?_
  rcases bcase (t_3) with hc4 | hc4
  ·have hr:=cond_f hc4 hr
   refine q_cond_f hF rfl hc4 (q_skipc (n_sq (q_seq (q_region (q_x (v:=s1.v) hF hS (ex_move rfl) rfl rfl fun a hF=>?_)))))
   obtain ⟨t_4,ht_4,hr⟩:=bindS hr
   refine q_call (vs:=[s1.v]) hF hS Try.func75 (by kernel_rfl) rfl rfl rfl (c_impl_copyMatrix p_x t_4 ht_4 _ m hS.vis s1 h1) ?_
   rintro a w _ ⟨q6,s6,rfl,hR5,h6⟩ hF hS2
   have hS : St _ _ _ _ [q6]:=hS.joinF hR5
   refine q_x (v:=s6.v) hF hS (ex_assign rfl) rfl rfl fun a hF=>q_end (n_sq (q_seq (q_seq (q_region (q_x (v:=s6.v) hF hS (ex_move rfl) rfl rfl fun a hF=>q_x (v:=(iV (goLen t_4))) hF hS (ex_len Try.underlying23 rfl h6.len) rfl rfl fun a hF=>q_x (v:=(iV 0)) hF hS (ex_move rfl) rfl rfl fun a hF=>q_end (n_sq (q_block ?_)))))))
   obtain ⟨p_34,hl5,hr⟩:=bindS hr
   refine q_loop (fun (s : (List (List Int)) × Int) a w=>∃ (q8 : Piece),∃ p_7,∃ t_9,s = (p_7,t_9)∧Fr a 53 [(1,(iV p_t)),(6,s6.v),(24,s6.v),(25,(iV (goLen t_4))),(26,(iV t_9))]∧St [] w0 w m [q8]∧OwnD m 28 3 q8 s6 p_7) (fun (p_34 : (List (List Int))) e a w=>∃ (q35 : Piece),e = .exit 0∧Fr a 53 [(6,s6.v)]∧St [] w0 w m [q35]∧OwnD m 28 3 q35 s6 p_34) hl5 ⟨q6,_,_,rfl,hF.sub ⟨rfl,rfl,rfl,rfl,rfl,trivial⟩,hS,h6⟩ ?_ ?_
   ·clear hF hS
    rintro s a w st ⟨q8,p_7,t_9,rfl,hF,hS,h8⟩ hb5
    unfold impl_ThresholdCells_l1 at hb5
    refine q_seq (q_region (q_x (v:=(.bool (decide (t_9 < (goLen t_4))))) hF hS (ex_ibin rfl rfl rfl) rfl rfl fun a hF=>q_end (n_sq (q_seq ?_))))
    rcases bcase (decide (t_9 < (goLen t_4))) with hc6 | hc6
    ·have hb5:=cond_f hc6 hb5
     refine q_cond_f hF rfl hc6 (q_exit (x_sq ?_))
     obtain rfl:=someI hb5
     exact ⟨nofun,.inl ⟨q8,rfl,hF.sub ⟨rfl,trivial⟩,hS,h8⟩⟩
    ·have hb5:=cond_t hc6 hb5
     refine q_cond_t hF rfl hc6 (q_skipc (n_sq (q_seq (q_block (q_seq (q_region ?_))))))
     obtain ⟨e_10,he_10,hb5⟩:=bindS hb5
     obtain ⟨s11,hV11⟩:=h8.view he_10
     refine q_x (v:=(elP s6 (t_9.toNat * 1))) hF hS (ex_indexAddr Try.underlying23 sz28 rfl rfl (h8.idx he_10)) rfl rfl fun a hF=>q_x (v:=s11.v) hF hS (ex_loadE1 0 Try.underlying28 rfl rfl ((hV11.atH he_10).at 0 rfl) rfl rfl) rfl rfl fun a hF=>q_x (v:=s11.v) hF hS (ex_assign rfl) rfl rfl fun a hF=>q_end (n_sq (q_seq (q_region (q_x (v:=s11.v) hF hS (ex_move rfl) rfl rfl fun a hF=>q_x (v:=(iV (goLen e_10))) hF hS (ex_len Try.underlying28 rfl (hV11.len he_10)) rfl rfl fun a hF=>q_x (v:=(iV 0)) hF hS (ex_move rfl) rfl rfl fun a hF=>q_end (n_sq (q_block ?_))))))
     obtain ⟨p_32,hl7,hb5⟩:=bindS hb5
     refine q_loop (fun (s : (List (List Int)) × Int × (List Int) × (List Int)) a w=>∃ (q13 : Piece),∃ p_12,∃ t_14,∃ row_15,∃ t_17,s = (p_12,t_14,row_15,t_17)∧Fr a 53 [(1,(iV p_t)),(6,s6.v),(8,s11.v),(24,s6.v),(25,(iV (goLen t_4))),(26,(iV t_9)),(30,s11.v),(31,(iV (goLen e_10))),(32,(iV t_14))]∧St [] w0 w m [q13]∧OwnD m 28 3 q13 s6 p_12∧ViewD m 28 3 q13 s6 p_12 t_9 s11∧goAt p_12 t_9 = some row_15∧ViewD m 28 3 q13 s6 p_12 t_9 s11∧goAt p_12 t_9 = some t_17) (fun (p_32 : (List (List Int))) e a w=>∃ (q33 : Piece),e = .exit 2∧Fr a 53 [(1,(iV p_t)),(6,s6.v),(24,s6.v),(25,(iV (goLen t_4))),(26,(iV t_9))]∧St [] w0 w m [q33]∧OwnD m 28 3 q33 s6 p_32) hl7 ⟨q8,_,_,_,_,rfl,hF.sub ⟨rfl,rfl,rfl,rfl,rfl,rfl,rfl,rfl,rfl,trivial⟩,hS,h8,hV11,he_10,hV11,he_10⟩ ?_ ?_
     ·clear hF hS
      rintro s a w st ⟨q13,p_12,t_14,row_15,t_17,rfl,hF,hS,h13,h16,h16x,h18,h18x⟩ hb7
      unfold impl_ThresholdCells_l2 at hb7
      refine q_seq (q_region (q_x (v:=(.bool (decide (t_14 < (goLen e_10))))) hF hS (ex_ibin rfl rfl rfl) rfl rfl fun a hF=>q_end (n_sq (q_seq ?_))))
      rcases bcase (decide (t_14 < (goLen e_10))) with hc8 | hc8
      ·have hb7:=cond_f hc8 hb7
       refine q_cond_f hF rfl hc8 (q_exit (x_sq ?_))
       obtain rfl:=someI hb7
       exact ⟨nofun,.inl ⟨q13,rfl,hF.sub ⟨rfl,rfl,rfl,rfl,rfl,trivial⟩,hS,h13⟩⟩
      ·have hb7:=cond_t hc8 hb7
       refine q_cond_t hF rfl hc8 (q_skipc (n_sq (q_seq (q_block (q_seq (q_region (q_x (v:=(iV t_14)) hF hS (ex_move rfl) rfl rfl fun a hF=>?_)))))))
       obtain ⟨e_19,he_19,hb7⟩:=bindS hb7
       obtain ⟨vs20,at20,d20⟩:=h18.at h18x he_19 1 rfl
       obtain rfl : vs20 = [(iV e_19)]:=d20
       refine q_x (v:=(elP s11 (t_14.toNat * 1))) hF hS (ex_indexAddr Try.underlying28 sz3 rfl rfl (h18.idx h18x he_19)) rfl rfl fun a hF=>q_x (v:=(iV e_19)) hF hS (ex_loadE1 0 Try.underlying3 rfl rfl (at20.at 0 rfl) rfl rfl) rfl rfl fun a hF=>q_x (v:=(iV t_14)) hF hS (ex_assign rfl) rfl rfl fun a hF=>q_x (v:=(iV e_19)) hF hS (ex_assign rfl) rfl rfl fun a hF=>q_end (n_sq (q_seq (q_region (q_x (v:=s11.v) hF hS (ex_move rfl) rfl rfl fun a hF=>q_x (v:=(iV t_14)) hF hS (ex_move rfl) rfl rfl fun a hF=>?_))))
       obtain ⟨e_21,he_21,hb7⟩:=bindS hb7
       obtain ⟨vs22,at22,d22⟩:=h16.at h16x he_21 1 rfl
       obtain rfl : vs22 = [(iV e_21)]:=d22
       refine q_x (v:=(elP s11 (t_14.toNat * 1))) hF hS (ex_indexAddr Try.underlying28 sz3 rfl rfl (h16.idx h16x he_21)) rfl rfl fun a hF=>q_do rfl fun _ hK=>wp_storeV (e':=0) (us:=[(iV 0)]) (vs:=[(iV e_21)]) 0 hF hS h16 h16x sz3 rfl rfl rfl rfl rfl rfl rfl he_21 at22 rfl rfl rfl fun w q23 hS h23=>hK _ _ (q_end (n_sq (q_seq ?_)))
       obtain ⟨t_24,hj9,hb7⟩:=bindS hb7
       refine q_join (fun a w=>Fr a 53 [(1,(iV p_t)),(6,s6.v),(8,s11.v),(9,(iV t_14)),(24,s6.v),(25,(iV (goLen t_4))),(26,(iV t_9)),(30,s11.v),(31,(iV (goLen e_10))),(32,(iV t_14)),(46,(.bool t_24))]∧St [] w0 w m [q23]) ?_ ?_
       ·refine q_region (q_x (v:=(iV e_19)) hF hS (ex_move rfl) rfl rfl fun a hF=>q_x (v:=(.bool (decide (0 < e_19)))) hF hS (ex_ibin rfl rfl rfl) rfl rfl fun a hF=>q_x (v:=(.bool (decide (0 < e_19)))) hF hS (ex_move rfl) rfl rfl fun a hF=>?_)
        rcases bcase (decide (0 < e_19)) with hc10 | hc10
        ·have hj9:=cond_f hc10 hj9
         refine q_skip hF (wanted_f hF rfl rfl rfl hc10 rfl) rfl fun a hF=>q_skip hF (wanted_f hF rfl rfl rfl hc10 rfl) rfl fun a hF=>q_skip hF (wanted_f hF rfl rfl rfl hc10 rfl) rfl fun a hF=>q_x (v:=(.bool false)) hF hS (ex_pick_f rfl rfl hc10) rfl rfl fun a hF=>q_end (n_jn ?_)
         obtain rfl:=someI hj9
         exact ⟨hF.sub ⟨rfl,rfl,rfl,rfl,rfl,rfl,rfl,rfl,rfl,rfl,rfl,trivial⟩,hS⟩
        ·have hj9:=cond_t hc10 hj9
         refine q_xg (v:=(iV e_19)) hF hS (ex_move rfl) (wanted_t hF rfl rfl rfl hc10) rfl fun a hF=>q_xg (v:=(iV p_t)) hF hS (ex_move rfl) (wanted_t hF rfl rfl rfl hc10) rfl fun a hF=>q_xg (v:=(.bool (decide (e_19 < p_t)))) hF hS (ex_ibin rfl rfl rfl) (wanted_t hF rfl rfl rfl hc10) rfl fun a hF=>q_x (v:=(.bool (decide (e_19 < p_t)))) hF hS (ex_pick_t rfl rfl hc10) rfl rfl fun a hF=>q_end (n_jn ?_)
         obtain rfl:=someI hj9
         exact ⟨hF.sub ⟨rfl,rfl,rfl,rfl,rfl,rfl,rfl,rfl,rfl,rfl,rfl,trivial⟩,hS⟩
       ·rintro a w ⟨hF,hS⟩
        refine n_sq ?_
        obtain ⟨j11,hj11,hb7⟩:=bindS hb7
        refine q_join (fun a w=>∃ (q29 : Piece),∃ p_28,∃ row_30,j11 = (p_28,row_30)∧Fr a 53 [(1,(iV p_t)),(6,s6.v),(8,s11.v),(24,s6.v),(25,(iV (goLen t_4))),(26,(iV t_9)),(30,s11.v),(31,(iV (goLen e_10))),(32,(iV t_14))]∧St [] w0 w m [q29]∧OwnD m 28 3 q29 s6 p_28∧ViewD m 28 3 q29 s6 p_28 t_9 s11∧goAt p_28 t_9 = some row_30) ?_ ?_
        ·rcases bcase (t_24) with hc12 | hc12
         ·have hj11:=cond_f hc12 hj11
          refine q_cond_f hF rfl hc12 (q_skipc (n_jn ?_))
          obtain rfl:=someI hj11
          exact ⟨q23,_,_,rfl,hF.sub ⟨rfl,rfl,rfl,rfl,rfl,rfl,rfl,rfl,rfl,trivial⟩,hS,h23.own,h23,(goAt_goSet h16x)⟩
         ·have hj11:=cond_t hc12 hj11
          refine q_cond_t hF rfl hc12 (q_region (q_x (v:=s11.v) hF hS (ex_move rfl) rfl rfl fun a hF=>q_x (v:=(iV t_14)) hF hS (ex_move rfl) rfl rfl fun a hF=>?_))
          obtain ⟨e_25,he_25,hj11⟩:=bindS hj11
          obtain ⟨vs26,at26,d26⟩:=h23.at (goAt_goSet h16x) he_25 1 rfl
          obtain rfl : vs26 = [(iV e_25)]:=d26
          refine q_x (v:=(elP s11 (t_14.toNat * 1))) hF hS (ex_indexAddr Try.underlying28 sz3 rfl rfl (h23.idx (goAt_goSet h16x) he_25)) rfl rfl fun a hF=>q_do rfl fun _ hK=>wp_storeV (e':=1) (us:=[(iV 1)]) (vs:=[(iV e_25)]) 0 hF hS h23 (goAt_goSet h16x) sz3 rfl rfl rfl rfl rfl rfl rfl he_25 at26 rfl rfl rfl fun w q27 hS h27=>hK _ _ (q_end (n_jn ?_))
          obtain rfl:=someI hj11
          exact ⟨q27,_,_,rfl,hF.sub ⟨rfl,rfl,rfl,rfl,rfl,rfl,rfl,rfl,rfl,trivial⟩,hS,h27.own,h27,(goAt_goSet (goAt_goSet h16x))⟩
        ·rintro a w ⟨q29,p_28,row_30,rfl,hF,hS,h29,h31,h31x⟩
         refine n_ib (n_sq ?_)
         refine q_region (q_x (v:=(iV (w64 (t_14 + 1)))) hF hS (ex_ibin rfl rfl rfl) rfl rfl fun a hF=>q_x (v:=(iV (w64 (t_14 + 1)))) hF hS (ex_move rfl) rfl rfl fun a hF=>q_end ?_)
         obtain rfl:=someI hb7
         exact ⟨rfl,q29,_,_,_,_,rfl,hF.sub ⟨rfl,rfl,rfl,rfl,rfl,rfl,rfl,rfl,rfl,trivial⟩,hS,h29,h31,h31x,h31,h31x⟩
     ·rintro e a w ⟨q33,rfl,hF,hS,h33⟩
      refine x_ib (n_ib (n_sq ?_))
      refine q_region (q_x (v:=(iV (w64 (t_9 + 1)))) hF hS (ex_ibin rfl rfl rfl) rfl rfl fun a hF=>q_x (v:=(iV (w64 (t_9 + 1)))) hF hS (ex_move rfl) rfl rfl fun a hF=>q_end ?_)
      obtain rfl:=someI hb5
      exact ⟨rfl,q33,_,_,rfl,hF.sub ⟨rfl,rfl,rfl,rfl,rfl,trivial⟩,hS,h33⟩
   ·rintro e a w ⟨q35,rfl,hF,hS,h35⟩
    refine x_ib (n_sq ?_)
    refine q_seq (q_region (q_x (v:=s6.v) hF hS (ex_move rfl) rfl rfl fun a hF=>q_x (v:=s6.v) hF hS (ex_assign rfl) rfl rfl fun a hF=>q_x (v:=(.bool true)) hF hS (ex_assign rfl) rfl rfl fun a hF=>q_end (n_sq (q_ret ?_))))
    obtain rfl:=someI hr
    exact ret_of hF hS rfl (.tmp rfl (.tmp rfl .nil)) ⟨q35,s6,rfl,hS.sel [0] (by decide),h35⟩
  ·have hr:=cond_t hc4 hr
   refine q_cond_t hF rfl hc4 (q_seq (q_region (q_x (v:=nilS.v) hF hS (ex_assign rfl) rfl rfl fun a hF=>q_x (v:=(.bool false)) hF hS (ex_assign rfl) rfl rfl fun a hF=>q_end (n_sq (q_ret (r_sq ?_))))))
   obtain rfl:=someI hr
   exact ret_of hF hS rfl (.tmp rfl (.tmp rfl .nil)) ⟨[],nilS,rfl,hS.sel [0] (by decide),(OwnD.nil (β:=Int) m 28 3)⟩

theorem c_spec_l1In (p_n : Int) (p_lo : Int) (p_hi : Int) (r : Bool) (hr : spec_l1In p_n p_lo p_hi = some r) (w0 : World) (m : Mem) (hv : Vis m w0) :
  Ret Try.prog 77 [(iV p_n),(iV p_lo),(iV p_hi)] w0 (fun v _=>v = (.bool r)):=by
 unfold spec_l1In at hr
 refine ret_start Try.func77 rfl 15 rfl rfl m hv fun a hF hS=>q_seq (q_region (q_x (v:=(.bool false)) hF hS (ex_assign rfl) rfl rfl fun a hF=>q_end (n_sq (q_seq ?_))))
 obtain ⟨t_1,hj1,hr⟩:=bindS hr
 refine q_join (fun a w=>Fr a 15 [(6,(.bool t_1))]∧St [] w0 w m []) ?_ ?_
 ·refine q_region (q_x (v:=(iV p_n)) hF hS (ex_move rfl) rfl rfl fun a hF=>q_x (v:=(iV p_lo)) hF hS (ex_move rfl) rfl rfl fun a hF=>q_x (v:=(.bool (decide (p_lo ≤ p_n)))) hF hS (ex_ibin rfl rfl rfl) rfl rfl fun a hF=>q_x (v:=(.bool (decide (p_lo ≤ p_n)))) hF hS (ex_move rfl) rfl rfl fun a hF=>?_)
  rcases bcase (decide (p_lo ≤ p_n)) with hc2 | hc2
  ·have hj1:=cond_f hc2 hj1
   refine q_skip hF (wanted_f hF rfl rfl rfl hc2 rfl) rfl fun a hF=>q_skip hF (wanted_f hF rfl rfl rfl hc2 rfl) rfl fun a hF=>q_skip hF (wanted_f hF rfl rfl rfl hc2 rfl) rfl fun a hF=>q_x (v:=(.bool false)) hF hS (ex_pick_f rfl rfl hc2) rfl rfl fun a hF=>q_x (v:=(.bool false)) hF hS (ex_assign rfl) rfl rfl fun a hF=>q_end (n_jn ?_)
   obtain rfl:=someI hj1
   exact ⟨hF.sub ⟨rfl,trivial⟩,hS⟩
  ·have hj1:=cond_t hc2 hj1
   refine q_xg (v:=(iV p_n)) hF hS (ex_move rfl) (wanted_t hF rfl rfl rfl hc2) rfl fun a hF=>q_xg (v:=(iV p_hi)) hF hS (ex_move rfl) (wanted_t hF rfl rfl rfl hc2) rfl fun a hF=>q_xg (v:=(.bool (decide (p_n ≤ p_hi)))) hF hS (ex_ibin rfl rfl rfl) (wanted_t hF rfl rfl rfl hc2) rfl fun a hF=>q_x (v:=(.bool (decide (p_n ≤ p_hi)))) hF hS (ex_pick_t rfl rfl hc2) rfl rfl fun a hF=>q_x (v:=(.bool (decide (p_n ≤ p_hi)))) hF hS (ex_assign rfl) rfl rfl fun a hF=>q_end (n_jn ?_)
   obtain rfl:=someI hj1
   exact ⟨hF.sub ⟨rfl,trivial⟩,hS⟩
 ·rintro a w ⟨hF,hS⟩
  refine n_sq (q_ret ?_)
  obtain rfl:=someI hr
  exact ret_of hF hS rfl (.tmp rfl .nil) rfl

theorem c_spec_l1All (p_l : List Int) (p_lo : Int) (p_hi : Int) (r : Bool) (hr : spec_l1All p_l p_lo p_hi = some r) (w0 : World) (m : Mem) (hv : Vis m w0) (s1 : Sl) (h1 : Rd m s1 p_l) :
  Ret Try.prog 152 [s1.v,(iV p_lo),(iV p_hi)] w0 (fun v _=>v = (.bool r)):=by
 unfold spec_l1All at hr
 refine ret_start Try.func152 rfl 21 rfl rfl m hv fun a hF hS=>q_seq (q_region (q_x (v:=(.bool false)) hF hS (ex_assign rfl) rfl rfl fun a hF=>q_end (n_sq (q_seq (q_seq (q_region (q_x (v:=s1.v) hF hS (ex_move rfl) rfl rfl fun a hF=>q_x (v:=(iV (goLen p_l))) hF hS (ex_len Try.underlying28 rfl h1.len) rfl rfl fun a hF=>q_x (v:=(iV 0)) hF hS (ex_move rfl) rfl rfl fun a hF=>q_end (n_sq (q_block ?_)))))))))
 obtain ⟨o1,hl1,hr⟩:=bindS hr
 refine q_loop (fun (t_2 : Int) a w=>Fr a 21 [(1,(iV p_lo)),(2,(iV p_hi)),(9,s1.v),(10,(iV (goLen p_l))),(11,(iV t_2))]∧St [] w0 w m []) (fun (o : (Unit) ⊕ (Bool)) e a w=>o = .inl ()∧e = .exit 0∧Fr a 21 []∧St [] w0 w m []) hl1 ⟨hF.sub ⟨rfl,rfl,rfl,rfl,rfl,trivial⟩,hS⟩ ?_ ?_
 ·clear hF hS
  rintro t_2 a w st ⟨hF,hS⟩ hb1
  unfold spec_l1All_l1 at hb1
  refine q_seq (q_region (q_x (v:=(.bool (decide (t_2 < (goLen p_l))))) hF hS (ex_ibin rfl rfl rfl) rfl rfl fun a hF=>q_end (n_sq (q_seq ?_))))
  rcases bcase (decide (t_2 < (goLen p_l))) with hc2 | hc2
  ·have hb1:=cond_f hc2 hb1
   refine q_cond_f hF rfl hc2 (q_exit (x_sq ?_))
   obtain rfl:=someI hb1
   exact ⟨nofun,.inl ⟨rfl,rfl,hF.sub trivial,hS⟩⟩
  ·have hb1:=cond_t hc2 hb1
   refine q_cond_t hF rfl hc2 (q_skipc (n_sq (q_seq (q_block (q_seq (q_region ?_))))))
   obtain ⟨e_3,he_3,hb1⟩:=bindS hb1
   obtain ⟨vs4,at4,d4⟩:=h1.at he_3 1 rfl
   obtain rfl : vs4 = [(iV e_3)]:=d4
   refine q_x (v:=(elP s1 (t_2.toNat * 1))) hF hS (ex_indexAddr Try.underlying28 sz3 rfl rfl (h1.idx he_3)) rfl rfl fun a hF=>q_x (v:=(iV e_3)) hF hS (ex_loadE1 0 Try.underlying3 rfl rfl ((at4).at) rfl rfl) rfl rfl fun a hF=>q_x (v:=(iV e_3)) hF hS (ex_assign rfl) rfl rfl fun a hF=>q_end (n_sq (q_seq (q_region (q_x (v:=(iV e_3)) hF hS (ex_move rfl) rfl rfl fun a hF=>q_x (v:=(iV p_lo)) hF hS (ex_move rfl) rfl rfl fun a hF=>q_x (v:=(iV p_hi)) hF hS (ex_move rfl) rfl rfl fun a hF=>?_))))
   obtain ⟨t_5,ht_5,hb1⟩:=bindS hb1
   refine q_call (vs:=[(iV e_3),(iV p_lo),(iV p_hi)]) hF hS Try.func77 (by kernel_rfl) rfl rfl rfl (c_spec_l1In e_3 p_lo p_hi t_5 ht_5 _ m hS.vis) ?_
   rintro a w _ rfl hF hS
   refine q_x (v:=(.bool (!t_5))) hF hS (ex_not rfl) rfl rfl fun a hF=>q_end (n_sq ?_)
   rcases bcase (!t_5) with hc3 | hc3
   ·have hb1:=cond_f hc3 hb1
    refine q_cond_f hF rfl hc3 (q_skipc (n_ib (n_sq (q_region (q_x (v:=(iV (w64 (t_2 + 1)))) hF hS (ex_ibin rfl rfl rfl) rfl rfl fun a hF=>q_x (v:=(iV (w64 (t_2 + 1)))) hF hS (ex_move rfl) rfl rfl fun a hF=>q_end ?_)))))
    obtain rfl:=someI hb1
    exact ⟨rfl,hF.sub ⟨rfl,rfl,rfl,rfl,rfl,trivial⟩,hS⟩
   ·have hb1:=cond_t hc3 hb1
    refine q_cond_t hF rfl hc3 (q_seq (q_region (q_x (v:=(.bool false)) hF hS (ex_assign rfl) rfl rfl fun a hF=>q_end (n_sq (q_ret (r_ib (r_sq ?_)))))))
    obtain rfl:=someI hb1
    refine ⟨nofun,.inr fun ho=>?_⟩
    subst ho
    refine r_ib (r_sq ?_)
    obtain rfl:=someI hr
    exact ret_of hF hS rfl (.tmp rfl .nil) rfl
 ·rintro e a w ⟨rfl,rfl,hF,hS⟩
  refine x_ib (n_sq ?_)
  refine q_seq (q_region (q_x (v:=(.bool true)) hF hS (ex_assign rfl) rfl rfl fun a hF=>q_end (n_sq (q_ret ?_))))
  obtain rfl:=someI hr
  exact ret_of hF hS rfl (.tmp rfl .nil) rfl

theorem c_spec_qForm (p_x : List (List Int)) (p_hi : Int) (r : Bool) (hr : spec_qForm p_x p_hi = some r) (w0 : World) (m : Mem) (hv : Vis m w0) (s1 : Sl) (h1 : Rd m s1 p_x) :
  Ret Try.prog 90 [s1.v,(iV p_hi)] w0 (fun v _=>v = (.bool r)):=by
 unfold spec_qForm at hr
 refine ret_start Try.func90 rfl 39 rfl rfl m hv fun a hF hS=>q_seq (q_region (q_x (v:=(.bool false)) hF hS (ex_assign rfl) rfl rfl fun a hF=>q_end (n_sq (q_seq (q_seq ?_)))))
 obtain ⟨t_7,hj1,hr⟩:=bindS hr
 refine q_join (fun a w=>Fr a 39 [(0,s1.v),(1,(iV p_hi)),(18,(.bool t_7))]∧St [] w0 w m []) ?_ ?_
 ·refine q_region (q_x (v:=s1.v) hF hS (ex_move rfl) rfl rfl fun a hF=>q_x (v:=(iV (goLen p_x))) hF hS (ex_len Try.underlying23 rfl h1.len) rfl rfl fun a hF=>?_)
  obtain ⟨t_2,ht_2,hj1⟩:=bindS hj1
  refine q_call (vs:=[(iV (goLen p_x)),(iV 1),(iV 8)]) hF hS Try.func77 (by kernel_rfl) rfl rfl rfl (c_spec_l1In (goLen p_x) 1 8 t_2 ht_2 _ m hS.vis) ?_
  rintro a w _ rfl hF hS
  refine q_x (v:=(.bool (!t_2))) hF hS (ex_not rfl) rfl rfl fun a hF=>q_x (v:=(.bool (!t_2))) hF hS (ex_move rfl) rfl rfl fun a hF=>?_
  rcases bcase (!t_2) with hc2 | hc2
  ·have hj1:=cond_f hc2 hj1
   refine q_xg (v:=s1.v) hF hS (ex_move rfl) (wanted_t hF rfl rfl rfl hc2) rfl fun a hF=>?_
   obtain ⟨e_3,he_3,hj1⟩:=bindS hj1
   obtain ⟨vs4,at4,d4⟩:=h1.at he_3 1 rfl
   obtain ⟨s5,rfl,h5⟩ : ∃ s5 : Sl,vs4 = [s5.v]∧Rd m s5 e_3:=d4
   refine q_xg (v:=(elP s1 ((0 : Int).toNat * 1))) hF hS (ex_indexAddr Try.underlying23 sz28 rfl rfl (h1.idx he_3)) (wanted_t hF rfl rfl rfl hc2) rfl fun a hF=>q_xg (v:=s5.v) hF hS (ex_loadE1 0 Try.underlying28 rfl rfl ((at4).at) rfl rfl) (wanted_t hF rfl rfl rfl hc2) rfl fun a hF=>q_xg (v:=(iV (goLen e_3))) hF hS (ex_len Try.underlying28 rfl h5.len) (wanted_t hF rfl rfl rfl hc2) rfl fun a hF=>?_
   obtain ⟨t_6,ht_6,hj1⟩:=bindS hj1
   refine q_callg (vs:=[(iV (goLen e_3)),(iV 1),(iV 8)]) hF hS (wanted_t hF rfl rfl rfl hc2) Try.func77 (by kernel_rfl) rfl rfl rfl (c_spec_l1In (goLen e_3) 1 8 t_6 ht_6 _ m hS.vis) ?_
   rintro a w _ rfl hF hS
   refine q_xg (v:=(.bool (!t_6))) hF hS (ex_not rfl) (wanted_t hF rfl rfl rfl hc2) rfl fun a hF=>q_x (v:=(.bool (!t_6))) hF hS (ex_pick_f rfl rfl hc2) rfl rfl fun a hF=>q_end (n_jn ?_)
   obtain rfl:=someI hj1
   exact ⟨hF.sub ⟨rfl,rfl,rfl,trivial⟩,hS⟩
  ·have hj1:=cond_t hc2 hj1
   refine q_skip hF (wanted_f hF rfl rfl rfl hc2 rfl) rfl fun a hF=>q_skip hF (wanted_f hF rfl rfl rfl hc2 rfl) rfl fun a hF=>q_skip hF (wanted_f hF rfl rfl rfl hc2 rfl) rfl fun a hF=>q_skip hF (wanted_f hF rfl rfl rfl hc2 rfl) rfl fun a hF=>q_skip hF (wanted_f hF rfl rfl rfl hc2 rfl) rfl fun a hF=>q_skip hF (wanted_f hF rfl rfl rfl hc2 rfl) rfl fun a hF=>q_x (v:=(.bool true)) hF hS (ex_pick_t rfl rfl hc2) rfl rfl fun a hF=>q_end (n_jn ?_)
   obtain rfl:=someI hj1
   exact ⟨hF.sub ⟨rfl,rfl,rfl,trivial⟩,hS⟩
 ·rintro a w ⟨hF,hS⟩
  refine n_sq ?_
  rcases bcase (t_7) with hc3 | hc3
  ·have hr:=cond_f hc3 hr
   refine q_cond_f hF rfl hc3 (q_skipc (n_sq (q_seq (q_seq (q_region (q_x (v:=s1.v) hF hS (ex_move rfl) rfl rfl fun a hF=>q_x (v:=(iV (goLen p_x))) hF hS (ex_len Try.underlying23 rfl h1.len) rfl rfl fun a hF=>q_x (v:=(iV 0)) hF hS (ex_move rfl) rfl rfl fun a hF=>q_end (n_sq (q_block ?_))))))))
   obtain ⟨o4,hl4,hr⟩:=bindS hr
   refine q_loop (fun (t_8 : Int) a w=>Fr a 39 [(0,s1.v),(1,(iV p_hi)),(19,s1.v),(20,(iV (goLen p_x))),(21,(iV t_8))]∧St [] w0 w m []) (fun (o : (Unit) ⊕ (Bool)) e a w=>o = .inl ()∧e = .exit 0∧Fr a 39 []∧St [] w0 w m []) hl4 ⟨hF.sub ⟨rfl,rfl,rfl,rfl,rfl,trivial⟩,hS⟩ ?_ ?_
   ·clear hF hS
    rintro t_8 a w st ⟨hF,hS⟩ hb4
    unfold spec_qForm_l1 at hb4
    refine q_seq (q_region (q_x (v:=(.bool (decide (t_8 < (goLen p_x))))) hF hS (ex_ibin rfl rfl rfl) rfl rfl fun a hF=>q_end (n_sq (q_seq ?_))))
    rcases bcase (decide (t_8 < (goLen p_x))) with hc5 | hc5
    ·have hb4:=cond_f hc5 hb4
     refine q_cond_f hF rfl hc5 (q_exit (x_sq ?_))
     obtain rfl:=someI hb4
     exact ⟨nofun,.inl ⟨rfl,rfl,hF.sub trivial,hS⟩⟩
    ·have hb4:=cond_t hc5 hb4
     refine q_cond_t hF rfl hc5 (q_skipc (n_sq (q_seq (q_block (q_seq (q_region ?_))))))
     obtain ⟨e_9,he_9,hb4⟩:=bindS hb4
     obtain ⟨vs10,at10,d10⟩:=h1.at he_9 1 rfl
     obtain ⟨s11,rfl,h11⟩ : ∃ s11 : Sl,vs10 = [s11.v]∧Rd m s11 e_9:=d10
     refine q_x (v:=(elP s1 (t_8.toNat * 1))) hF hS (ex_indexAddr Try.underlying23 sz28 rfl rfl (h1.idx he_9)) rfl rfl fun a hF=>q_x (v:=s11.v) hF hS (ex_loadE1 0 Try.underlying28 rfl rfl ((at10).at) rfl rfl) rfl rfl fun a hF=>q_x (v:=s11.v) hF hS (ex_assign rfl) rfl rfl fun a hF=>q_end (n_sq (q_seq ?_))
     obtain ⟨t_16,hj6,hb4⟩:=bindS hb4
     refine q_join (fun a w=>Fr a 39 [(0,s1.v),(1,(iV p_hi)),(19,s1.v),(20,(iV (goLen p_x))),(21,(iV t_8)),(37,(.bool t_16))]∧St [] w0 w m []) ?_ ?_
     ·refine q_region (q_x (v:=s11.v) hF hS (ex_move rfl) rfl rfl fun a hF=>q_x (v:=(iV (goLen e_9))) hF hS (ex_len Try.underlying28 rfl h11.len) rfl rfl fun a hF=>q_x (v:=s1.v) hF hS (ex_move rfl) rfl rfl fun a hF=>?_)
      obtain ⟨e_12,he_12,hj6⟩:=bindS hj6
      obtain ⟨vs13,at13,d13⟩:=h1.at he_12 1 rfl
      obtain ⟨s14,rfl,h14⟩ : ∃ s14 : Sl,vs13 = [s14.v]∧Rd m s14 e_12:=d13
      refine q_x (v:=(elP s1 ((0 : Int).toNat * 1))) hF hS (ex_indexAddr Try.underlying23 sz28 rfl rfl (h1.idx he_12)) rfl rfl fun a hF=>q_x (v:=s14.v) hF hS (ex_loadE1 0 Try.underlying28 rfl rfl ((at13).at) rfl rfl) rfl rfl fun a hF=>q_x (v:=(iV (goLen e_12))) hF hS (ex_len Try.underlying28 rfl h14.len) rfl rfl fun a hF=>q_x (v:=(.bool ((goLen e_9) != (goLen e_12)))) hF hS (ex_ibin rfl rfl rfl) rfl rfl fun a hF=>q_x (v:=(.bool ((goLen e_9) != (goLen e_12)))) hF hS (ex_move rfl) rfl rfl fun a hF=>?_
      rcases bcase ((goLen e_9) != (goLen e_12)) with hc7 | hc7
      ·have hj6:=cond_f hc7 hj6
       refine q_xg (v:=s11.v) hF hS (ex_move rfl) (wanted_t hF rfl rfl rfl hc7) rfl fun a hF=>q_xg (v:=(iV p_hi)) hF hS (ex_move rfl) (wanted_t hF rfl rfl rfl hc7) rfl fun a hF=>?_
       obtain ⟨t_15,ht_15,hj6⟩:=bindS hj6
       refine q_callg (vs:=[s11.v,(iV 0),(iV p_hi)]) hF hS (wanted_t hF rfl rfl rfl hc7) Try.func152 (by kernel_rfl) rfl rfl rfl (c_spec_l1All e_9 0 p_hi t_15 ht_15 _ m hS.vis s11 h11) ?_
       rintro a w _ rfl hF hS
       refine q_xg (v:=(.bool (!t_15))) hF hS (ex_not rfl) (wanted_t hF rfl rfl rfl hc7) rfl fun a hF=>q_x (v:=(.bool (!t_15))) hF hS (ex_pick_f rfl rfl hc7) rfl rfl fun a hF=>q_end (n_jn ?_)
       obtain rfl:=someI hj6
       exact ⟨hF.sub ⟨rfl,rfl,rfl,rfl,rfl,rfl,trivial⟩,hS⟩
      ·have hj6:=cond_t hc7 hj6
       refine q_skip hF (wanted_f hF rfl rfl rfl hc7 rfl) rfl fun a hF=>q_skip hF (wanted_f hF rfl rfl rfl hc7 rfl) rfl fun a hF=>q_skip hF (wanted_f hF rfl rfl rfl hc7 rfl) rfl fun a hF=>q_skip hF (wanted_f hF rfl rfl rfl hc7 rfl) rfl fun a hF=>q_x (v:=(.bool true)) hF hS (ex_pick_t rfl rfl hc7) rfl rfl fun a hF=>q_end (n_jn ?_)
       obtain rfl:=someI hj6
       exact ⟨hF.sub ⟨rfl,rfl,rfl,rfl,rfl,rfl,trivial⟩,hS⟩
     ·rintro a w ⟨hF,hS⟩
      refine n_sq ?_
      rcases bcase (t_16) with hc8 | hc8
      ·have hb4:=cond_f hc8 hb4
       refine q_cond_f hF rfl hc8 (q_skipc (n_ib (n_sq (q_region (q_x (v:=(iV (w64 (t_8 + 1)))) hF hS (ex_ibin rfl rfl rfl) rfl rfl fun a hF=>q_x (v:=(iV (w64 (t_8 + 1)))) hF hS (ex_move rfl) rfl rfl fun a hF=>q_end ?_)))))
       obtain rfl:=someI hb4
       exact ⟨rfl,hF.sub ⟨rfl,rfl,rfl,rfl,rfl,trivial⟩,hS⟩
      ·have hb4:=cond_t hc8 hb4
       refine q_cond_t hF rfl hc8 (q_seq (q_region (q_x (v:=(.bool false)) hF hS (ex_assign rfl) rfl rfl fun a hF=>q_end (n_sq (q_ret (r_ib (r_sq ?_)))))))
       obtain rfl:=someI hb4
       refine ⟨nofun,.inr fun ho=>?_⟩
       subst ho
       refine r_ib (r_sq ?_)
       obtain rfl:=someI hr
       exact ret_of hF hS rfl (.tmp rfl .nil) rfl
   ·rintro e a w ⟨rfl,rfl,hF,hS⟩
    refine x_ib (n_sq ?_)
    refine q_seq (q_region (q_x (v:=(.bool true)) hF hS (ex_assign rfl) rfl rfl fun a hF=>q_end (n_sq (q_ret ?_))))
    obtain rfl:=someI hr
    exact ret_of hF hS rfl (.tmp rfl .nil) rfl
  ·have hr:=cond_t hc3 hr
   refine q_cond_t hF rfl hc3 (q_seq (q_region (q_x (v:=(.bool false)) hF hS (ex_assign rfl) rfl rfl fun a hF=>q_end (n_sq (q_ret (r_sq ?_))))))
   obtain rfl:=someI hr
   exact ret_of hF hS rfl (.tmp rfl .nil) rfl

theorem c_spec_qTable (p_x : List (List Int)) (r : Bool) (hr : spec_qTable p_x = some r) (w0 : World) (m : Mem) (hv : Vis m w0) (s1 : Sl) (h1 : Rd m s1 p_x) :
  Ret Try.prog 76 [s1.v] w0 (fun v _=>v = (.bool r)):=by
 unfold spec_qTable at hr
 refine ret_start Try.func76 rfl 5 rfl rfl m hv fun a hF hS=>q_seq (q_region (q_x (v:=(.bool false)) hF hS (ex_assign rfl) rfl rfl fun a hF=>q_end (n_sq (q_seq (q_region (q_x (v:=s1.v) hF hS (ex_move rfl) rfl rfl fun a hF=>?_))))))
 obtain ⟨t_2,ht_2,hr⟩:=bindS hr
 refine q_call (vs:=[s1.v,(iV 1000)]) hF hS Try.func90 (by kernel_rfl) rfl rfl rfl (c_spec_qForm p_x 1000 t_2 ht_2 _ m hS.vis s1 h1) ?_
 rintro a w _ rfl hF hS
 refine q_x (v:=(.bool t_2)) hF hS (ex_assign rfl) rfl rfl fun a hF=>q_end (n_sq (q_ret ?_))
 obtain rfl:=someI hr
 exact ret_of hF hS rfl (.tmp rfl .nil) rfl

theorem c_spec_ThresholdCells (p_x : List (List Int)) (p_t : Int) (r : (List (List Int)) × Bool) (hr : spec_ThresholdCells p_x p_t = some r) (w0 : World) (m : Mem) (hv : Vis m w0) (s1 : Sl) (h1 : Rd m s1 p_x) :
  Ret Try.prog 10 [s1.v,(iV p_t)] w0 (fun v w=>∃ (m' : Mem) (q0' : Piece) (s0' : Sl),v = (.tuple #[s0'.v,(.bool r.2)])∧MLe [] w0.heap.size m m'∧St [] w0 w m' [q0']∧OwnL m' 28 q0' s0' r.1):=by
 unfold spec_ThresholdCells at hr
 refine ret_start Try.func10 rfl 52 rfl rfl m hv fun a hF hS=>q_seq (q_region (q_x (v:=nilS.v) hF hS (ex_assign rfl) rfl rfl fun a hF=>q_x (v:=(.bool false)) hF hS (ex_assign rfl) rfl rfl fun a hF=>q_end (n_sq (q_seq (q_seq ?_)))))
 obtain ⟨t_4,hj1,hr⟩:=bindS hr
 refine q_join (fun a w=>Fr a 52 [(0,s1.v),(1,(iV p_t)),(19,(.bool t_4))]∧St [] w0 w m []) ?_ ?_
 ·refine q_region (q_x (v:=s1.v) hF hS (ex_move rfl) rfl rfl fun a hF=>?_)
  obtain ⟨t_2,ht_2,hj1⟩:=bindS hj1
  refine q_call (vs:=[s1.v]) hF hS Try.func76 (by kernel_rfl) rfl rfl rfl (c_spec_qTable p_x t_2 ht_2 _ m hS.vis s1 h1) ?_
  rintro a w _ rfl hF hS
  refine q_x (v:=(.bool (!t_2))) hF hS (ex_not rfl) rfl rfl fun a hF=>q_x (v:=(.bool (!t_2))) hF hS (ex_move rfl) rfl rfl fun a hF=>?_
  rcases bcase (!t_2) with hc2 | hc2
  ·have hj1:=cond_f hc2 hj1
   refine q_xg (v:=(iV p_t)) hF hS (ex_move rfl) (wanted_t hF rfl rfl rfl hc2) rfl fun a hF=>?_
   obtain ⟨t_3,ht_3,hj1⟩:=bindS hj1
   refine q_callg (vs:=[(iV p_t),(iV 0),(iV 1001)]) hF hS (wanted_t hF rfl rfl rfl hc2) Try.func77 (by kernel_rfl) rfl rfl rfl (c_spec_l1In p_t 0 1001 t_3 ht_3 _ m hS.vis) ?_
   rintro a w _ rfl hF hS
   refine q_xg (v:=(.bool (!t_3))) hF hS (ex_not rfl) (wanted_t hF rfl rfl rfl hc2) rfl fun a hF=>q_x (v:=(.bool (!t_3))) hF hS (ex_pick_f rfl rfl hc2) rfl rfl fun a hF=>q_end (n_jn ?_)
   obtain rfl:=someI hj1
   exact ⟨hF.sub ⟨rfl,rfl,rfl,trivial⟩,hS⟩
  ·have hj1:=cond_t hc2 hj1
   refine q_skip hF (wanted_f hF rfl rfl rfl hc2 rfl) rfl fun a hF=>q_skip hF (wanted_f hF rfl rfl rfl hc2 rfl) rfl fun a hF=>q_skip hF (wanted_f hF rfl rfl rfl hc2 rfl) rfl fun a hF=>q_x (v:=(.bool true)) hF hS (ex_pick_t rfl rfl hc2) rfl rfl fun a hF=>q_end (n_jn ?_)
   obtain rfl:=someI hj1
   exact ⟨hF.sub ⟨rfl,rfl,rfl,trivial⟩,hS⟩
 ·rintro a w ⟨hF,hS⟩
  refine n_sq ?_
  rcases bcase (t_4) with hc3 | hc3
  ·have hr:=cond_f hc3 hr
   refine q_cond_f hF rfl hc3 (q_skipc (n_sq (q_seq (q_region (q_x (v:=nilS.v) hF hS (ex_assign rfl) rfl rfl fun a hF=>q_end (n_sq (q_seq (q_seq (q_region (q_x (v:=s1.v) hF hS (ex_move rfl) rfl rfl fun a hF=>q_x (v:=(iV (goLen p_x))) hF hS (ex_len Try.underlying23 rfl h1.len) rfl rfl fun a hF=>q_x (v:=(iV 0)) hF hS (ex_move rfl) rfl rfl fun a hF=>q_end (n_sq (q_block ?_))))))))))))
   obtain ⟨out_32,hl4,hr⟩:=bindS hr
   refine q_loop (fun (s : (List (List Int)) × Int) a w=>∃ (m8 : Mem),∃ (q6 : Piece),∃ (s6 : Sl),∃ out_5,∃ t_7,s = (out_5,t_7)∧Fr a 52 [(1,(iV p_t)),(6,s6.v),(20,s1.v),(21,(iV (goLen p_x))),(22,(iV t_7))]∧St [] w0 w m8 [q6]∧MLe [] w0.heap.size m m8∧OwnL m8 28 q6 s6 out_5) (fun (out_32 : (List (List Int))) e a w=>∃ (m34 : Mem),∃ (q33 : Piece),∃ (s33 : Sl),e = .exit 0∧Fr a 52 [(6,s33.v)]∧St [] w0 w m34 [q33]∧MLe [] w0.heap.size m m34∧OwnL m34 28 q33 s33 out_32) hl4 ⟨m,[],nilS,_,_,rfl,hF.sub ⟨rfl,rfl,rfl,rfl,rfl,trivial⟩,hS.sel [0] (by decide),(MLe.refl _ _),(OwnL.nil (α:=List Int) m 28)⟩ ?_ ?_
   ·clear hF hS
    rintro s a w st ⟨m8,q6,s6,out_5,t_7,rfl,hF,hS,hm8,h6⟩ hb4
    unfold spec_ThresholdCells_l1 at hb4
    refine q_seq (q_region (q_x (v:=(.bool (decide (t_7 < (goLen p_x))))) hF hS (ex_ibin rfl rfl rfl) rfl rfl fun a hF=>q_end (n_sq (q_seq ?_))))
    rcases bcase (decide (t_7 < (goLen p_x))) with hc5 | hc5
    ·have hb4:=cond_f hc5 hb4
     refine q_cond_f hF rfl hc5 (q_exit (x_sq ?_))
     obtain rfl:=someI hb4
     exact ⟨nofun,.inl ⟨m8,q6,s6,rfl,hF.sub ⟨rfl,trivial⟩,hS,hm8,h6⟩⟩
    ·have hb4:=cond_t hc5 hb4
     refine q_cond_t hF rfl hc5 (q_skipc (n_sq (q_seq (q_block (q_seq (q_region ?_))))))
     obtain ⟨e_9,he_9,hb4⟩:=bindS hb4
     obtain ⟨vs10,at10,d10⟩:=(h1.mono hm8.le).at he_9 1 rfl
     obtain ⟨s11,rfl,h11⟩ : ∃ s11 : Sl,vs10 = [s11.v]∧Rd m8 s11 e_9:=d10
     refine q_x (v:=(elP s1 (t_7.toNat * 1))) hF hS (ex_indexAddr Try.underlying23 sz28 rfl rfl ((h1.mono hm8.le).idx he_9)) rfl rfl fun a hF=>q_x (v:=s11.v) hF hS (ex_loadE1 0 Try.underlying28 rfl rfl ((at10).at) rfl rfl) rfl rfl fun a hF=>q_x (v:=s11.v) hF hS (ex_assign rfl) rfl rfl fun a hF=>q_end (n_sq (q_seq (q_region (q_x (v:=nilS.v) hF hS (ex_assign rfl) rfl rfl fun a hF=>q_end (n_sq (q_seq (q_seq (q_region (q_x (v:=s11.v) hF hS (ex_move rfl) rfl rfl fun a hF=>q_x (v:=(iV (goLen e_9))) hF hS (ex_len Try.underlying28 rfl h11.len) rfl rfl fun a hF=>q_x (v:=(iV 0)) hF hS (ex_move rfl) rfl rfl fun a hF=>q_end (n_sq (q_block ?_)))))))))))
     obtain ⟨p_26,hl6,hb4⟩:=bindS hb4
     refine q_loop (fun (s : (List Int) × Int) a w=>∃ (q13 : Piece),∃ (s13 : Sl),∃ p_12,∃ t_14,s = (p_12,t_14)∧Fr a 52 [(1,(iV p_t)),(6,s6.v),(9,s13.v),(20,s1.v),(21,(iV (goLen p_x))),(22,(iV t_7)),(26,s11.v),(27,(iV (goLen e_9))),(28,(iV t_14))]∧St [] w0 w m8 [q13,q6]∧OwnL m8 3 q13 s13 p_12) (fun (p_26 : (List Int)) e a w=>∃ (q27 : Piece),∃ (s27 : Sl),e = .exit 2∧Fr a 52 [(1,(iV p_t)),(6,s6.v),(9,s27.v),(20,s1.v),(21,(iV (goLen p_x))),(22,(iV t_7))]∧St [] w0 w m8 [q6,q27]∧OwnL m8 3 q27 s27 p_26) hl6 ⟨[],nilS,_,_,rfl,hF.sub ⟨rfl,rfl,rfl,rfl,rfl,rfl,rfl,rfl,rfl,trivial⟩,hS.sel [1,0] (by decide),(OwnL.nil (α:=Int) m8 3)⟩ ?_ ?_
     ·clear hF hS
      rintro s a w st ⟨q13,s13,p_12,t_14,rfl,hF,hS,h13⟩ hb6
      unfold spec_ThresholdCells_l2 at hb6
      refine q_seq (q_region (q_x (v:=(.bool (decide (t_14 < (goLen e_9))))) hF hS (ex_ibin rfl rfl rfl) rfl rfl fun a hF=>q_end (n_sq (q_seq ?_))))
      rcases bcase (decide (t_14 < (goLen e_9))) with hc7 | hc7
      ·have hb6:=cond_f hc7 hb6
       refine q_cond_f hF rfl hc7 (q_exit (x_sq ?_))
       obtain rfl:=someI hb6
       exact ⟨nofun,.inl ⟨q13,s13,rfl,hF.sub ⟨rfl,rfl,rfl,rfl,rfl,rfl,trivial⟩,hS.sel [1,0] (by decide),h13⟩⟩
      ·have hb6:=cond_t hc7 hb6
       refine q_cond_t hF rfl hc7 (q_skipc (n_sq (q_seq (q_block (q_seq (q_region ?_))))))
       obtain ⟨e_15,he_15,hb6⟩:=bindS hb6
       obtain ⟨vs16,at16,d16⟩:=h11.at he_15 1 rfl
       obtain rfl : vs16 = [(iV e_15)]:=d16
       refine q_x (v:=(elP s11 (t_14.toNat * 1))) hF hS (ex_indexAddr Try.underlying28 sz3 rfl rfl (h11.idx he_15)) rfl rfl fun a hF=>q_x (v:=(iV e_15)) hF hS (ex_loadE1 0 Try.underlying3 rfl rfl ((at16).at) rfl rfl) rfl rfl fun a hF=>q_x (v:=(iV e_15)) hF hS (ex_assign rfl) rfl rfl fun a hF=>q_end (n_sq (q_seq ?_))
       obtain ⟨t_17,hj8,hb6⟩:=bindS hb6
       refine q_join (fun a w=>Fr a 52 [(1,(iV p_t)),(6,s6.v),(9,s13.v),(20,s1.v),(21,(iV (goLen p_x))),(22,(iV t_7)),(26,s11.v),(27,(iV (goLen e_9))),(28,(iV t_14)),(38,(.bool t_17))]∧St [] w0 w m8 [q6,q13]) ?_ ?_
       ·refine q_region (q_x (v:=(iV e_15)) hF hS (ex_move rfl) rfl rfl fun a hF=>q_x (v:=(.bool (decide (0 < e_15)))) hF hS (ex_ibin rfl rfl rfl) rfl rfl fun a hF=>q_x (v:=(.bool (decide (0 < e_15)))) hF hS (ex_move rfl) rfl rfl fun a hF=>?_)
        rcases bcase (decide (0 < e_15)) with hc9 | hc9
        ·have hj8:=cond_f hc9 hj8
         refine q_skip hF (wanted_f hF rfl rfl rfl hc9 rfl) rfl fun a hF=>q_skip hF (wanted_f hF rfl rfl rfl hc9 rfl) rfl fun a hF=>q_skip hF (wanted_f hF rfl rfl rfl hc9 rfl) rfl fun a hF=>q_x (v:=(.bool false)) hF hS (ex_pick_f rfl rfl hc9) rfl rfl fun a hF=>q_end (n_jn ?_)
         obtain rfl:=someI hj8
         exact ⟨hF.sub ⟨rfl,rfl,rfl,rfl,rfl,rfl,rfl,rfl,rfl,rfl,trivial⟩,hS.sel [1,0] (by decide)⟩
        ·have hj8:=cond_t hc9 hj8
         refine q_xg (v:=(iV e_15)) hF hS (ex_move rfl) (wanted_t hF rfl rfl rfl hc9) rfl fun a hF=>q_xg (v:=(iV p_t)) hF hS (ex_move rfl) (wanted_t hF rfl rfl rfl hc9) rfl fun a hF=>q_xg (v:=(.bool (decide (e_15 < p_t)))) hF hS (ex_ibin rfl rfl rfl) (wanted_t hF rfl rfl rfl hc9) rfl fun a hF=>q_x (v:=(.bool (decide (e_15 < p_t)))) hF hS (ex_pick_t rfl rfl hc9) rfl rfl fun a hF=>q_end (n_jn ?_)
         obtain rfl:=someI hj8
         exact ⟨hF.sub ⟨rfl,rfl,rfl,rfl,rfl,rfl,rfl,rfl,rfl,rfl,trivial⟩,hS.sel [1,0] (by decide)⟩
       ·rintro a w ⟨hF,hS⟩
        refine n_sq ?_
        obtain ⟨p_24,hj10,hb6⟩:=bindS hb6
        refine q_join (fun a w=>∃ (q25 : Piece),∃ (s25 : Sl),Fr a 52 [(1,(iV p_t)),(6,s6.v),(9,s25.v),(20,s1.v),(21,(iV (goLen p_x))),(22,(iV t_7)),(26,s11.v),(27,(iV (goLen e_9))),(28,(iV t_14))]∧St [] w0 w m8 [q6,q25]∧OwnL m8 3 q25 s25 p_24) ?_ ?_
        ·rcases bcase (t_17) with hc11 | hc11
         ·have hj10:=cond_f hc11 hj10
          refine q_cond_f hF rfl hc11 (q_region (q_x (v:=s13.v) hF hS (ex_move rfl) rfl rfl fun a hF=>q_do rfl fun _ hK=>wp_buildSlice' (l:=([0] : List Int)) (cells:=[(iV 0)]) hF hS Try.underlying28 inf3 rfl rfl (by kernel_rfl) rfl rfl rfl ⟨rfl,rfl⟩ rfl rfl fun a w q18 s18 hF hS h18 _=>hK _ _ ?_))
          have hS : St _ _ _ _ [q13,q18,q6]:=hS.sel [2,0,1] (by decide)
          obtain ⟨l_19,hl_19,hj10⟩:=bindS hj10
          refine q_do rfl fun _ hK=>wp_append hF hS h13 Try.underlying28 inf3 rfl rfl rfl rfl (h18.vw hS (j:=1) rfl) rfl (by decide) hl_19 rfl fun a w q20 s20 hF hS h20=>hK _ _ (q_x (v:=s20.v) hF hS (ex_assign rfl) rfl rfl fun a hF=>q_end (n_jn ?_))
          obtain rfl:=someI hj10
          exact ⟨q20,s20,hF.sub ⟨rfl,rfl,rfl,rfl,rfl,rfl,rfl,rfl,rfl,trivial⟩,hS.sel [2,0] (by decide),h20⟩
         ·have hj10:=cond_t hc11 hj10
          refine q_cond_t hF rfl hc11 (q_region (q_x (v:=s13.v) hF hS (ex_move rfl) rfl rfl fun a hF=>q_do rfl fun _ hK=>wp_buildSlice' (l:=([1] : List Int)) (cells:=[(iV 1)]) hF hS Try.underlying28 inf3 rfl rfl (by kernel_rfl) rfl rfl rfl ⟨rfl,rfl⟩ rfl rfl fun a w q21 s21 hF hS h21 _=>hK _ _ ?_))
          have hS : St _ _ _ _ [q13,q21,q6]:=hS.sel [2,0,1] (by decide)
          obtain ⟨l_22,hl_22,hj10⟩:=bindS hj10
          refine q_do rfl fun _ hK=>wp_append hF hS h13 Try.underlying28 inf3 rfl rfl rfl rfl (h21.vw hS (j:=1) rfl) rfl (by decide) hl_22 rfl fun a w q23 s23 hF hS h23=>hK _ _ (q_x (v:=s23.v) hF hS (ex_assign rfl) rfl rfl fun a hF=>q_end (n_jn ?_))
          obtain rfl:=someI hj10
          exact ⟨q23,s23,hF.sub ⟨rfl,rfl,rfl,rfl,rfl,rfl,rfl,rfl,rfl,trivial⟩,hS.sel [2,0] (by decide),h23⟩
        ·rintro a w ⟨q25,s25,hF,hS,h25⟩
         refine n_ib (n_sq ?_)
         refine q_region (q_x (v:=(iV (w64 (t_14 + 1)))) hF hS (ex_ibin rfl rfl rfl) rfl rfl fun a hF=>q_x (v:=(iV (w64 (t_14 + 1)))) hF hS (ex_move rfl) rfl rfl fun a hF=>q_end ?_)
         obtain rfl:=someI hb6
         exact ⟨rfl,q25,s25,_,_,rfl,hF.sub ⟨rfl,rfl,rfl,rfl,rfl,rfl,rfl,rfl,rfl,trivial⟩,hS.sel [1,0] (by decide),h25⟩
     ·rintro e a w ⟨q27,s27,rfl,hF,hS,h27⟩
      refine x_ib (n_sq ?_)
      refine q_region (q_x (v:=s6.v) hF hS (ex_move rfl) rfl rfl fun a hF=>q_x (v:=s27.v) hF hS (ex_move rfl) rfl rfl fun a hF=>?_)
      have hS : St _ _ _ _ [q27,q6]:=hS.sel [1,0] (by decide)
      obtain ⟨m29,hm29,hS,hz29⟩:=hS.freeze
      have h29:=h27.froz hm29.le hz29
      refine q_do rfl fun _ hK=>wp_buildSlice' (l:=([p_26] : List (List Int))) (cells:=[s27.v]) hF hS Try.underlying23 inf28 rfl rfl (by kernel_rfl) rfl rfl rfl ⟨⟨s27,rfl,h29⟩,rfl⟩ rfl rfl fun a w q28 s28 hF hS h28 _=>hK _ _ ?_
      have hS : St _ _ _ _ [q6,q28]:=hS.sel [1,0] (by decide)
      obtain ⟨l_30,hl_30,hb4⟩:=bindS hb4
      refine q_do rfl fun _ hK=>wp_append hF hS (h6.mono hm29.le) Try.underlying23 inf28 rfl rfl rfl rfl (h28.vw hS (j:=1) rfl) rfl (by decide) hl_30 rfl fun a w q31 s31 hF hS h31=>hK _ _ (q_x (v:=s31.v) hF hS (ex_assign rfl) rfl rfl fun a hF=>q_end (n_ib (n_sq (q_region (q_x (v:=(iV (w64 (t_7 + 1)))) hF hS (ex_ibin rfl rfl rfl) rfl rfl fun a hF=>q_x (v:=(iV (w64 (t_7 + 1)))) hF hS (ex_move rfl) rfl rfl fun a hF=>q_end ?_)))))
      obtain rfl:=someI hb4
      exact ⟨rfl,m29,q31,s31,_,_,rfl,hF.sub ⟨rfl,rfl,rfl,rfl,rfl,trivial⟩,hS.mask [true,false],(hm8.trans hm29),h31⟩
   ·rintro e a w ⟨m34,q33,s33,rfl,hF,hS,hm34,h33⟩
    refine x_ib (n_sq ?_)
    refine q_seq (q_region (q_x (v:=s33.v) hF hS (ex_move rfl) rfl rfl fun a hF=>q_x (v:=s33.v) hF hS (ex_assign rfl) rfl rfl fun a hF=>q_x (v:=(.bool true)) hF hS (ex_assign rfl) rfl rfl fun a hF=>q_end (n_sq (q_ret ?_))))
    obtain rfl:=someI hr
    exact ret_of hF hS rfl (.tmp rfl (.tmp rfl .nil)) ⟨m34,q33,s33,rfl,hm34,hS.sel [0] (by decide),h33⟩
  ·have hr:=cond_t hc3 hr
   refine q_cond_t hF rfl hc3 (q_seq (q_region (q_x (v:=nilS.v) hF hS (ex_assign rfl) rfl rfl fun a hF=>q_x (v:=(.bool false)) hF hS (ex_assign rfl) rfl rfl fun a hF=>q_end (n_sq (q_ret (r_sq ?_))))))
   obtain rfl:=someI hr
   exact ret_of hF hS rfl (.tmp rfl (.tmp rfl .nil)) ⟨m,[],nilS,rfl,(MLe.refl _ _),hS.sel [0] (by decide),(OwnL.nil (α:=List Int) m 28)⟩

theorem c_spec_l1Cur_amounts (p_c : spec_l1Cur) (r : (List Int) × spec_l1Cur) (hr : spec_l1Cur_amounts p_c = some r) (w0 : World) (m : Mem) (b_p_c : Nat) (s1 : Sl) (h1 : Rd m s1 p_c.code) (X : List Nat) (hS : St X w0 w0 m [[⟨b_p_c,[s1.v,(iV p_c.at_),(.int .u64 p_c.seed.v)],90⟩]]) :
  RetX Try.prog 78 [(.pointer (some ⟨b_p_c,0,none⟩))] w0 (fun v w=>∃ (q0' : Piece) (s0' : Sl),v = s0'.v∧St X w0 w m [[⟨b_p_c,[s1.v,(iV r.2.at_),(.int .u64 r.2.seed.v)],90⟩],q0']∧OwnL m 3 q0' s0' r.1∧r.2.code = p_c.code):=by
 unfold spec_l1Cur_amounts at hr
 refine ret_startX Try.func78 rfl 41 rfl rfl fun a hF=>q_seq (q_region (q_x (v:=nilS.v) hF hS (ex_assign rfl) rfl rfl fun a hF=>q_end (n_sq (q_seq (q_region (q_x (v:=nilS.v) hF hS (ex_assign rfl) rfl rfl fun a hF=>q_end (n_sq (q_seq (q_seq (q_region (q_x (v:=(.pointer (some ⟨b_p_c,0,none⟩))) hF hS (ex_move rfl) rfl rfl fun a hF=>?_)))))))))))
 have hS2 : St _ _ _ _ ([[⟨b_p_c,[s1.v,(iV p_c.at_),(.int .u64 p_c.seed.v)],90⟩]]++[]):=hS
 have hE2:=hS2.enter
 obtain ⟨t_3,ht_3,hr⟩:=bindS hr
 refine q_do rfl fun _ hK=>wp_callX (vs:=[(.pointer (some ⟨b_p_c,0,none⟩)),(iV 7)]) hF Try.func106 (by kernel_rfl) rfl rfl rfl (c_spec_l1Cur_pick p_c 7 t_3 ht_3 _ m b_p_c s1 h1 _ hE2) fun a w _ hR hF=>hK _ _ ?_
 obtain ⟨rfl,hR2,hk4⟩:=hR
 have hS : St _ _ _ _ [[⟨b_p_c,[s1.v,(iV t_3.2.at_),(.int .u64 t_3.2.seed.v)],90⟩]]:=hS2.leaveF hR2
 have h4 : Rd m s1 t_3.2.code:=by rw [hk4]; exact h1
 refine q_x (v:=(iV t_3.1)) hF hS (ex_assign rfl) rfl rfl fun a hF=>q_end (n_sq (q_block ?_))
 obtain ⟨o1,hl1,hr⟩:=bindS hr
 refine q_loop (fun (s : (List Int) × Int × spec_l1Cur) a w=>∃ (q6 : Piece),∃ (s6 : Sl),∃ l_5,∃ k_7,∃ p_c_8,s = (l_5,k_7,p_c_8)∧Fr a 41 [(0,(.pointer (some ⟨b_p_c,0,none⟩))),(3,s6.v),(4,(iV k_7))]∧St X w0 w m [q6,[⟨b_p_c,[s1.v,(iV p_c_8.at_),(.int .u64 p_c_8.seed.v)],90⟩]]∧OwnL m 3 q6 s6 l_5∧Rd m s1 p_c_8.code∧p_c_8.code = p_c.code) (fun (o : (List Int) × spec_l1Cur) e a w=>∃ (q21 : Piece),∃ (s21 : Sl),∃ l_20,∃ p_c_22,o = (l_20,p_c_22)∧e = .exit 0∧Fr a 41 [(0,(.pointer (some ⟨b_p_c,0,none⟩))),(3,s21.v)]∧St X w0 w m [q21,[⟨b_p_c,[s1.v,(iV p_c_22.at_),(.int .u64 p_c_22.seed.v)],90⟩]]∧OwnL m 3 q21 s21 l_20∧Rd m s1 p_c_22.code∧p_c_22.code = p_c.code) hl1 ⟨[],nilS,_,_,_,rfl,hF.sub ⟨rfl,rfl,rfl,trivial⟩,hS.sel [1,0] (by decide),(OwnL.nil (α:=Int) m 3),h4,hk4⟩ ?_ ?_
 ·clear hF hS
  rintro s a w st ⟨q6,s6,l_5,k_7,p_c_8,rfl,hF,hS,h6,h9,h9k⟩ hb1
  unfold spec_l1Cur_amounts_l1 at hb1
  refine q_seq (q_seq (q_region (q_x (v:=(iV k_7)) hF hS (ex_move rfl) rfl rfl fun a hF=>q_x (v:=(.bool (decide (0 < k_7)))) hF hS (ex_ibin rfl rfl rfl) rfl rfl fun a hF=>q_end (n_sq ?_))))
  rcases bcase (decide (0 < k_7)) with hc2 | hc2
  ·have hb1:=cond_f hc2 hb1
   refine q_cond_f hF rfl hc2 (q_exit (x_sq ?_))
   obtain rfl:=someI hb1
   exact ⟨nofun,.inl ⟨q6,s6,_,_,rfl,rfl,hF.sub ⟨rfl,rfl,trivial⟩,hS,h6,h9,h9k⟩⟩
  ·have hb1:=cond_t hc2 hb1
   refine q_cond_t hF rfl hc2 (q_skipc (n_sq (q_seq (q_block (q_region (q_x (v:=s6.v) hF hS (ex_move rfl) rfl rfl fun a hF=>q_x (v:=(.pointer (some ⟨b_p_c,0,none⟩))) hF hS (ex_move rfl) rfl rfl fun a hF=>q_x (v:=(.pointer (some ⟨b_p_c,0,none⟩))) hF hS (ex_move rfl) rfl rfl fun a hF=>?_))))))
   have hS : St _ _ _ _ [[⟨b_p_c,[s1.v,(iV p_c_8.at_),(.int .u64 p_c_8.seed.v)],90⟩],q6]:=hS.sel [1,0] (by decide)
   have hS10 : St _ _ _ _ ([[⟨b_p_c,[s1.v,(iV p_c_8.at_),(.int .u64 p_c_8.seed.v)],90⟩]]++[q6]):=hS
   have hE10:=hS10.enter
   obtain ⟨t_11,ht_11,hb1⟩:=bindS hb1
   refine q_do rfl fun _ hK=>wp_callX (vs:=[(.pointer (some ⟨b_p_c,0,none⟩)),(iV 100)]) hF Try.func106 (by kernel_rfl) rfl rfl rfl (c_spec_l1Cur_pick p_c_8 100 t_11 ht_11 _ m b_p_c s1 h9 _ hE10) fun a w _ hR hF=>hK _ _ ?_
   obtain ⟨rfl,hR10,hk12⟩:=hR
   have hS : St _ _ _ _ [[⟨b_p_c,[s1.v,(iV t_11.2.at_),(.int .u64 t_11.2.seed.v)],90⟩],q6]:=hS10.leaveF hR10
   have h12 : Rd m s1 t_11.2.code:=by rw [hk12]; exact h9
   refine q_do rfl fun _ hK=>wp_buildSlice' (l:=([0,1,5,10,90,t_11.1] : List Int)) (cells:=[(iV 0),(iV 1),(iV 5),(iV 10),(iV 90),(iV t_11.1)]) hF hS Try.underlying28 inf3 rfl rfl (by kernel_rfl) rfl rfl rfl ⟨rfl,rfl,rfl,rfl,rfl,rfl,rfl⟩ rfl rfl fun a w q13 s13 hF hS h13 _=>hK _ _ ?_
   have hS : St _ _ _ _ [[⟨b_p_c,[s1.v,(iV t_11.2.at_),(.int .u64 t_11.2.seed.v)],90⟩],q13,q6]:=hS.sel [1,0,2] (by decide)
   have hS14 : St _ _ _ _ ([[⟨b_p_c,[s1.v,(iV t_11.2.at_),(.int .u64 t_11.2.seed.v)],90⟩]]++[q13,q6]):=hS
   obtain ⟨m14,hl14,hE14,hz14⟩:=hS14.lendX
   obtain ⟨t_15,ht_15,hb1⟩:=bindS hb1
   refine q_do rfl fun _ hK=>wp_callX (vs:=[(.pointer (some ⟨b_p_c,0,none⟩)),s13.v]) hF Try.func74 (by kernel_rfl) rfl rfl rfl (c_spec_l1Cur_among t_11.2 ([0,1,5,10,90,t_11.1] : List Int) t_15 ht_15 _ m14 b_p_c s1 (h12.mono hl14) s13 (h13.froz hl14 (hz14 0 _ rfl)) _ hE14) fun a w _ hR hF=>hK _ _ ?_
   obtain ⟨rfl,hR14,hk16⟩:=hR
   have hS : St _ _ _ _ [[⟨b_p_c,[s1.v,(iV t_15.2.at_),(.int .u64 t_15.2.seed.v)],90⟩],q13,q6]:=hS14.leaveF hR14
   have h16 : Rd m s1 t_15.2.code:=by rw [hk16]; exact h12
   refine q_do rfl fun _ hK=>wp_buildSlice' (l:=([t_15.1] : List Int)) (cells:=[(iV t_15.1)]) hF hS Try.underlying28 inf3 rfl rfl (by kernel_rfl) rfl rfl rfl ⟨rfl,rfl⟩ rfl rfl fun a w q17 s17 hF hS h17 _=>hK _ _ ?_
   have hS : St _ _ _ _ [q6,q17,[⟨b_p_c,[s1.v,(iV t_15.2.at_),(.int .u64 t_15.2.seed.v)],90⟩],q13]:=hS.sel [3,0,1,2] (by decide)
   obtain ⟨l_18,hl_18,hb1⟩:=bindS hb1
   refine q_do rfl fun _ hK=>wp_append hF hS h6 Try.underlying28 inf3 rfl rfl rfl rfl (h17.vw hS (j:=1) rfl) rfl (by decide) hl_18 rfl fun a w q19 s19 hF hS h19=>hK _ _ (q_x (v:=s19.v) hF hS (ex_assign rfl) rfl rfl fun a hF=>q_end (n_ib (n_sq (q_region (q_x (v:=(iV k_7)) hF hS (ex_move rfl) rfl rfl fun a hF=>q_x (v:=(iV (w64 (k_7 - 1)))) hF hS (ex_ibin rfl rfl rfl) rfl rfl fun a hF=>q_x (v:=(iV (w64 (k_7 - 1)))) hF hS (ex_assign rfl) rfl rfl fun a hF=>q_end ?_)))))
   obtain rfl:=someI hb1
   exact ⟨rfl,q19,s19,_,_,_,rfl,hF.sub ⟨rfl,rfl,rfl,trivial⟩,hS.mask [true,false,true,false],h19,h16,(hk16.trans (hk12.trans h9k))⟩
 ·rintro e a w ⟨q21,s21,l_20,p_c_22,rfl,rfl,hF,hS,h21,h23,h23k⟩
  refine x_ib (n_sq ?_)
  refine q_seq (q_seq (q_region (q_x (v:=(.pointer (some ⟨b_p_c,0,none⟩))) hF hS (ex_move rfl) rfl rfl fun a hF=>?_)))
  have hS : St _ _ _ _ [[⟨b_p_c,[s1.v,(iV p_c_22.at_),(.int .u64 p_c_22.seed.v)],90⟩],q21]:=hS.sel [1,0] (by decide)
  have hS24 : St _ _ _ _ ([[⟨b_p_c,[s1.v,(iV p_c_22.at_),(.int .u64 p_c_22.seed.v)],90⟩]]++[q21]):=hS
  have hE24:=hS24.enter
  obtain ⟨t_25,ht_25,hr⟩:=bindS hr
  refine q_do rfl fun _ hK=>wp_callX (vs:=[(.pointer (some ⟨b_p_c,0,none⟩)),(iV 20)]) hF Try.func106 (by kernel_rfl) rfl rfl rfl (c_spec_l1Cur_pick p_c_22 20 t_25 ht_25 _ m b_p_c s1 h23 _ hE24) fun a w _ hR hF=>hK _ _ ?_
  obtain ⟨rfl,hR24,hk26⟩:=hR
  have hS : St _ _ _ _ [[⟨b_p_c,[s1.v,(iV t_25.2.at_),(.int .u64 t_25.2.seed.v)],90⟩],q21]:=hS24.leaveF hR24
  have h26 : Rd m s1 t_25.2.code:=by rw [hk26]; exact h23
  refine q_end (n_sq (q_block (q_seq (q_region (q_x (v:=(.bool (t_25.1 == 0))) hF hS (ex_ibin rfl rfl rfl) rfl rfl fun a hF=>q_x (v:=(.bool (t_25.1 == 0))) hF hS (ex_assign rfl) rfl rfl fun a hF=>q_end (n_sq ?_))))))
  obtain ⟨j3,hj3,hr⟩:=bindS hr
  refine q_join (fun a w=>∃ (q53 : Piece),∃ (s53 : Sl),∃ l_52,∃ p_c_54,j3 = (l_52,p_c_54)∧Fr a 41 [(3,s53.v)]∧St X w0 w m [q53,[⟨b_p_c,[s1.v,(iV p_c_54.at_),(.int .u64 p_c_54.seed.v)],90⟩]]∧OwnL m 3 q53 s53 l_52∧Rd m s1 p_c_54.code∧p_c_54.code = p_c.code) ?_ ?_
  ·rcases bcase (t_25.1 == 0) with hc4 | hc4
   ·have hj3:=cond_f hc4 hj3
    refine q_cond_f hF rfl hc4 (q_seq (q_region (q_x (v:=(.bool (t_25.1 == 1))) hF hS (ex_ibin rfl rfl rfl) rfl rfl fun a hF=>q_x (v:=(.bool (t_25.1 == 1))) hF hS (ex_assign rfl) rfl rfl fun a hF=>q_end (n_sq ?_))))
    obtain ⟨j5,hj5,hj3⟩:=bindS hj3
    refine q_join (fun a w=>∃ (q42 : Piece),∃ (s42 : Sl),∃ l_41,∃ p_c_43,j5 = (l_41,p_c_43)∧Fr a 41 [(3,s42.v)]∧St X w0 w m [q42,[⟨b_p_c,[s1.v,(iV p_c_43.at_),(.int .u64 p_c_43.seed.v)],90⟩]]∧OwnL m 3 q42 s42 l_41∧Rd m s1 p_c_43.code∧p_c_43.code = p_c.code) ?_ ?_
    ·rcases bcase (t_25.1 == 1) with hc6 | hc6
     ·have hj5:=cond_f hc6 hj5
      refine q_cond_f hF rfl hc6 (q_skipc (n_jn ?_))
      obtain rfl:=someI hj5
      exact ⟨q21,s21,_,_,rfl,hF.sub ⟨rfl,trivial⟩,hS.sel [1,0] (by decide),h21,h26,(hk26.trans h23k)⟩
     ·have hj5:=cond_t hc6 hj5
      refine q_cond_t hF rfl hc6 (q_block ?_)
      obtain ⟨o7,hl7,hj5⟩:=bindS hj5
      refine q_loop (fun (s : (List Int) × spec_l1Cur) a w=>∃ (q28 : Piece),∃ (s28 : Sl),∃ l_27,∃ p_c_29,s = (l_27,p_c_29)∧Fr a 41 [(0,(.pointer (some ⟨b_p_c,0,none⟩))),(3,s28.v)]∧St X w0 w m [q28,[⟨b_p_c,[s1.v,(iV p_c_29.at_),(.int .u64 p_c_29.seed.v)],90⟩]]∧OwnL m 3 q28 s28 l_27∧Rd m s1 p_c_29.code∧p_c_29.code = p_c.code) (fun (o : (List Int) × spec_l1Cur) e a w=>∃ (q38 : Piece),∃ (s38 : Sl),∃ l_37,∃ p_c_39,o = (l_37,p_c_39)∧e = .exit 3∧Fr a 41 [(3,s38.v)]∧St X w0 w m [q38,[⟨b_p_c,[s1.v,(iV p_c_39.at_),(.int .u64 p_c_39.seed.v)],90⟩]]∧OwnL m 3 q38 s38 l_37∧Rd m s1 p_c_39.code∧p_c_39.code = p_c.code) hl7 ⟨q21,s21,_,_,rfl,hF.sub ⟨rfl,rfl,trivial⟩,hS.sel [1,0] (by decide),h21,h26,(hk26.trans h23k)⟩ ?_ ?_
      ·clear hF hS
       rintro s a w st ⟨q28,s28,l_27,p_c_29,rfl,hF,hS,h28,h30,h30k⟩ hb7
       unfold spec_l1Cur_amounts_l2 at hb7
       refine q_seq (q_seq (q_region (q_x (v:=s28.v) hF hS (ex_move rfl) rfl rfl fun a hF=>q_x (v:=(iV (goLen l_27))) hF hS (ex_len Try.underlying28 rfl h28.len) rfl rfl fun a hF=>q_x (v:=(.pointer (some ⟨b_p_c,0,none⟩))) hF hS (ex_move rfl) rfl rfl fun a hF=>?_)))
       have hS : St _ _ _ _ [[⟨b_p_c,[s1.v,(iV p_c_29.at_),(.int .u64 p_c_29.seed.v)],90⟩],q28]:=hS.sel [1,0] (by decide)
       have hS31 : St _ _ _ _ ([[⟨b_p_c,[s1.v,(iV p_c_29.at_),(.int .u64 p_c_29.seed.v)],90⟩]]++[q28]):=hS
       have hE31:=hS31.enter
       obtain ⟨t_32,ht_32,hb7⟩:=bindS hb7
       refine q_do rfl fun _ hK=>wp_callX (vs:=[(.pointer (some ⟨b_p_c,0,none⟩)),(iV 2)]) hF Try.func106 (by kernel_rfl) rfl rfl rfl (c_spec_l1Cur_pick p_c_29 2 t_32 ht_32 _ m b_p_c s1 h30 _ hE31) fun a w _ hR hF=>hK _ _ ?_
       obtain ⟨rfl,hR31,hk33⟩:=hR
       have hS : St _ _ _ _ [[⟨b_p_c,[s1.v,(iV t_32.2.at_),(.int .u64 t_32.2.seed.v)],90⟩],q28]:=hS31.leaveF hR31
       have h33 : Rd m s1 t_32.2.code:=by rw [hk33]; exact h30
       refine q_x (v:=(iV (w64 (40 + t_32.1)))) hF hS (ex_ibin rfl rfl rfl) rfl rfl fun a hF=>q_x (v:=(.bool (decide ((goLen l_27) < (w64 (40 + t_32.1)))))) hF hS (ex_ibin rfl rfl rfl) rfl rfl fun a hF=>q_end (n_sq ?_)
       rcases bcase (decide ((goLen l_27) < (w64 (40 + t_32.1)))) with hc8 | hc8
       ·have hb7:=cond_f hc8 hb7
        refine q_cond_f hF rfl hc8 (q_exit (x_sq ?_))
        obtain rfl:=someI hb7
        exact ⟨nofun,.inl ⟨q28,s28,_,_,rfl,rfl,hF.sub ⟨rfl,trivial⟩,hS.sel [1,0] (by decide),h28,h33,(hk33.trans h30k)⟩⟩
       ·have hb7:=cond_t hc8 hb7
        refine q_cond_t hF rfl hc8 (q_skipc (n_sq (q_block (q_region (q_x (v:=s28.v) hF hS (ex_move rfl) rfl rfl fun a hF=>q_do rfl fun _ hK=>wp_buildSlice' (l:=([3] : List Int)) (cells:=[(iV 3)]) hF hS Try.underlying28 inf3 rfl rfl (by kernel_rfl) rfl rfl rfl ⟨rfl,rfl⟩ rfl rfl fun a w q34 s34 hF hS h34 _=>hK _ _ ?_)))))
        have hS : St _ _ _ _ [q28,q34,[⟨b_p_c,[s1.v,(iV t_32.2.at_),(.int .u64 t_32.2.seed.v)],90⟩]]:=hS.sel [2,0,1] (by decide)
        obtain ⟨l_35,hl_35,hb7⟩:=bindS hb7
        refine q_do rfl fun _ hK=>wp_append hF hS h28 Try.underlying28 inf3 rfl rfl rfl rfl (h34.vw hS (j:=1) rfl) rfl (by decide) hl_35 rfl fun a w q36 s36 hF hS h36=>hK _ _ (q_x (v:=s36.v) hF hS (ex_assign rfl) rfl rfl fun a hF=>q_end (n_ib ?_))
        obtain rfl:=someI hb7
        exact ⟨rfl,q36,s36,_,_,rfl,hF.sub ⟨rfl,rfl,trivial⟩,hS.mask [true,false,true],h36,h33,(hk33.trans h30k)⟩
      ·rintro e a w ⟨q38,s38,l_37,p_c_39,rfl,rfl,hF,hS,h38,h40,h40k⟩
       refine x_ib (n_jn ?_)
       obtain rfl:=someI hj5
       exact ⟨q38,s38,_,_,rfl,hF.sub ⟨rfl,trivial⟩,hS,h38,h40,h40k⟩
    ·rintro a w ⟨q42,s42,l_41,p_c_43,rfl,hF,hS,h42,h44,h44k⟩
     refine n_jn ?_
     obtain rfl:=someI hj3
     exact ⟨q42,s42,_,_,rfl,hF.sub ⟨rfl,trivial⟩,hS,h42,h44,h44k⟩
   ·have hj3:=cond_t hc4 hj3
    refine q_cond_t hF rfl hc4 (q_region (q_x (v:=s21.v) hF hS (ex_move rfl) rfl rfl fun a hF=>q_x (v:=(.pointer (some ⟨b_p_c,0,none⟩))) hF hS (ex_move rfl) rfl rfl fun a hF=>q_do rfl fun _ hK=>wp_buildSlice' (l:=([-1,1000000,1000001] : List Int)) (cells:=[(iV (-1)),(iV 1000000),(iV 1000001)]) hF hS Try.underlying28 inf3 rfl rfl (by kernel_rfl) rfl rfl rfl ⟨rfl,rfl,rfl,rfl⟩ rfl rfl fun a w q45 s45 hF hS h45 _=>hK _ _ ?_))
    have hS : St _ _ _ _ [[⟨b_p_c,[s1.v,(iV t_25.2.at_),(.int .u64 t_25.2.seed.v)],90⟩],q45,q21]:=hS.sel [1,0,2] (by decide)
    have hS46 : St _ _ _ _ ([[⟨b_p_c,[s1.v,(iV t_25.2.at_),(.int .u64 t_25.2.seed.v)],90⟩]]++[q45,q21]):=hS
    obtain ⟨m46,hl46,hE46,hz46⟩:=hS46.lendX
    obtain ⟨t_47,ht_47,hj3⟩:=bindS hj3
    refine q_do rfl fun _ hK=>wp_callX (vs:=[(.pointer (some ⟨b_p_c,0,none⟩)),s45.v]) hF Try.func74 (by kernel_rfl) rfl rfl rfl (c_spec_l1Cur_among t_25.2 ([-1,1000000,1000001] : List Int) t_47 ht_47 _ m46 b_p_c s1 (h26.mono hl46) s45 (h45.froz hl46 (hz46 0 _ rfl)) _ hE46) fun a w _ hR hF=>hK _ _ ?_
    obtain ⟨rfl,hR46,hk48⟩:=hR
    have hS : St _ _ _ _ [[⟨b_p_c,[s1.v,(iV t_47.2.at_),(.int .u64 t_47.2.seed.v)],90⟩],q45,q21]:=hS46.leaveF hR46
    have h48 : Rd m s1 t_47.2.code:=by rw [hk48]; exact h26
    refine q_do rfl fun _ hK=>wp_buildSlice' (l:=([t_47.1] : List Int)) (cells:=[(iV t_47.1)]) hF hS Try.underlying28 inf3 rfl rfl (by kernel_rfl) rfl rfl rfl ⟨rfl,rfl⟩ rfl rfl fun a w q49 s49 hF hS h49 _=>hK _ _ ?_
    have hS : St _ _ _ _ [q21,q49,[⟨b_p_c,[s1.v,(iV t_47.2.at_),(.int .u64 t_47.2.seed.v)],90⟩],q45]:=hS.sel [3,0,1,2] (by decide)
    obtain ⟨l_50,hl_50,hj3⟩:=bindS hj3
    refine q_do rfl fun _ hK=>wp_append hF hS h21 Try.underlying28 inf3 rfl rfl rfl rfl (h49.vw hS (j:=1) rfl) rfl (by decide) hl_50 rfl fun a w q51 s51 hF hS h51=>hK _ _ (q_x (v:=s51.v) hF hS (ex_assign rfl) rfl rfl fun a hF=>q_end (n_jn ?_))
    obtain rfl:=someI hj3
    exact ⟨q51,s51,_,_,rfl,hF.sub ⟨rfl,trivial⟩,hS.mask [true,false,true,false],h51,h48,(hk48.trans (hk26.trans h23k))⟩
  ·rintro a w ⟨q53,s53,l_52,p_c_54,rfl,hF,hS,h53,h55,h55k⟩
   refine n_ib (n_sq ?_)
   refine q_seq (q_region (q_x (v:=s53.v) hF hS (ex_move rfl) rfl rfl fun a hF=>q_x (v:=s53.v) hF hS (ex_assign rfl) rfl rfl fun a hF=>q_end (n_sq (q_ret ?_))))
   obtain rfl:=someI hr
   exact ret_ofX hF hS rfl (.tmp rfl .nil) ⟨q53,s53,rfl,hS.sel [1,0] (by decide),h53,h55k⟩

theorem c_spec_DrawIsDominated (p_code : List (K .u8)) (r : (List Int) × Int × Int) (hr : spec_DrawIsDominated p_code = some r) (w0 : World) (m : Mem) (hv : Vis m w0) (s1 : Sl) (h1 : Rd m s1 p_code) :
  Ret Try.prog 11 [s1.v] w0 (fun v w=>∃ (q0' : Piece) (s0' : Sl),v = (.tuple #[s0'.v,(iV r.2.1),(iV r.2.2)])∧St [] w0 w m [q0']∧OwnL m 3 q0' s0' r.1):=by
 unfold spec_DrawIsDominated at hr
 refine ret_start Try.func11 rfl 17 rfl rfl m hv fun a hF hS=>q_seq (q_region (q_x (v:=nilS.v) hF hS (ex_assign rfl) rfl rfl fun a hF=>q_x (v:=(iV 0)) hF hS (ex_assign rfl) rfl rfl fun a hF=>q_x (v:=(iV 0)) hF hS (ex_assign rfl) rfl rfl fun a hF=>q_end (n_sq (q_seq (q_region (q_x (v:=s1.v) hF hS (ex_move rfl) rfl rfl fun a hF=>q_x (v:=(.agg #[s1.v,(iV 0),(.int .u64 0)])) hF hS (ex_build (cells:=[s1.v,(iV 0),(.int .u64 0)]) rfl (by kernel_rfl)) rfl rfl fun a hF=>q_box (cs:=[s1.v,(iV 0),(.int .u64 0)]) hF hS rfl rfl rfl fun a w b2 hF hS=>q_x (v:=(.pointer (some ⟨b2,0,none⟩))) hF hS (ex_assign rfl) rfl rfl fun a hF=>q_end (n_sq (q_seq (q_region (q_x (v:=(.pointer (some ⟨b2,0,none⟩))) hF hS (ex_move rfl) rfl rfl fun a hF=>?_))))))))))
 have hS3 : St _ _ _ _ ([[⟨b2,[s1.v,(iV 0),(.int .u64 0)],90⟩]]++[]):=hS
 have hE3:=hS3.enter
 obtain ⟨t_4,ht_4,hr⟩:=bindS hr
 refine q_do rfl fun _ hK=>wp_callX (vs:=[(.pointer (some ⟨b2,0,none⟩))]) hF Try.func78 (by kernel_rfl) rfl rfl rfl (c_spec_l1Cur_amounts (spec_l1Cur.mk p_code 0 (⟨0⟩ : K .u64)) t_4 ht_4 _ m b2 s1 h1 _ hE3) fun a w _ hR hF=>hK _ _ ?_
 obtain ⟨q5,s5,rfl,hR3,h5,hk6⟩:=hR
 have hS : St _ _ _ _ [[⟨b2,[s1.v,(iV t_4.2.at_),(.int .u64 t_4.2.seed.v)],90⟩],q5]:=hS3.leaveF hR3
 have h6 : Rd m s1 t_4.2.code:=by rw [hk6]; exact h1
 refine q_x (v:=(.pointer (some ⟨b2,0,none⟩))) hF hS (ex_move rfl) rfl rfl fun a hF=>q_do rfl fun _ hK=>wp_buildSlice' (l:=([1,2,3,10,0,11] : List Int)) (cells:=[(iV 1),(iV 2),(iV 3),(iV 10),(iV 0),(iV 11)]) hF hS Try.underlying28 inf3 rfl rfl (by kernel_rfl) rfl rfl rfl ⟨rfl,rfl,rfl,rfl,rfl,rfl,rfl⟩ rfl rfl fun a w q7 s7 hF hS h7 _=>hK _ _ ?_
 have hS : St _ _ _ _ [[⟨b2,[s1.v,(iV t_4.2.at_),(.int .u64 t_4.2.seed.v)],90⟩],q7,q5]:=hS.sel [1,0,2] (by decide)
 have hS8 : St _ _ _ _ ([[⟨b2,[s1.v,(iV t_4.2.at_),(.int .u64 t_4.2.seed.v)],90⟩]]++[q7,q5]):=hS
 obtain ⟨m8,hl8,hE8,hz8⟩:=hS8.lendX
 obtain ⟨t_9,ht_9,hr⟩:=bindS hr
 refine q_do rfl fun _ hK=>wp_callX (vs:=[(.pointer (some ⟨b2,0,none⟩)),s7.v]) hF Try.func74 (by kernel_rfl) rfl rfl rfl (c_spec_l1Cur_among t_4.2 ([1,2,3,10,0,11] : List Int) t_9 ht_9 _ m8 b2 s1 (h6.mono hl8) s7 (h7.froz hl8 (hz8 0 _ rfl)) _ hE8) fun a w _ hR hF=>hK _ _ ?_
 obtain ⟨rfl,hR8,hk10⟩:=hR
 have hS : St _ _ _ _ [[⟨b2,[s1.v,(iV t_9.2.at_),(.int .u64 t_9.2.seed.v)],90⟩],q7,q5]:=hS8.leaveF hR8
 have h10 : Rd m s1 t_9.2.code:=by rw [hk10]; exact h6
 refine q_x (v:=(.pointer (some ⟨b2,0,none⟩))) hF hS (ex_move rfl) rfl rfl fun a hF=>q_do rfl fun _ hK=>wp_buildSlice' (l:=([0,50,75,85,100,101,-1] : List Int)) (cells:=[(iV 0),(iV 50),(iV 75),(iV 85),(iV 100),(iV 101),(iV (-1))]) hF hS Try.underlying28 inf3 rfl rfl (by kernel_rfl) rfl rfl rfl ⟨rfl,rfl,rfl,rfl,rfl,rfl,rfl,rfl⟩ rfl rfl fun a w q11 s11 hF hS h11 _=>hK _ _ ?_
 have hS : St _ _ _ _ [[⟨b2,[s1.v,(iV t_9.2.at_),(.int .u64 t_9.2.seed.v)],90⟩],q11,q7,q5]:=hS.sel [1,0,2,3] (by decide)
 have hS12 : St _ _ _ _ ([[⟨b2,[s1.v,(iV t_9.2.at_),(.int .u64 t_9.2.seed.v)],90⟩]]++[q11,q7,q5]):=hS
 obtain ⟨m12,hl12,hE12,hz12⟩:=hS12.lendX
 obtain ⟨t_13,ht_13,hr⟩:=bindS hr
 refine q_do rfl fun _ hK=>wp_callX (vs:=[(.pointer (some ⟨b2,0,none⟩)),s11.v]) hF Try.func74 (by kernel_rfl) rfl rfl rfl (c_spec_l1Cur_among t_9.2 ([0,50,75,85,100,101,-1] : List Int) t_13 ht_13 _ m12 b2 s1 (h10.mono hl12) s11 (h11.froz hl12 (hz12 0 _ rfl)) _ hE12) fun a w _ hR hF=>hK _ _ ?_
 obtain ⟨rfl,hR12,hk14⟩:=hR
 have hS : St _ _ _ _ [[⟨b2,[s1.v,(iV t_13.2.at_),(.int .u64 t_13.2.seed.v)],90⟩],q11,q7,q5]:=hS12.leaveF hR12
 have h14 : Rd m s1 t_13.2.code:=by rw [hk14]; exact h10
 refine q_x (v:=s5.v) hF hS (ex_assign rfl) rfl rfl fun a hF=>q_x (v:=(iV t_9.1)) hF hS (ex_assign rfl) rfl rfl fun a hF=>q_x (v:=(iV t_13.1)) hF hS (ex_assign rfl) rfl rfl fun a hF=>q_end (n_sq (q_ret ?_))
 obtain rfl:=someI hr
 exact ret_of hF hS rfl (.tmp rfl (.tmp rfl (.tmp rfl .nil))) ⟨q5,s5,rfl,hS.sel [3] (by decide),h5⟩

theorem c_math_bits_Len32 (p_x : K .u32) (r : Int) (hr : math_bits_Len32 p_x = some r) (w0 : World) (m : Mem) (hv : Vis m w0) :
  Ret Try.prog 196 [(.int .u32 p_x.v)] w0 (fun v _=>v = (iV r)):=by
 unfold math_bits_Len32 at hr
 refine ret_start Try.func196 rfl 19 rfl rfl m hv fun a hF hS=>q_seq (q_region (q_x (v:=(iV 0)) hF hS (ex_assign rfl) rfl rfl fun a hF=>q_end (n_sq (q_seq (q_seq (q_region (q_x (v:=(.int .u32 p_x.v)) hF hS (ex_move rfl) rfl rfl fun a hF=>q_x (v:=(.bool (decide (65536 ≤ p_x.v)))) hF hS (ex_ibin rfl rfl rfl) rfl rfl fun a hF=>q_end (n_sq ?_))))))))
 obtain ⟨j1,hj1,hr⟩:=bindS hr
 refine q_join (fun a w=>∃ x_2,∃ n_3,j1 = (x_2,n_3)∧Fr a 19 [(0,(.int .u32 x_2)),(2,(iV n_3))]∧St [] w0 w m []) ?_ ?_
 ·rcases bcase (decide (65536 ≤ p_x.v)) with hc2 | hc2
  ·have hj1:=cond_f hc2 hj1
   refine q_cond_f hF rfl hc2 (q_skipc (n_jn ?_))
   obtain rfl:=someI hj1
   exact ⟨_,_,rfl,hF.sub ⟨rfl,rfl,trivial⟩,hS⟩
  ·have hj1:=cond_t hc2 hj1
   refine q_cond_t hF rfl hc2 (q_seq (q_region (q_x (v:=(.int .u32 p_x.v)) hF hS (ex_move rfl) rfl rfl fun a hF=>?_)))
   obtain ⟨t_1,ht_1,hj1⟩:=bindS hj1
   refine q_x (v:=(.int .u32 t_1)) hF hS (ex_shr rfl rfl ht_1) rfl rfl fun a hF=>q_x (v:=(.int .u32 t_1)) hF hS (ex_assign rfl) rfl rfl fun a hF=>q_end (n_sq (q_region (q_x (v:=(iV 16)) hF hS (ex_assign rfl) rfl rfl fun a hF=>q_end (n_jn ?_))))
   obtain rfl:=someI hj1
   exact ⟨_,_,rfl,hF.sub ⟨rfl,rfl,trivial⟩,hS⟩
 ·rintro a w ⟨x_2,n_3,rfl,hF,hS⟩
  refine n_sq ?_
  refine q_seq (q_seq (q_region (q_x (v:=(.int .u32 x_2)) hF hS (ex_move rfl) rfl rfl fun a hF=>q_x (v:=(.bool (decide (256 ≤ x_2)))) hF hS (ex_ibin rfl rfl rfl) rfl rfl fun a hF=>q_end (n_sq ?_))))
  obtain ⟨j3,hj3,hr⟩:=bindS hr
  refine q_join (fun a w=>∃ x_5,∃ n_6,j3 = (x_5,n_6)∧Fr a 19 [(0,(.int .u32 x_5)),(2,(iV n_6))]∧St [] w0 w m []) ?_ ?_
  ·rcases bcase (decide (256 ≤ x_2)) with hc4 | hc4
   ·have hj3:=cond_f hc4 hj3
    refine q_cond_f hF rfl hc4 (q_skipc (n_jn ?_))
    obtain rfl:=someI hj3
    exact ⟨_,_,rfl,hF.sub ⟨rfl,rfl,trivial⟩,hS⟩
   ·have hj3:=cond_t hc4 hj3
    refine q_cond_t hF rfl hc4 (q_seq (q_region (q_x (v:=(.int .u32 x_2)) hF hS (ex_move rfl) rfl rfl fun a hF=>?_)))
    obtain ⟨t_4,ht_4,hj3⟩:=bindS hj3
    refine q_x (v:=(.int .u32 t_4)) hF hS (ex_shr rfl rfl ht_4) rfl rfl fun a hF=>q_x (v:=(.int .u32 t_4)) hF hS (ex_assign rfl) rfl rfl fun a hF=>q_end (n_sq (q_region (q_x (v:=(iV n_3)) hF hS (ex_move rfl) rfl rfl fun a hF=>q_x (v:=(iV (w64 (n_3 + 8)))) hF hS (ex_ibin rfl rfl rfl) rfl rfl fun a hF=>q_x (v:=(iV (w64 (n_3 + 8)))) hF hS (ex_assign rfl) rfl rfl fun a hF=>q_end (n_jn ?_))))
    obtain rfl:=someI hj3
    exact ⟨_,_,rfl,hF.sub ⟨rfl,rfl,trivial⟩,hS⟩
  ·rintro a w ⟨x_5,n_6,rfl,hF,hS⟩
   refine n_sq ?_
   refine q_seq (q_region (q_x (v:=(iV n_6)) hF hS (ex_move rfl) rfl rfl fun a hF=>q_x (v:=(.int .u32 x_5)) hF hS (ex_move rfl) rfl rfl fun a hF=>q_x (v:=(.int .u8 (IntKind.wrap .u8 x_5))) hF hS (ex_conv Try.underlying161 Try.underlying5 rfl) rfl rfl fun a hF=>?_))
   obtain ⟨t_7,ht_7,hr⟩:=bindS hr
   refine q_x (v:=(.int .u8 t_7)) hF hS (ex_strIdx Try.underlying9 rfl rfl ht_7) rfl rfl fun a hF=>q_x (v:=(iV (w64 t_7))) hF hS (ex_conv Try.underlying5 Try.underlying3 rfl) rfl rfl fun a hF=>q_x (v:=(iV (w64 (n_6 + (w64 t_7))))) hF hS (ex_ibin rfl rfl rfl) rfl rfl fun a hF=>q_x (v:=(iV (w64 (n_6 + (w64 t_7))))) hF hS (ex_assign rfl) rfl rfl fun a hF=>q_end (n_sq (q_ret ?_))
   obtain rfl:=someI hr
   exact ret_of hF hS rfl (.tmp rfl .nil) rfl

theorem c_math_bits_Len64 (p_x : K .u64) (r : Int) (hr : math_bits_Len64 p_x = some r) (w0 : World) (m : Mem) (hv : Vis m w0) :
  Ret Try.prog 197 [(.int .u64 p_x.v)] w0 (fun v _=>v = (iV r)):=by
 unfold math_bits_Len64 at hr
 refine ret_start Try.func197 rfl 25 rfl rfl m hv fun a hF hS=>q_seq (q_region (q_x (v:=(iV 0)) hF hS (ex_assign rfl) rfl rfl fun a hF=>q_end (n_sq (q_seq (q_seq (q_region (q_x (v:=(.int .u64 p_x.v)) hF hS (ex_move rfl) rfl rfl fun a hF=>q_x (v:=(.bool (decide (4294967296 ≤ p_x.v)))) hF hS (ex_ibin rfl rfl rfl) rfl rfl fun a hF=>q_end (n_sq ?_))))))))
 obtain ⟨j1,hj1,hr⟩:=bindS hr
 refine q_join (fun a w=>∃ x_2,∃ n_3,j1 = (x_2,n_3)∧Fr a 25 [(0,(.int .u64 x_2)),(2,(iV n_3))]∧St [] w0 w m []) ?_ ?_
 ·rcases bcase (decide (4294967296 ≤ p_x.v)) with hc2 | hc2
  ·have hj1:=cond_f hc2 hj1
   refine q_cond_f hF rfl hc2 (q_skipc (n_jn ?_))
   obtain rfl:=someI hj1
   exact ⟨_,_,rfl,hF.sub ⟨rfl,rfl,trivial⟩,hS⟩
  ·have hj1:=cond_t hc2 hj1
   refine q_cond_t hF rfl hc2 (q_seq (q_region (q_x (v:=(.int .u64 p_x.v)) hF hS (ex_move rfl) rfl rfl fun a hF=>?_)))
   obtain ⟨t_1,ht_1,hj1⟩:=bindS hj1
   refine q_x (v:=(.int .u64 t_1)) hF hS (ex_shr rfl rfl ht_1) rfl rfl fun a hF=>q_x (v:=(.int .u64 t_1)) hF hS (ex_assign rfl) rfl rfl fun a hF=>q_end (n_sq (q_region (q_x (v:=(iV 32)) hF hS (ex_assign rfl) rfl rfl fun a hF=>q_end (n_jn ?_))))
   obtain rfl:=someI hj1
   exact ⟨_,_,rfl,hF.sub ⟨rfl,rfl,trivial⟩,hS⟩
 ·rintro a w ⟨x_2,n_3,rfl,hF,hS⟩
  refine n_sq ?_
  refine q_seq (q_seq (q_region (q_x (v:=(.int .u64 x_2)) hF hS (ex_move rfl) rfl rfl fun a hF=>q_x (v:=(.bool (decide (65536 ≤ x_2)))) hF hS (ex_ibin rfl rfl rfl) rfl rfl fun a hF=>q_end (n_sq ?_))))
  obtain ⟨j3,hj3,hr⟩:=bindS hr
  refine q_join (fun a w=>∃ x_5,∃ n_6,j3 = (x_5,n_6)∧Fr a 25 [(0,(.int .u64 x_5)),(2,(iV n_6))]∧St [] w0 w m []) ?_ ?_
  ·rcases bcase (decide (65536 ≤ x_2)) with hc4 | hc4
   ·have hj3:=cond_f hc4 hj3
    refine q_cond_f hF rfl hc4 (q_skipc (n_jn ?_))
    obtain rfl:=someI hj3
    exact ⟨_,_,rfl,hF.sub ⟨rfl,rfl,trivial⟩,hS⟩
   ·have hj3:=cond_t hc4 hj3
    refine q_cond_t hF rfl hc4 (q_seq (q_region (q_x (v:=(.int .u64 x_2)) hF hS (ex_move rfl) rfl rfl fun a hF=>?_)))
    obtain ⟨t_4,ht_4,hj3⟩:=bindS hj3
    refine q_x (v:=(.int .u64 t_4)) hF hS (ex_shr rfl rfl ht_4) rfl rfl fun a hF=>q_x (v:=(.int .u64 t_4)) hF hS (ex_assign rfl) rfl rfl fun a hF=>q_end (n_sq (q_region (q_x (v:=(iV n_3)) hF hS (ex_move rfl) rfl rfl fun a hF=>q_x (v:=(iV (w64 (n_3 + 16)))) hF hS (ex_ibin rfl rfl rfl) rfl rfl fun a hF=>q_x (v:=(iV (w64 (n_3 + 16)))) hF hS (ex_assign rfl) rfl rfl fun a hF=>q_end (n_jn ?_))))
    obtain rfl:=someI hj3
    exact ⟨_,_,rfl,hF.sub ⟨rfl,rfl,trivial⟩,hS⟩
  ·rintro a w ⟨x_5,n_6,rfl,hF,hS⟩
   refine n_sq ?_
   refine q_seq (q_seq (q_region (q_x (v:=(.int .u64 x_5)) hF hS (ex_move rfl) rfl rfl fun a hF=>q_x (v:=(.bool (decide (256 ≤ x_5)))) hF hS (ex_ibin rfl rfl rfl) rfl rfl fun a hF=>q_end (n_sq ?_))))
   obtain ⟨j5,hj5,hr⟩:=bindS hr
   refine q_join (fun a w=>∃ x_8,∃ n_9,j5 = (x_8,n_9)∧Fr a 25 [(0,(.int .u64 x_8)),(2,(iV n_9))]∧St [] w0 w m []) ?_ ?_
   ·rcases bcase (decide (256 ≤ x_5)) with hc6 | hc6
    ·have hj5:=cond_f hc6 hj5
     refine q_cond_f hF rfl hc6 (q_skipc (n_jn ?_))
     obtain rfl:=someI hj5
     exact ⟨_,_,rfl,hF.sub ⟨rfl,rfl,trivial⟩,hS⟩
    ·have hj5:=cond_t hc6 hj5
     refine q_cond_t hF rfl hc6 (q_seq (q_region (q_x (v:=(.int .u64 x_5)) hF hS (ex_move rfl) rfl rfl fun a hF=>?_)))
     obtain ⟨t_7,ht_7,hj5⟩:=bindS hj5
     refine q_x (v:=(.int .u64 t_7)) hF hS (ex_shr rfl rfl ht_7) rfl rfl fun a hF=>q_x (v:=(.int .u64 t_7)) hF hS (ex_assign rfl) rfl rfl fun a hF=>q_end (n_sq (q_region (q_x (v:=(iV n_6)) hF hS (ex_move rfl) rfl rfl fun a hF=>q_x (v:=(iV (w64 (n_6 + 8)))) hF hS (ex_ibin rfl rfl rfl) rfl rfl fun a hF=>q_x (v:=(iV (w64 (n_6 + 8)))) hF hS (ex_assign rfl) rfl rfl fun a hF=>q_end (n_jn ?_))))
     obtain rfl:=someI hj5
     exact ⟨_,_,rfl,hF.sub ⟨rfl,rfl,trivial⟩,hS⟩
   ·rintro a w ⟨x_8,n_9,rfl,hF,hS⟩
    refine n_sq ?_
    refine q_seq (q_region (q_x (v:=(iV n_9)) hF hS (ex_move rfl) rfl rfl fun a hF=>q_x (v:=(.int .u64 x_8)) hF hS (ex_move rfl) rfl rfl fun a hF=>q_x (v:=(.int .u8 (IntKind.wrap .u8 x_8))) hF hS (ex_conv Try.underlying88 Try.underlying5 rfl) rfl rfl fun a hF=>?_))
    obtain ⟨t_10,ht_10,hr⟩:=bindS hr
    refine q_x (v:=(.int .u8 t_10)) hF hS (ex_strIdx Try.underlying9 rfl rfl ht_10) rfl rfl fun a hF=>q_x (v:=(iV (w64 t_10))) hF hS (ex_conv Try.underlying5 Try.underlying3 rfl) rfl rfl fun a hF=>q_x (v:=(iV (w64 (n_9 + (w64 t_10))))) hF hS (ex_ibin rfl rfl rfl) rfl rfl fun a hF=>q_x (v:=(iV (w64 (n_9 + (w64 t_10))))) hF hS (ex_assign rfl) rfl rfl fun a hF=>q_end (n_sq (q_ret ?_))
    obtain rfl:=someI hr
    exact ret_of hF hS rfl (.tmp rfl .nil) rfl

theorem c_math_bits_Len (p_x : K .u64) (r : Int) (hr : math_bits_Len p_x = some r) (w0 : World) (m : Mem) (hv : Vis m w0) :
  Ret Try.prog 181 [(.int .u64 p_x.v)] w0 (fun v _=>v = (iV r)):=by
 unfold math_bits_Len at hr
 refine ret_start Try.func181 rfl 8 rfl rfl m hv fun a hF hS=>q_seq (q_region (q_x (v:=(iV 0)) hF hS (ex_assign rfl) rfl rfl fun a hF=>q_end (n_sq (q_seq (q_cond_f hF rfl rfl (q_skipc (n_sq (q_seq (q_region (q_x (v:=(.int .u64 p_x.v)) hF hS (ex_move rfl) rfl rfl fun a hF=>?_))))))))))
 obtain ⟨t_1,ht_1,hr⟩:=bindS hr
 refine q_call (vs:=[(.int .u64 p_x.v)]) hF hS Try.func197 (by kernel_rfl) rfl rfl rfl (c_math_bits_Len64 p_x t_1 ht_1 _ m hS.vis) ?_
 rintro a w _ rfl hF hS
 refine q_x (v:=(iV t_1)) hF hS (ex_assign rfl) rfl rfl fun a hF=>q_end (n_sq (q_ret ?_))
 obtain rfl:=someI hr
 exact ret_of hF hS rfl (.tmp rfl .nil) rfl

theorem c_cmp_isNaN_int (p_x : Int) (r : Bool) (hr : cmp_isNaN_int p_x = some r) (w0 : World) (m : Mem) (hv : Vis m w0) :
  Ret Try.prog 205 [(iV p_x)] w0 (fun v _=>v = (.bool r)):=by
 unfold cmp_isNaN_int at hr
 refine ret_start Try.func205 rfl 6 rfl rfl m hv fun a hF hS=>q_seq (q_region (q_x (v:=(.bool false)) hF hS (ex_assign rfl) rfl rfl fun a hF=>q_end (n_sq (q_seq (q_region (q_x (v:=(iV p_x)) hF hS (ex_move rfl) rfl rfl fun a hF=>q_x (v:=(iV p_x)) hF hS (ex_move rfl) rfl rfl fun a hF=>q_x (v:=(.bool (p_x != p_x))) hF hS (ex_ibin rfl rfl rfl) rfl rfl fun a hF=>q_x (v:=(.bool (p_x != p_x))) hF hS (ex_assign rfl) rfl rfl fun a hF=>q_end (n_sq (q_ret ?_))))))))
 obtain rfl:=someI hr
 exact ret_of hF hS rfl (.tmp rfl .nil) rfl

theorem c_cmp_Less_int (p_x : Int) (p_y : Int) (r : Bool) (hr : cmp_Less_int p_x p_y = some r) (w0 : World) (m : Mem) (hv : Vis m w0) :
  Ret Try.prog 193 [(iV p_x),(iV p_y)] w0 (fun v _=>v = (.bool r)):=by
 unfold cmp_Less_int at hr
 refine ret_start Try.func193 rfl 17 rfl rfl m hv fun a hF hS=>q_seq (q_region (q_x (v:=(.bool false)) hF hS (ex_assign rfl) rfl rfl fun a hF=>q_end (n_sq (q_seq ?_))))
 obtain ⟨t_3,hj1,hr⟩:=bindS hr
 refine q_join (fun a w=>Fr a 17 [(4,(.bool t_3))]∧St [] w0 w m []) ?_ ?_
 ·refine q_region (q_x (v:=(iV p_x)) hF hS (ex_move rfl) rfl rfl fun a hF=>?_)
  obtain ⟨t_1,ht_1,hj1⟩:=bindS hj1
  refine q_call (vs:=[(iV p_x)]) hF hS Try.func205 (by kernel_rfl) rfl rfl rfl (c_cmp_isNaN_int p_x t_1 ht_1 _ m hS.vis) ?_
  rintro a w _ rfl hF hS
  refine q_x (v:=(.bool t_1)) hF hS (ex_move rfl) rfl rfl fun a hF=>?_
  rcases bcase (t_1) with hc2 | hc2
  ·have hj1:=cond_f hc2 hj1
   refine q_skip hF (wanted_f hF rfl rfl rfl hc2 rfl) rfl fun a hF=>q_skip hF (wanted_f hF rfl rfl rfl hc2 rfl) rfl fun a hF=>q_skip hF (wanted_f hF rfl rfl rfl hc2 rfl) rfl fun a hF=>q_x (v:=(.bool false)) hF hS (ex_pick_f rfl rfl hc2) rfl rfl fun a hF=>q_x (v:=(.bool false)) hF hS (ex_move rfl) rfl rfl fun a hF=>q_xg (v:=(iV p_x)) hF hS (ex_move rfl) (wanted_t hF rfl rfl rfl rfl) rfl fun a hF=>q_xg (v:=(iV p_y)) hF hS (ex_move rfl) (wanted_t hF rfl rfl rfl rfl) rfl fun a hF=>q_xg (v:=(.bool (decide (p_x < p_y)))) hF hS (ex_ibin rfl rfl rfl) (wanted_t hF rfl rfl rfl rfl) rfl fun a hF=>q_x (v:=(.bool (decide (p_x < p_y)))) hF hS (ex_pick_f rfl rfl rfl) rfl rfl fun a hF=>q_x (v:=(.bool (decide (p_x < p_y)))) hF hS (ex_assign rfl) rfl rfl fun a hF=>q_end (n_jn ?_)
   obtain rfl:=someI hj1
   exact ⟨hF.sub ⟨rfl,trivial⟩,hS⟩
  ·have hj1:=cond_t hc2 hj1
   refine q_xg (v:=(iV p_y)) hF hS (ex_move rfl) (wanted_t hF rfl rfl rfl hc2) rfl fun a hF=>?_
   obtain ⟨t_2,ht_2,hj1⟩:=bindS hj1
   refine q_callg (vs:=[(iV p_y)]) hF hS (wanted_t hF rfl rfl rfl hc2) Try.func205 (by kernel_rfl) rfl rfl rfl (c_cmp_isNaN_int p_y t_2 ht_2 _ m hS.vis) ?_
   rintro a w _ rfl hF hS
   refine q_xg (v:=(.bool (!t_2))) hF hS (ex_not rfl) (wanted_t hF rfl rfl rfl hc2) rfl fun a hF=>q_x (v:=(.bool (!t_2))) hF hS (ex_pick_t rfl rfl hc2) rfl rfl fun a hF=>q_x (v:=(.bool (!t_2))) hF hS (ex_move rfl) rfl rfl fun a hF=>?_
   rcases bcase (!t_2) with hc3 | hc3
   ·have hj1:=cond_f hc3 hj1
    refine q_xg (v:=(iV p_x)) hF hS (ex_move rfl) (wanted_t hF rfl rfl rfl hc3) rfl fun a hF=>q_xg (v:=(iV p_y)) hF hS (ex_move rfl) (wanted_t hF rfl rfl rfl hc3) rfl fun a hF=>q_xg (v:=(.bool (decide (p_x < p_y)))) hF hS (ex_ibin rfl rfl rfl) (wanted_t hF rfl rfl rfl hc3) rfl fun a hF=>q_x (v:=(.bool (decide (p_x < p_y)))) hF hS (ex_pick_f rfl rfl hc3) rfl rfl fun a hF=>q_x (v:=(.bool (decide (p_x < p_y)))) hF hS (ex_assign rfl) rfl rfl fun a hF=>q_end (n_jn ?_)
    obtain rfl:=someI hj1
    exact ⟨hF.sub ⟨rfl,trivial⟩,hS⟩
   ·have hj1:=cond_t hc3 hj1
    refine q_skip hF (wanted_f hF rfl rfl rfl hc3 rfl) rfl fun a hF=>q_skip hF (wanted_f hF rfl rfl rfl hc3 rfl) rfl fun a hF=>q_skip hF (wanted_f hF rfl rfl rfl hc3 rfl) rfl fun a hF=>q_x (v:=(.bool true)) hF hS (ex_pick_t rfl rfl hc3) rfl rfl fun a hF=>q_x (v:=(.bool true)) hF hS (ex_assign rfl) rfl rfl fun a hF=>q_end (n_jn ?_)
    obtain rfl:=someI hj1
    exact ⟨hF.sub ⟨rfl,trivial⟩,hS⟩
 ·rintro a w ⟨hF,hS⟩
  refine n_sq (q_ret ?_)
  obtain rfl:=someI hr
  exact ret_of hF hS rfl (.tmp rfl .nil) rfl

theorem c_slices_insertionSortOrdered_int (p_data : List Int) (p_a : Int) (p_b : Int) (r : (List Int)) (hr : slices_insertionSortOrdered_int p_data p_a p_b = some r) (w0 : World) (m : Mem) (s1 : Sl) (q1 : Piece) (h1 : OwnL m 3 q1 s1 p_data) (X : List Nat) (hS : St X w0 w0 m [q1]) :
  RetX Try.prog 187 [s1.v,(iV p_a),(iV p_b)] w0 (fun v w=>∃ (qp0 : Piece),v = (.tuple #[])∧St X w0 w m [qp0]∧OwnL m 3 qp0 s1 r):=by
 unfold slices_insertionSortOrdered_int at hr
 refine ret_startX Try.func187 rfl 49 rfl rfl fun a hF=>q_seq (q_region (q_x (v:=(iV p_a)) hF hS (ex_move rfl) rfl rfl fun a hF=>q_x (v:=(iV (w64 (p_a + 1)))) hF hS (ex_ibin rfl rfl rfl) rfl rfl fun a hF=>q_x (v:=(iV (w64 (p_a + 1)))) hF hS (ex_assign rfl) rfl rfl fun a hF=>q_end (n_sq (q_block ?_))))
 obtain ⟨data_26,hl1,hr⟩:=bindS hr
 refine q_loop (fun (s : (List Int) × Int) a w=>∃ (q3 : Piece),∃ data_2,∃ i_4,s = (data_2,i_4)∧Fr a 49 [(0,s1.v),(1,(iV p_a)),(2,(iV p_b)),(6,(iV i_4))]∧St X w0 w m [q3]∧OwnL m 3 q3 s1 data_2) (fun (data_26 : (List Int)) e a w=>∃ (q27 : Piece),e = .exit 0∧Fr a 49 []∧St X w0 w m [q27]∧OwnL m 3 q27 s1 data_26) hl1 ⟨q1,_,_,rfl,hF.sub ⟨rfl,rfl,rfl,rfl,trivial⟩,hS,h1⟩ ?_ ?_
 ·clear hF hS
  rintro s a w st ⟨q3,data_2,i_4,rfl,hF,hS,h3⟩ hb1
  unfold slices_insertionSortOrdered_int_l1 at hb1
  refine q_seq (q_seq (q_region (q_x (v:=(iV i_4)) hF hS (ex_move rfl) rfl rfl fun a hF=>q_x (v:=(iV p_b)) hF hS (ex_move rfl) rfl rfl fun a hF=>q_x (v:=(.bool (decide (i_4 < p_b)))) hF hS (ex_ibin rfl rfl rfl) rfl rfl fun a hF=>q_end (n_sq ?_))))
  rcases bcase (decide (i_4 < p_b)) with hc2 | hc2
  ·have hb1:=cond_f hc2 hb1
   refine q_cond_f hF rfl hc2 (q_exit (x_sq ?_))
   obtain rfl:=someI hb1
   exact ⟨nofun,.inl ⟨q3,rfl,hF.sub trivial,hS,h3⟩⟩
  ·have hb1:=cond_t hc2 hb1
   refine q_cond_t hF rfl hc2 (q_skipc (n_sq (q_seq (q_block (q_seq (q_region (q_x (v:=(iV i_4)) hF hS (ex_move rfl) rfl rfl fun a hF=>q_x (v:=(iV i_4)) hF hS (ex_assign rfl) rfl rfl fun a hF=>q_end (n_sq (q_block ?_)))))))))
   obtain ⟨data_24,hl3,hb1⟩:=bindS hb1
   refine q_loop (fun (s : (List Int) × Int) a w=>∃ (q6 : Piece),∃ data_5,∃ j_7,s = (data_5,j_7)∧Fr a 49 [(0,s1.v),(1,(iV p_a)),(2,(iV p_b)),(6,(iV i_4)),(7,(iV j_7))]∧St X w0 w m [q6]∧OwnL m 3 q6 s1 data_5) (fun (data_24 : (List Int)) e a w=>∃ (q25 : Piece),e = .exit 2∧Fr a 49 [(0,s1.v),(1,(iV p_a)),(2,(iV p_b)),(6,(iV i_4))]∧St X w0 w m [q25]∧OwnL m 3 q25 s1 data_24) hl3 ⟨q3,_,_,rfl,hF.sub ⟨rfl,rfl,rfl,rfl,rfl,trivial⟩,hS,h3⟩ ?_ ?_
   ·clear hF hS
    rintro s a w st ⟨q6,data_5,j_7,rfl,hF,hS,h6⟩ hb3
    unfold slices_insertionSortOrdered_int_l2 at hb3
    refine q_seq (q_seq ?_)
    obtain ⟨t_13,hj4,hb3⟩:=bindS hb3
    refine q_join (fun a w=>Fr a 49 [(0,s1.v),(1,(iV p_a)),(2,(iV p_b)),(6,(iV i_4)),(7,(iV j_7)),(30,(.bool t_13))]∧St X w0 w m [q6]) ?_ ?_
    ·refine e_region ⟨[],[]⟩ mixed fun w' hw'=>?_
     have hS:=hS.below hw'
     refine e_p (v:=(iV j_7)) 0 hF rfl (ex_move rfl) rfl rfl (by kernel_rfl) (by kernel_rfl) (by kernel_rfl) fun a hF=>e_p (v:=(iV p_a)) 1 hF rfl (ex_move rfl) rfl rfl (by kernel_rfl) (by kernel_rfl) (by kernel_rfl) fun a hF=>e_p (v:=(.bool (decide (p_a < j_7)))) 2 hF rfl (ex_ibin rfl rfl rfl) rfl rfl (by kernel_rfl) (by kernel_rfl) (by kernel_rfl) fun a hF=>e_p (v:=(.bool (decide (p_a < j_7)))) 3 hF rfl (ex_move rfl) rfl rfl (by kernel_rfl) (by kernel_rfl) (by kernel_rfl) fun a hF=>?_
     rcases bcase (decide (p_a < j_7)) with hc5 | hc5
     ·have hj4:=cond_f hc5 hj4
      refine e_skipP 4 hF rfl (wanted_f hF rfl rfl rfl hc5 rfl) rfl (by kernel_rfl) (by kernel_rfl) (by kernel_rfl) fun a hF=>e_skipP 5 hF rfl (wanted_f hF rfl rfl rfl hc5 rfl) rfl (by kernel_rfl) (by kernel_rfl) (by kernel_rfl) fun a hF=>e_skipP 6 hF rfl (wanted_f hF rfl rfl rfl hc5 rfl) rfl (by kernel_rfl) (by kernel_rfl) (by kernel_rfl) fun a hF=>e_skipP 7 hF rfl (wanted_f hF rfl rfl rfl hc5 rfl) rfl (by kernel_rfl) (by kernel_rfl) (by kernel_rfl) fun a hF=>e_skipP 8 hF rfl (wanted_f hF rfl rfl rfl hc5 rfl) rfl (by kernel_rfl) (by kernel_rfl) (by kernel_rfl) fun a hF=>e_skipP 9 hF rfl (wanted_f hF rfl rfl rfl hc5 rfl) rfl (by kernel_rfl) (by kernel_rfl) (by kernel_rfl) fun a hF=>e_skipP 10 hF rfl (wanted_f hF rfl rfl rfl hc5 rfl) rfl (by kernel_rfl) (by kernel_rfl) (by kernel_rfl) fun a hF=>e_skipP 11 hF rfl (wanted_f hF rfl rfl rfl hc5 rfl) rfl (by kernel_rfl) (by kernel_rfl) (by kernel_rfl) fun a hF=>e_skipP 12 hF rfl (wanted_f hF rfl rfl rfl hc5 rfl) rfl (by kernel_rfl) (by kernel_rfl) (by kernel_rfl) fun a hF=>e_skipP 13 hF rfl (wanted_f hF rfl rfl rfl hc5 rfl) rfl (by kernel_rfl) (by kernel_rfl) (by kernel_rfl) fun a hF=>e_p (v:=(.bool false)) 14 hF rfl (ex_pick_f rfl rfl hc5) rfl rfl (by kernel_rfl) (by kernel_rfl) (by kernel_rfl) fun a hF=>e_end (by kernel_rfl) (n_jn ?_) _
      obtain rfl:=someI hj4
      exact ⟨hF.sub ⟨rfl,rfl,rfl,rfl,rfl,rfl,trivial⟩,hS⟩
     ·have hj4:=cond_t hc5 hj4
      refine e_pg (v:=s1.v) 4 hF rfl (ex_move rfl) (wanted_t hF rfl rfl rfl hc5) rfl (by kernel_rfl) (by kernel_rfl) (by kernel_rfl) fun a hF=>e_pg (v:=(iV j_7)) 5 hF rfl (ex_move rfl) (wanted_t hF rfl rfl rfl hc5) rfl (by kernel_rfl) (by kernel_rfl) (by kernel_rfl) fun a hF=>?_
      obtain ⟨e_8,he_8,hj4⟩:=bindS hj4
      obtain ⟨vs9,at9,d9⟩:=h6.at he_8 1 rfl
      obtain rfl : vs9 = [(iV e_8)]:=d9
      refine e_pg (v:=(elP s1 (j_7.toNat * 1))) 6 hF rfl (ex_indexAddr Try.underlying28 sz3 rfl rfl (h6.idx he_8)) (wanted_t hF rfl rfl rfl hc5) rfl (by kernel_rfl) (by kernel_rfl) (by kernel_rfl) fun a hF=>e_xg (v:=(iV e_8)) 7 hF hS rfl (ex_loadE1 0 Try.underlying3 rfl rfl (at9.at 0 rfl) rfl rfl) (wanted_t hF rfl rfl rfl hc5) rfl (by kernel_rfl) (by kernel_rfl) (by kernel_rfl) (by kernel_rfl) fun a hF=>e_pg (v:=s1.v) 8 hF rfl (ex_move rfl) (wanted_t hF rfl rfl rfl hc5) rfl (by kernel_rfl) (by kernel_rfl) (by kernel_rfl) fun a hF=>e_pg (v:=(iV j_7)) 9 hF rfl (ex_move rfl) (wanted_t hF rfl rfl rfl hc5) rfl (by kernel_rfl) (by kernel_rfl) (by kernel_rfl) fun a hF=>e_pg (v:=(iV (w64 (j_7 - 1)))) 10 hF rfl (ex_ibin rfl rfl rfl) (wanted_t hF rfl rfl rfl hc5) rfl (by kernel_rfl) (by kernel_rfl) (by kernel_rfl) fun a hF=>?_
      obtain ⟨e_10,he_10,hj4⟩:=bindS hj4
      obtain ⟨vs11,at11,d11⟩:=h6.at he_10 1 rfl
      obtain rfl : vs11 = [(iV e_10)]:=d11
      refine e_pg (v:=(elP s1 ((w64 (j_7 - 1)).toNat * 1))) 11 hF rfl (ex_indexAddr Try.underlying28 sz3 rfl rfl (h6.idx he_10)) (wanted_t hF rfl rfl rfl hc5) rfl (by kernel_rfl) (by kernel_rfl) (by kernel_rfl) fun a hF=>e_xg (v:=(iV e_10)) 12 hF hS rfl (ex_loadE1 0 Try.underlying3 rfl rfl (at11.at 0 rfl) rfl rfl) (wanted_t hF rfl rfl rfl hc5) rfl (by kernel_rfl) (by kernel_rfl) (by kernel_rfl) (by kernel_rfl) fun a hF=>e_one 13 (by kernel_rfl) ?_
      obtain ⟨t_12,ht_12,hj4⟩:=bindS hj4
      refine e_callg (vs:=[(iV e_8),(iV e_10)]) hF hS rfl (wanted_t hF rfl rfl rfl hc5) Try.func193 (by kernel_rfl) rfl rfl rfl (c_cmp_Less_int e_8 e_10 t_12 ht_12 _ m hS.vis) ?_
      rintro a w _ rfl hF hS
      refine e_p (v:=(.bool t_12)) 14 hF rfl (ex_pick_t rfl rfl hc5) rfl rfl (by kernel_rfl) (by kernel_rfl) (by kernel_rfl) fun a hF=>e_end (by kernel_rfl) (n_jn ?_) _
      obtain rfl:=someI hj4
      exact ⟨hF.sub ⟨rfl,rfl,rfl,rfl,rfl,rfl,trivial⟩,hS⟩
    ·rintro a w ⟨hF,hS⟩
     refine n_sq ?_
     rcases bcase (t_13) with hc6 | hc6
     ·have hb3:=cond_f hc6 hb3
      refine q_cond_f hF rfl hc6 (q_exit (x_sq ?_))
      obtain rfl:=someI hb3
      exact ⟨nofun,.inl ⟨q6,rfl,hF.sub ⟨rfl,rfl,rfl,rfl,trivial⟩,hS,h6⟩⟩
     ·have hb3:=cond_t hc6 hb3
      refine q_cond_t hF rfl hc6 (q_skipc (n_sq (q_seq (q_block (e_region ⟨[15,17],[]⟩ mixed fun w' hw'=>?_)))))
      have hS:=hS.below hw'
      refine e_p (v:=s1.v) 0 hF rfl (ex_move rfl) rfl rfl (by kernel_rfl) (by kernel_rfl) (by kernel_rfl) fun a hF=>e_p (v:=(iV j_7)) 1 hF rfl (ex_move rfl) rfl rfl (by kernel_rfl) (by kernel_rfl) (by kernel_rfl) fun a hF=>e_p (v:=s1.v) 2 hF rfl (ex_move rfl) rfl rfl (by kernel_rfl) (by kernel_rfl) (by kernel_rfl) fun a hF=>e_p (v:=(iV j_7)) 3 hF rfl (ex_move rfl) rfl rfl (by kernel_rfl) (by kernel_rfl) (by kernel_rfl) fun a hF=>e_p (v:=(iV (w64 (j_7 - 1)))) 4 hF rfl (ex_ibin rfl rfl rfl) rfl rfl (by kernel_rfl) (by kernel_rfl) (by kernel_rfl) fun a hF=>e_p (v:=s1.v) 5 hF rfl (ex_move rfl) rfl rfl (by kernel_rfl) (by kernel_rfl) (by kernel_rfl) fun a hF=>e_p (v:=(iV j_7)) 6 hF rfl (ex_move rfl) rfl rfl (by kernel_rfl) (by kernel_rfl) (by kernel_rfl) fun a hF=>e_p (v:=(iV (w64 (j_7 - 1)))) 7 hF rfl (ex_ibin rfl rfl rfl) rfl rfl (by kernel_rfl) (by kernel_rfl) (by kernel_rfl) fun a hF=>?_
      obtain ⟨e_14,he_14,hb3⟩:=bindS hb3
      obtain ⟨vs15,at15,d15⟩:=h6.at he_14 1 rfl
      obtain rfl : vs15 = [(iV e_14)]:=d15
      refine e_p (v:=(elP s1 ((w64 (j_7 - 1)).toNat * 1))) 8 hF rfl (ex_indexAddr Try.underlying28 sz3 rfl rfl (h6.idx he_14)) rfl rfl (by kernel_rfl) (by kernel_rfl) (by kernel_rfl) fun a hF=>e_x (v:=(iV e_14)) 9 hF hS rfl (ex_loadE1 0 Try.underlying3 rfl rfl (at15.at 0 rfl) rfl rfl) rfl rfl (by kernel_rfl) (by kernel_rfl) (by kernel_rfl) (by kernel_rfl) fun a hF=>e_p (v:=s1.v) 10 hF rfl (ex_move rfl) rfl rfl (by kernel_rfl) (by kernel_rfl) (by kernel_rfl) fun a hF=>e_p (v:=(iV j_7)) 11 hF rfl (ex_move rfl) rfl rfl (by kernel_rfl) (by kernel_rfl) (by kernel_rfl) fun a hF=>?_
      obtain ⟨e_16,he_16,hb3⟩:=bindS hb3
      obtain ⟨vs17,at17,d17⟩:=h6.at he_16 1 rfl
      obtain rfl : vs17 = [(iV e_16)]:=d17
      refine e_p (v:=(elP s1 (j_7.toNat * 1))) 12 hF rfl (ex_indexAddr Try.underlying28 sz3 rfl rfl (h6.idx he_16)) rfl rfl (by kernel_rfl) (by kernel_rfl) (by kernel_rfl) fun a hF=>e_x (v:=(iV e_16)) 13 hF hS rfl (ex_loadE1 0 Try.underlying3 rfl rfl (at17.at 0 rfl) rfl rfl) rfl rfl (by kernel_rfl) (by kernel_rfl) (by kernel_rfl) (by kernel_rfl) fun a hF=>?_
      obtain ⟨e_18,he_18,hb3⟩:=bindS hb3
      obtain ⟨vs19,at19,d19⟩:=h6.at he_18 1 rfl
      obtain rfl : vs19 = [(iV e_18)]:=d19
      refine e_p (v:=(elP s1 (j_7.toNat * 1))) 14 hF rfl (ex_indexAddr Try.underlying28 sz3 rfl rfl (h6.idx he_18)) rfl rfl (by kernel_rfl) (by kernel_rfl) (by kernel_rfl) fun a hF=>e_one 15 (by kernel_rfl) (e_opl rfl rfl rfl fun _ hK=>wp_storeE (e':=e_14) (us:=[(iV e_14)]) (vs:=[(iV e_18)]) 0 hF hS h6 sz3 rfl rfl rfl rfl rfl rfl rfl he_18 at19 rfl rfl rfl fun w q20 hS h20=>hK _ _ (⟨kpN,?_⟩))
      obtain ⟨e_21,he_21,hb3⟩:=bindS hb3
      obtain ⟨vs22,at22,d22⟩:=h20.at he_21 1 rfl
      obtain rfl : vs22 = [(iV e_21)]:=d22
      refine e_p (v:=(elP s1 ((w64 (j_7 - 1)).toNat * 1))) 16 hF rfl (ex_indexAddr Try.underlying28 sz3 rfl rfl (h20.idx he_21)) rfl rfl (by kernel_rfl) (by kernel_rfl) (by kernel_rfl) fun a hF=>e_one 17 (by kernel_rfl) (e_opl rfl rfl rfl fun _ hK=>wp_storeE (e':=e_16) (us:=[(iV e_16)]) (vs:=[(iV e_21)]) 0 hF hS h20 sz3 rfl rfl rfl rfl rfl rfl rfl he_21 at22 rfl rfl rfl fun w q23 hS h23=>hK _ _ (⟨kpN,?_⟩))
      refine e_end (by kernel_rfl) (n_ib (n_sq ?_)) _
      refine q_region (q_x (v:=(iV j_7)) hF hS (ex_move rfl) rfl rfl fun a hF=>q_x (v:=(iV (w64 (j_7 - 1)))) hF hS (ex_ibin rfl rfl rfl) rfl rfl fun a hF=>q_x (v:=(iV (w64 (j_7 - 1)))) hF hS (ex_assign rfl) rfl rfl fun a hF=>q_end ?_)
      obtain rfl:=someI hb3
      exact ⟨rfl,q23,_,_,rfl,hF.sub ⟨rfl,rfl,rfl,rfl,rfl,trivial⟩,hS,h23⟩
   ·rintro e a w ⟨q25,rfl,hF,hS,h25⟩
    refine x_ib (n_ib (n_sq ?_))
    refine q_region (q_x (v:=(iV i_4)) hF hS (ex_move rfl) rfl rfl fun a hF=>q_x (v:=(iV (w64 (i_4 + 1)))) hF hS (ex_ibin rfl rfl rfl) rfl rfl fun a hF=>q_x (v:=(iV (w64 (i_4 + 1)))) hF hS (ex_assign rfl) rfl rfl fun a hF=>q_end ?_)
    obtain rfl:=someI hb1
    exact ⟨rfl,q25,_,_,rfl,hF.sub ⟨rfl,rfl,rfl,rfl,trivial⟩,hS,h25⟩
 ·rintro e a w ⟨q27,rfl,hF,hS,h27⟩
  refine x_ib (normal_ret ?_)
  obtain rfl:=someI hr
  exact ret_ofX hF hS rfl .nil ⟨q27,rfl,hS.sel [0] (by decide),h27⟩

theorem c_slices_siftDownOrdered_int (p_data : List Int) (p_lo : Int) (p_hi : Int) (p_first : Int) (r : (List Int)) (hr : slices_siftDownOrdered_int p_data p_lo p_hi p_first = some r) (w0 : World) (m : Mem) (s1 : Sl) (q1 : Piece) (h1 : OwnL m 3 q1 s1 p_data) (X : List Nat) (hS : St X w0 w0 m [q1]) :
  RetX Try.prog 200 [s1.v,(iV p_lo),(iV p_hi),(iV p_first)] w0 (fun v w=>∃ (qp0 : Piece),v = (.tuple #[])∧St X w0 w m [qp0]∧OwnL m 3 qp0 s1 r):=by
 unfold slices_siftDownOrdered_int at hr
 refine ret_startX Try.func200 rfl 76 rfl rfl fun a hF=>q_seq (q_region (q_x (v:=(iV p_lo)) hF hS (ex_move rfl) rfl rfl fun a hF=>q_x (v:=(iV p_lo)) hF hS (ex_assign rfl) rfl rfl fun a hF=>q_end (n_sq (q_block ?_))))
 obtain ⟨o1,hl1,hr⟩:=bindS hr
 refine q_loop (fun (s : (List Int) × Int) a w=>∃ (q3 : Piece),∃ data_2,∃ root_4,s = (data_2,root_4)∧Fr a 76 [(0,s1.v),(2,(iV p_hi)),(3,(iV p_first)),(8,(iV root_4))]∧St X w0 w m [q3]∧OwnL m 3 q3 s1 data_2) (fun (o : ((List Int)) ⊕ ((List Int))) e a w=>∃ (q28 : Piece),∃ data_27,o = .inl data_27∧e = .exit 0∧Fr a 76 []∧St X w0 w m [q28]∧OwnL m 3 q28 s1 data_27) hl1 ⟨q1,_,_,rfl,hF.sub ⟨rfl,rfl,rfl,rfl,trivial⟩,hS,h1⟩ ?_ ?_
 ·clear hF hS
  rintro s a w st ⟨q3,data_2,root_4,rfl,hF,hS,h3⟩ hb1
  unfold slices_siftDownOrdered_int_l1 at hb1
  refine q_block (q_seq (q_region (q_x (v:=(iV root_4)) hF hS (ex_move rfl) rfl rfl fun a hF=>q_x (v:=(iV (w64 (2 * root_4)))) hF hS (ex_ibin rfl rfl rfl) rfl rfl fun a hF=>q_x (v:=(iV (w64 ((w64 (2 * root_4)) + 1)))) hF hS (ex_ibin rfl rfl rfl) rfl rfl fun a hF=>q_x (v:=(iV (w64 ((w64 (2 * root_4)) + 1)))) hF hS (ex_assign rfl) rfl rfl fun a hF=>q_end (n_sq (q_seq (q_seq (q_region (q_x (v:=(iV (w64 ((w64 (2 * root_4)) + 1)))) hF hS (ex_move rfl) rfl rfl fun a hF=>q_x (v:=(iV p_hi)) hF hS (ex_move rfl) rfl rfl fun a hF=>q_x (v:=(.bool (decide (p_hi ≤ (w64 ((w64 (2 * root_4)) + 1)))))) hF hS (ex_ibin rfl rfl rfl) rfl rfl fun a hF=>q_end (n_sq ?_)))))))))
  rcases bcase (decide (p_hi ≤ (w64 ((w64 (2 * root_4)) + 1)))) with hc2 | hc2
  ·have hb1:=cond_f hc2 hb1
   refine q_cond_f hF rfl hc2 (q_skipc (n_sq (q_seq (q_seq ?_))))
   obtain ⟨t_10,hj3,hb1⟩:=bindS hb1
   refine q_join (fun a w=>Fr a 76 [(0,s1.v),(2,(iV p_hi)),(3,(iV p_first)),(8,(iV root_4)),(9,(iV (w64 ((w64 (2 * root_4)) + 1)))),(36,(.bool t_10))]∧St X w0 w m [q3]) ?_ ?_
   ·refine e_region ⟨[],[]⟩ mixed fun w' hw'=>?_
    have hS:=hS.below hw'
    refine e_p (v:=(iV (w64 ((w64 (2 * root_4)) + 1)))) 0 hF rfl (ex_move rfl) rfl rfl (by kernel_rfl) (by kernel_rfl) (by kernel_rfl) fun a hF=>e_p (v:=(iV (w64 ((w64 ((w64 (2 * root_4)) + 1)) + 1)))) 1 hF rfl (ex_ibin rfl rfl rfl) rfl rfl (by kernel_rfl) (by kernel_rfl) (by kernel_rfl) fun a hF=>e_p (v:=(iV p_hi)) 2 hF rfl (ex_move rfl) rfl rfl (by kernel_rfl) (by kernel_rfl) (by kernel_rfl) fun a hF=>e_p (v:=(.bool (decide ((w64 ((w64 ((w64 (2 * root_4)) + 1)) + 1)) < p_hi)))) 3 hF rfl (ex_ibin rfl rfl rfl) rfl rfl (by kernel_rfl) (by kernel_rfl) (by kernel_rfl) fun a hF=>e_p (v:=(.bool (decide ((w64 ((w64 ((w64 (2 * root_4)) + 1)) + 1)) < p_hi)))) 4 hF rfl (ex_move rfl) rfl rfl (by kernel_rfl) (by kernel_rfl) (by kernel_rfl) fun a hF=>?_
    rcases bcase (decide ((w64 ((w64 ((w64 (2 * root_4)) + 1)) + 1)) < p_hi)) with hc4 | hc4
    ·have hj3:=cond_f hc4 hj3
     refine e_skipP 5 hF rfl (wanted_f hF rfl rfl rfl hc4 rfl) rfl (by kernel_rfl) (by kernel_rfl) (by kernel_rfl) fun a hF=>e_skipP 6 hF rfl (wanted_f hF rfl rfl rfl hc4 rfl) rfl (by kernel_rfl) (by kernel_rfl) (by kernel_rfl) fun a hF=>e_skipP 7 hF rfl (wanted_f hF rfl rfl rfl hc4 rfl) rfl (by kernel_rfl) (by kernel_rfl) (by kernel_rfl) fun a hF=>e_skipP 8 hF rfl (wanted_f hF rfl rfl rfl hc4 rfl) rfl (by kernel_rfl) (by kernel_rfl) (by kernel_rfl) fun a hF=>e_skipP 9 hF rfl (wanted_f hF rfl rfl rfl hc4 rfl) rfl (by kernel_rfl) (by kernel_rfl) (by kernel_rfl) fun a hF=>e_skipP 10 hF rfl (wanted_f hF rfl rfl rfl hc4 rfl) rfl (by kernel_rfl) (by kernel_rfl) (by kernel_rfl) fun a hF=>e_skipP 11 hF rfl (wanted_f hF rfl rfl rfl hc4 rfl) rfl (by kernel_rfl) (by kernel_rfl) (by kernel_rfl) fun a hF=>e_skipP 12 hF rfl (wanted_f hF rfl rfl rfl hc4 rfl) rfl (by kernel_rfl) (by kernel_rfl) (by kernel_rfl) fun a hF=>e_skipP 13 hF rfl (wanted_f hF rfl rfl rfl hc4 rfl) rfl (by kernel_rfl) (by kernel_rfl) (by kernel_rfl) fun a hF=>e_skipP 14 hF rfl (wanted_f hF rfl rfl rfl hc4 rfl) rfl (by kernel_rfl) (by kernel_rfl) (by kernel_rfl) fun a hF=>e_skipP 15 hF rfl (wanted_f hF rfl rfl rfl hc4 rfl) rfl (by kernel_rfl) (by kernel_rfl) (by kernel_rfl) fun a hF=>e_skipP 16 hF rfl (wanted_f hF rfl rfl rfl hc4 rfl) rfl (by kernel_rfl) (by kernel_rfl) (by kernel_rfl) fun a hF=>e_skipP 17 hF rfl (wanted_f hF rfl rfl rfl hc4 rfl) rfl (by kernel_rfl) (by kernel_rfl) (by kernel_rfl) fun a hF=>e_skipP 18 hF rfl (wanted_f hF rfl rfl rfl hc4 rfl) rfl (by kernel_rfl) (by kernel_rfl) (by kernel_rfl) fun a hF=>e_p (v:=(.bool false)) 19 hF rfl (ex_pick_f rfl rfl hc4) rfl rfl (by kernel_rfl) (by kernel_rfl) (by kernel_rfl) fun a hF=>e_end (by kernel_rfl) (n_jn ?_) _
     obtain rfl:=someI hj3
     exact ⟨hF.sub ⟨rfl,rfl,rfl,rfl,rfl,rfl,trivial⟩,hS⟩
    ·have hj3:=cond_t hc4 hj3
     refine e_pg (v:=s1.v) 5 hF rfl (ex_move rfl) (wanted_t hF rfl rfl rfl hc4) rfl (by kernel_rfl) (by kernel_rfl) (by kernel_rfl) fun a hF=>e_pg (v:=(iV p_first)) 6 hF rfl (ex_move rfl) (wanted_t hF rfl rfl rfl hc4) rfl (by kernel_rfl) (by kernel_rfl) (by kernel_rfl) fun a hF=>e_pg (v:=(iV (w64 ((w64 (2 * root_4)) + 1)))) 7 hF rfl (ex_move rfl) (wanted_t hF rfl rfl rfl hc4) rfl (by kernel_rfl) (by kernel_rfl) (by kernel_rfl) fun a hF=>e_pg (v:=(iV (w64 (p_first + (w64 ((w64 (2 * root_4)) + 1)))))) 8 hF rfl (ex_ibin rfl rfl rfl) (wanted_t hF rfl rfl rfl hc4) rfl (by kernel_rfl) (by kernel_rfl) (by kernel_rfl) fun a hF=>?_
     obtain ⟨e_5,he_5,hj3⟩:=bindS hj3
     obtain ⟨vs6,at6,d6⟩:=h3.at he_5 1 rfl
     obtain rfl : vs6 = [(iV e_5)]:=d6
     refine e_pg (v:=(elP s1 ((w64 (p_first + (w64 ((w64 (2 * root_4)) + 1)))).toNat * 1))) 9 hF rfl (ex_indexAddr Try.underlying28 sz3 rfl rfl (h3.idx he_5)) (wanted_t hF rfl rfl rfl hc4) rfl (by kernel_rfl) (by kernel_rfl) (by kernel_rfl) fun a hF=>e_xg (v:=(iV e_5)) 10 hF hS rfl (ex_loadE1 0 Try.underlying3 rfl rfl (at6.at 0 rfl) rfl rfl) (wanted_t hF rfl rfl rfl hc4) rfl (by kernel_rfl) (by kernel_rfl) (by kernel_rfl) (by kernel_rfl) fun a hF=>e_pg (v:=s1.v) 11 hF rfl (ex_move rfl) (wanted_t hF rfl rfl rfl hc4) rfl (by kernel_rfl) (by kernel_rfl) (by kernel_rfl) fun a hF=>e_pg (v:=(iV p_first)) 12 hF rfl (ex_move rfl) (wanted_t hF rfl rfl rfl hc4) rfl (by kernel_rfl) (by kernel_rfl) (by kernel_rfl) fun a hF=>e_pg (v:=(iV (w64 ((w64 (2 * root_4)) + 1)))) 13 hF rfl (ex_move rfl) (wanted_t hF rfl rfl rfl hc4) rfl (by kernel_rfl) (by kernel_rfl) (by kernel_rfl) fun a hF=>e_pg (v:=(iV (w64 (p_first + (w64 ((w64 (2 * root_4)) + 1)))))) 14 hF rfl (ex_ibin rfl rfl rfl) (wanted_t hF rfl rfl rfl hc4) rfl (by kernel_rfl) (by kernel_rfl) (by kernel_rfl) fun a hF=>e_pg (v:=(iV (w64 ((w64 (p_first + (w64 ((w64 (2 * root_4)) + 1)))) + 1)))) 15 hF rfl (ex_ibin rfl rfl rfl) (wanted_t hF rfl rfl rfl hc4) rfl (by kernel_rfl) (by kernel_rfl) (by kernel_rfl) fun a hF=>?_
     obtain ⟨e_7,he_7,hj3⟩:=bindS hj3
     obtain ⟨vs8,at8,d8⟩:=h3.at he_7 1 rfl
     obtain rfl : vs8 = [(iV e_7)]:=d8
     refine e_pg (v:=(elP s1 ((w64 ((w64 (p_first + (w64 ((w64 (2 * root_4)) + 1)))) + 1)).toNat * 1))) 16 hF rfl (ex_indexAddr Try.underlying28 sz3 rfl rfl (h3.idx he_7)) (wanted_t hF rfl rfl rfl hc4) rfl (by kernel_rfl) (by kernel_rfl) (by kernel_rfl) fun a hF=>e_xg (v:=(iV e_7)) 17 hF hS rfl (ex_loadE1 0 Try.underlying3 rfl rfl (at8.at 0 rfl) rfl rfl) (wanted_t hF rfl rfl rfl hc4) rfl (by kernel_rfl) (by kernel_rfl) (by kernel_rfl) (by kernel_rfl) fun a hF=>e_one 18 (by kernel_rfl) ?_
     obtain ⟨t_9,ht_9,hj3⟩:=bindS hj3
     refine e_callg (vs:=[(iV e_5),(iV e_7)]) hF hS rfl (wanted_t hF rfl rfl rfl hc4) Try.func193 (by kernel_rfl) rfl rfl rfl (c_cmp_Less_int e_5 e_7 t_9 ht_9 _ m hS.vis) ?_
     rintro a w _ rfl hF hS
     refine e_p (v:=(.bool t_9)) 19 hF rfl (ex_pick_t rfl rfl hc4) rfl rfl (by kernel_rfl) (by kernel_rfl) (by kernel_rfl) fun a hF=>e_end (by kernel_rfl) (n_jn ?_) _
     obtain rfl:=someI hj3
     exact ⟨hF.sub ⟨rfl,rfl,rfl,rfl,rfl,rfl,trivial⟩,hS⟩
   ·rintro a w ⟨hF,hS⟩
    refine n_sq ?_
    obtain ⟨child_11,hj5,hb1⟩:=bindS hb1
    refine q_join (fun a w=>Fr a 76 [(0,s1.v),(2,(iV p_hi)),(3,(iV p_first)),(8,(iV root_4)),(9,(iV child_11))]∧St X w0 w m [q3]) ?_ ?_
    ·rcases bcase (t_10) with hc6 | hc6
     ·have hj5:=cond_f hc6 hj5
      refine q_cond_f hF rfl hc6 (q_skipc (n_jn ?_))
      obtain rfl:=someI hj5
      exact ⟨hF.sub ⟨rfl,rfl,rfl,rfl,rfl,trivial⟩,hS⟩
     ·have hj5:=cond_t hc6 hj5
      refine q_cond_t hF rfl hc6 (q_region (q_x (v:=(iV (w64 ((w64 (2 * root_4)) + 1)))) hF hS (ex_move rfl) rfl rfl fun a hF=>q_x (v:=(iV (w64 ((w64 ((w64 (2 * root_4)) + 1)) + 1)))) hF hS (ex_ibin rfl rfl rfl) rfl rfl fun a hF=>q_x (v:=(iV (w64 ((w64 ((w64 (2 * root_4)) + 1)) + 1)))) hF hS (ex_assign rfl) rfl rfl fun a hF=>q_end (n_jn ?_)))
      obtain rfl:=someI hj5
      exact ⟨hF.sub ⟨rfl,rfl,rfl,rfl,rfl,trivial⟩,hS⟩
    ·rintro a w ⟨hF,hS⟩
     refine n_sq ?_
     refine q_seq (q_seq (e_region ⟨[],[]⟩ mixed fun w' hw'=>?_))
     have hS:=hS.below hw'
     refine e_p (v:=s1.v) 0 hF rfl (ex_move rfl) rfl rfl (by kernel_rfl) (by kernel_rfl) (by kernel_rfl) fun a hF=>e_p (v:=(iV p_first)) 1 hF rfl (ex_move rfl) rfl rfl (by kernel_rfl) (by kernel_rfl) (by kernel_rfl) fun a hF=>e_p (v:=(iV root_4)) 2 hF rfl (ex_move rfl) rfl rfl (by kernel_rfl) (by kernel_rfl) (by kernel_rfl) fun a hF=>e_p (v:=(iV (w64 (p_first + root_4)))) 3 hF rfl (ex_ibin rfl rfl rfl) rfl rfl (by kernel_rfl) (by kernel_rfl) (by kernel_rfl) fun a hF=>?_
     obtain ⟨e_12,he_12,hb1⟩:=bindS hb1
     obtain ⟨vs13,at13,d13⟩:=h3.at he_12 1 rfl
     obtain rfl : vs13 = [(iV e_12)]:=d13
     refine e_p (v:=(elP s1 ((w64 (p_first + root_4)).toNat * 1))) 4 hF rfl (ex_indexAddr Try.underlying28 sz3 rfl rfl (h3.idx he_12)) rfl rfl (by kernel_rfl) (by kernel_rfl) (by kernel_rfl) fun a hF=>e_x (v:=(iV e_12)) 5 hF hS rfl (ex_loadE1 0 Try.underlying3 rfl rfl (at13.at 0 rfl) rfl rfl) rfl rfl (by kernel_rfl) (by kernel_rfl) (by kernel_rfl) (by kernel_rfl) fun a hF=>e_p (v:=s1.v) 6 hF rfl (ex_move rfl) rfl rfl (by kernel_rfl) (by kernel_rfl) (by kernel_rfl) fun a hF=>e_p (v:=(iV p_first)) 7 hF rfl (ex_move rfl) rfl rfl (by kernel_rfl) (by kernel_rfl) (by kernel_rfl) fun a hF=>e_p (v:=(iV child_11)) 8 hF rfl (ex_move rfl) rfl rfl (by kernel_rfl) (by kernel_rfl) (by kernel_rfl) fun a hF=>e_p (v:=(iV (w64 (p_first + child_11)))) 9 hF rfl (ex_ibin rfl rfl rfl) rfl rfl (by kernel_rfl) (by kernel_rfl) (by kernel_rfl) fun a hF=>?_
     obtain ⟨e_14,he_14,hb1⟩:=bindS hb1
     obtain ⟨vs15,at15,d15⟩:=h3.at he_14 1 rfl
     obtain rfl : vs15 = [(iV e_14)]:=d15
     refine e_p (v:=(elP s1 ((w64 (p_first + child_11)).toNat * 1))) 10 hF rfl (ex_indexAddr Try.underlying28 sz3 rfl rfl (h3.idx he_14)) rfl rfl (by kernel_rfl) (by kernel_rfl) (by kernel_rfl) fun a hF=>e_x (v:=(iV e_14)) 11 hF hS rfl (ex_loadE1 0 Try.underlying3 rfl rfl (at15.at 0 rfl) rfl rfl) rfl rfl (by kernel_rfl) (by kernel_rfl) (by kernel_rfl) (by kernel_rfl) fun a hF=>e_one 12 (by kernel_rfl) ?_
     obtain ⟨t_16,ht_16,hb1⟩:=bindS hb1
     refine e_call (vs:=[(iV e_12),(iV e_14)]) hF hS rfl Try.func193 (by kernel_rfl) rfl rfl rfl (c_cmp_Less_int e_12 e_14 t_16 ht_16 _ m hS.vis) ?_
     rintro a w _ rfl hF hS
     refine e_p (v:=(.bool (!t_16))) 13 hF rfl (ex_not rfl) rfl rfl (by kernel_rfl) (by kernel_rfl) (by kernel_rfl) fun a hF=>e_end (by kernel_rfl) (n_sq ?_) _
     rcases bcase (!t_16) with hc7 | hc7
     ·have hb1:=cond_f hc7 hb1
      refine q_cond_f hF rfl hc7 (q_skipc (n_sq (q_seq (e_region ⟨[21,23],[]⟩ mixed fun w' hw'=>?_))))
      have hS:=hS.below hw'
      refine e_p (v:=s1.v) 0 hF rfl (ex_move rfl) rfl rfl (by kernel_rfl) (by kernel_rfl) (by kernel_rfl) fun a hF=>e_p (v:=(iV p_first)) 1 hF rfl (ex_move rfl) rfl rfl (by kernel_rfl) (by kernel_rfl) (by kernel_rfl) fun a hF=>e_p (v:=(iV root_4)) 2 hF rfl (ex_move rfl) rfl rfl (by kernel_rfl) (by kernel_rfl) (by kernel_rfl) fun a hF=>e_p (v:=(iV (w64 (p_first + root_4)))) 3 hF rfl (ex_ibin rfl rfl rfl) rfl rfl (by kernel_rfl) (by kernel_rfl) (by kernel_rfl) fun a hF=>e_p (v:=s1.v) 4 hF rfl (ex_move rfl) rfl rfl (by kernel_rfl) (by kernel_rfl) (by kernel_rfl) fun a hF=>e_p (v:=(iV p_first)) 5 hF rfl (ex_move rfl) rfl rfl (by kernel_rfl) (by kernel_rfl) (by kernel_rfl) fun a hF=>e_p (v:=(iV child_11)) 6 hF rfl (ex_move rfl) rfl rfl (by kernel_rfl) (by kernel_rfl) (by kernel_rfl) fun a hF=>e_p (v:=(iV (w64 (p_first + child_11)))) 7 hF rfl (ex_ibin rfl rfl rfl) rfl rfl (by kernel_rfl) (by kernel_rfl) (by kernel_rfl) fun a hF=>e_p (v:=s1.v) 8 hF rfl (ex_move rfl) rfl rfl (by kernel_rfl) (by kernel_rfl) (by kernel_rfl) fun a hF=>e_p (v:=(iV p_first)) 9 hF rfl (ex_move rfl) rfl rfl (by kernel_rfl) (by kernel_rfl) (by kernel_rfl) fun a hF=>e_p (v:=(iV child_11)) 10 hF rfl (ex_move rfl) rfl rfl (by kernel_rfl) (by kernel_rfl) (by kernel_rfl) fun a hF=>e_p (v:=(iV (w64 (p_first + child_11)))) 11 hF rfl (ex_ibin rfl rfl rfl) rfl rfl (by kernel_rfl) (by kernel_rfl) (by kernel_rfl) fun a hF=>?_
      obtain ⟨e_17,he_17,hb1⟩:=bindS hb1
      obtain ⟨vs18,at18,d18⟩:=h3.at he_17 1 rfl
      obtain rfl : vs18 = [(iV e_17)]:=d18
      refine e_p (v:=(elP s1 ((w64 (p_first + child_11)).toNat * 1))) 12 hF rfl (ex_indexAddr Try.underlying28 sz3 rfl rfl (h3.idx he_17)) rfl rfl (by kernel_rfl) (by kernel_rfl) (by kernel_rfl) fun a hF=>e_x (v:=(iV e_17)) 13 hF hS rfl (ex_loadE1 0 Try.underlying3 rfl rfl (at18.at 0 rfl) rfl rfl) rfl rfl (by kernel_rfl) (by kernel_rfl) (by kernel_rfl) (by kernel_rfl) fun a hF=>e_p (v:=s1.v) 14 hF rfl (ex_move rfl) rfl rfl (by kernel_rfl) (by kernel_rfl) (by kernel_rfl) fun a hF=>e_p (v:=(iV p_first)) 15 hF rfl (ex_move rfl) rfl rfl (by kernel_rfl) (by kernel_rfl) (by kernel_rfl) fun a hF=>e_p (v:=(iV root_4)) 16 hF rfl (ex_move rfl) rfl rfl (by kernel_rfl) (by kernel_rfl) (by kernel_rfl) fun a hF=>e_p (v:=(iV (w64 (p_first + root_4)))) 17 hF rfl (ex_ibin rfl rfl rfl) rfl rfl (by kernel_rfl) (by kernel_rfl) (by kernel_rfl) fun a hF=>?_
      obtain ⟨e_19,he_19,hb1⟩:=bindS hb1
      obtain ⟨vs20,at20,d20⟩:=h3.at he_19 1 rfl
      obtain rfl : vs20 = [(iV e_19)]:=d20
      refine e_p (v:=(elP s1 ((w64 (p_first + root_4)).toNat * 1))) 18 hF rfl (ex_indexAddr Try.underlying28 sz3 rfl rfl (h3.idx he_19)) rfl rfl (by kernel_rfl) (by kernel_rfl) (by kernel_rfl) fun a hF=>e_x (v:=(iV e_19)) 19 hF hS rfl (ex_loadE1 0 Try.underlying3 rfl rfl (at20.at 0 rfl) rfl rfl) rfl rfl (by kernel_rfl) (by kernel_rfl) (by kernel_rfl) (by kernel_rfl) fun a hF=>?_
      obtain ⟨e_21,he_21,hb1⟩:=bindS hb1
      obtain ⟨vs22,at22,d22⟩:=h3.at he_21 1 rfl
      obtain rfl : vs22 = [(iV e_21)]:=d22
      refine e_p (v:=(elP s1 ((w64 (p_first + root_4)).toNat * 1))) 20 hF rfl (ex_indexAddr Try.underlying28 sz3 rfl rfl (h3.idx he_21)) rfl rfl (by kernel_rfl) (by kernel_rfl) (by kernel_rfl) fun a hF=>e_one 21 (by kernel_rfl) (e_opl rfl rfl rfl fun _ hK=>wp_storeE (e':=e_17) (us:=[(iV e_17)]) (vs:=[(iV e_21)]) 0 hF hS h3 sz3 rfl rfl rfl rfl rfl rfl rfl he_21 at22 rfl rfl rfl fun w q23 hS h23=>hK _ _ (⟨kpN,?_⟩))
      obtain ⟨e_24,he_24,hb1⟩:=bindS hb1
      obtain ⟨vs25,at25,d25⟩:=h23.at he_24 1 rfl
      obtain rfl : vs25 = [(iV e_24)]:=d25
      refine e_p (v:=(elP s1 ((w64 (p_first + child_11)).toNat * 1))) 22 hF rfl (ex_indexAddr Try.underlying28 sz3 rfl rfl (h23.idx he_24)) rfl rfl (by kernel_rfl) (by kernel_rfl) (by kernel_rfl) fun a hF=>e_one 23 (by kernel_rfl) (e_opl rfl rfl rfl fun _ hK=>wp_storeE (e':=e_19) (us:=[(iV e_19)]) (vs:=[(iV e_24)]) 0 hF hS h23 sz3 rfl rfl rfl rfl rfl rfl rfl he_24 at25 rfl rfl rfl fun w q26 hS h26=>hK _ _ (⟨kpN,?_⟩))
      refine e_end (by kernel_rfl) (n_sq ?_) _
      refine q_region (q_x (v:=(iV child_11)) hF hS (ex_move rfl) rfl rfl fun a hF=>q_x (v:=(iV child_11)) hF hS (ex_assign rfl) rfl rfl fun a hF=>q_end (n_ib ?_))
      obtain rfl:=someI hb1
      exact ⟨rfl,q26,_,_,rfl,hF.sub ⟨rfl,rfl,rfl,rfl,trivial⟩,hS,h26⟩
     ·have hb1:=cond_t hc7 hb1
      refine q_cond_t hF rfl hc7 (q_ret (r_sq (r_ib ?_)))
      obtain rfl:=someI hb1
      refine ⟨nofun,.inr fun ho=>?_⟩
      subst ho
      refine r_ib ?_
      obtain rfl:=someI hr
      exact ret_ofX hF hS rfl .nil ⟨q3,rfl,hS.sel [0] (by decide),h3⟩
  ·have hb1:=cond_t hc2 hb1
   refine q_cond_t hF rfl hc2 (q_exit (x_sq (x_ibn rfl ?_)))
   obtain rfl:=someI hb1
   exact ⟨nofun,.inl ⟨q3,_,rfl,rfl,hF.sub trivial,hS,h3⟩⟩
 ·rintro e a w ⟨q28,data_27,rfl,rfl,hF,hS,h28⟩
  refine x_ib (normal_ret ?_)
  obtain rfl:=someI hr
  exact ret_ofX hF hS rfl .nil ⟨q28,rfl,hS.sel [0] (by decide),h28⟩

theorem c_slices_heapSortOrdered_int (p_data : List Int) (p_a : Int) (p_b : Int) (r : (List Int)) (hr : slices_heapSortOrdered_int p_data p_a p_b = some r) (w0 : World) (m : Mem) (s1 : Sl) (q1 : Piece) (h1 : OwnL m 3 q1 s1 p_data) (X : List Nat) (hS : St X w0 w0 m [q1]) :
  RetX Try.prog 188 [s1.v,(iV p_a),(iV p_b)] w0 (fun v w=>∃ (qp0 : Piece),v = (.tuple #[])∧St X w0 w m [qp0]∧OwnL m 3 qp0 s1 r):=by
 unfold slices_heapSortOrdered_int at hr
 refine ret_startX Try.func188 rfl 56 rfl rfl fun a hF=>q_seq (q_region (q_x (v:=(iV p_a)) hF hS (ex_move rfl) rfl rfl fun a hF=>q_x (v:=(iV p_a)) hF hS (ex_assign rfl) rfl rfl fun a hF=>q_end (n_sq (q_seq (q_region (q_x (v:=(iV 0)) hF hS (ex_assign rfl) rfl rfl fun a hF=>q_end (n_sq (q_seq (q_region (q_x (v:=(iV p_b)) hF hS (ex_move rfl) rfl rfl fun a hF=>q_x (v:=(iV p_a)) hF hS (ex_move rfl) rfl rfl fun a hF=>q_x (v:=(iV (w64 (p_b - p_a)))) hF hS (ex_ibin rfl rfl rfl) rfl rfl fun a hF=>q_x (v:=(iV (w64 (p_b - p_a)))) hF hS (ex_assign rfl) rfl rfl fun a hF=>q_end (n_sq (q_seq (q_seq (q_region (q_x (v:=(iV (w64 (p_b - p_a)))) hF hS (ex_move rfl) rfl rfl fun a hF=>q_x (v:=(iV (w64 ((w64 (p_b - p_a)) - 1)))) hF hS (ex_ibin rfl rfl rfl) rfl rfl fun a hF=>?_)))))))))))))))
 obtain ⟨t_2,ht_2,hr⟩:=bindS hr
 refine q_x (v:=(iV t_2)) hF hS (ex_quo rfl rfl ht_2) rfl rfl fun a hF=>q_x (v:=(iV t_2)) hF hS (ex_assign rfl) rfl rfl fun a hF=>q_end (n_sq (q_block ?_))
 obtain ⟨data_9,hl1,hr⟩:=bindS hr
 refine q_loop (fun (s : (List Int) × Int) a w=>∃ (q4 : Piece),∃ data_3,∃ i_5,s = (data_3,i_5)∧Fr a 56 [(0,s1.v),(6,(iV p_a)),(7,(iV 0)),(8,(iV (w64 (p_b - p_a)))),(9,(iV i_5))]∧St X w0 w m [q4]∧OwnL m 3 q4 s1 data_3) (fun (data_9 : (List Int)) e a w=>∃ (q10 : Piece),e = .exit 0∧Fr a 56 [(0,s1.v),(6,(iV p_a)),(7,(iV 0)),(8,(iV (w64 (p_b - p_a))))]∧St X w0 w m [q10]∧OwnL m 3 q10 s1 data_9) hl1 ⟨q1,_,_,rfl,hF.sub ⟨rfl,rfl,rfl,rfl,rfl,trivial⟩,hS,h1⟩ ?_ ?_
 ·clear hF hS
  rintro s a w st ⟨q4,data_3,i_5,rfl,hF,hS,h4⟩ hb1
  unfold slices_heapSortOrdered_int_l1 at hb1
  refine q_seq (q_seq (q_region (q_x (v:=(iV i_5)) hF hS (ex_move rfl) rfl rfl fun a hF=>q_x (v:=(.bool (decide (0 ≤ i_5)))) hF hS (ex_ibin rfl rfl rfl) rfl rfl fun a hF=>q_end (n_sq ?_))))
  rcases bcase (decide (0 ≤ i_5)) with hc2 | hc2
  ·have hb1:=cond_f hc2 hb1
   refine q_cond_f hF rfl hc2 (q_exit (x_sq ?_))
   obtain rfl:=someI hb1
   exact ⟨nofun,.inl ⟨q4,rfl,hF.sub ⟨rfl,rfl,rfl,rfl,trivial⟩,hS,h4⟩⟩
  ·have hb1:=cond_t hc2 hb1
   refine q_cond_t hF rfl hc2 (q_skipc (n_sq (q_seq (q_block (q_region (q_x (v:=s1.v) hF hS (ex_move rfl) rfl rfl fun a hF=>q_x (v:=(iV i_5)) hF hS (ex_move rfl) rfl rfl fun a hF=>q_x (v:=(iV (w64 (p_b - p_a)))) hF hS (ex_move rfl) rfl rfl fun a hF=>q_x (v:=(iV p_a)) hF hS (ex_move rfl) rfl rfl fun a hF=>?_))))))
   have hS6 : St _ _ _ _ ([q4]++[]):=hS
   have hE6:=hS6.enter
   obtain ⟨t_7,ht_7,hb1⟩:=bindS hb1
   refine q_do rfl fun _ hK=>wp_callX (vs:=[s1.v,(iV i_5),(iV (w64 (p_b - p_a))),(iV p_a)]) hF Try.func200 (by kernel_rfl) rfl rfl rfl (c_slices_siftDownOrdered_int data_3 i_5 (w64 (p_b - p_a)) p_a t_7 ht_7 _ m s1 q4 h4 _ hE6) fun a w _ hR hF=>hK _ _ ?_
   obtain ⟨q8,rfl,hR6,h8⟩:=hR
   have hS : St _ _ _ _ [q8]:=hS6.leaveF hR6
   refine q_end (n_ib (n_sq (q_region (q_x (v:=(iV i_5)) hF hS (ex_move rfl) rfl rfl fun a hF=>q_x (v:=(iV (w64 (i_5 - 1)))) hF hS (ex_ibin rfl rfl rfl) rfl rfl fun a hF=>q_x (v:=(iV (w64 (i_5 - 1)))) hF hS (ex_assign rfl) rfl rfl fun a hF=>q_end ?_))))
   obtain rfl:=someI hb1
   exact ⟨rfl,q8,_,_,rfl,hF.sub ⟨rfl,rfl,rfl,rfl,rfl,trivial⟩,hS,h8⟩
 ·rintro e a w ⟨q10,rfl,hF,hS,h10⟩
  refine x_ib (n_sq ?_)
  refine q_seq (q_region (q_x (v:=(iV (w64 (p_b - p_a)))) hF hS (ex_move rfl) rfl rfl fun a hF=>q_x (v:=(iV (w64 ((w64 (p_b - p_a)) - 1)))) hF hS (ex_ibin rfl rfl rfl) rfl rfl fun a hF=>q_x (v:=(iV (w64 ((w64 (p_b - p_a)) - 1)))) hF hS (ex_assign rfl) rfl rfl fun a hF=>q_end (n_sq (q_block ?_))))
  obtain ⟨data_27,hl3,hr⟩:=bindS hr
  refine q_loop (fun (s : (List Int) × Int) a w=>∃ (q12 : Piece),∃ data_11,∃ i_13,s = (data_11,i_13)∧Fr a 56 [(0,s1.v),(6,(iV p_a)),(7,(iV 0)),(10,(iV i_13))]∧St X w0 w m [q12]∧OwnL m 3 q12 s1 data_11) (fun (data_27 : (List Int)) e a w=>∃ (q28 : Piece),e = .exit 2∧Fr a 56 []∧St X w0 w m [q28]∧OwnL m 3 q28 s1 data_27) hl3 ⟨q10,_,_,rfl,hF.sub ⟨rfl,rfl,rfl,rfl,trivial⟩,hS,h10⟩ ?_ ?_
  ·clear hF hS
   rintro s a w st ⟨q12,data_11,i_13,rfl,hF,hS,h12⟩ hb3
   unfold slices_heapSortOrdered_int_l2 at hb3
   refine q_seq (q_seq (q_region (q_x (v:=(iV i_13)) hF hS (ex_move rfl) rfl rfl fun a hF=>q_x (v:=(.bool (decide (0 ≤ i_13)))) hF hS (ex_ibin rfl rfl rfl) rfl rfl fun a hF=>q_end (n_sq ?_))))
   rcases bcase (decide (0 ≤ i_13)) with hc4 | hc4
   ·have hb3:=cond_f hc4 hb3
    refine q_cond_f hF rfl hc4 (q_exit (x_sq ?_))
    obtain rfl:=someI hb3
    exact ⟨nofun,.inl ⟨q12,rfl,hF.sub trivial,hS,h12⟩⟩
   ·have hb3:=cond_t hc4 hb3
    refine q_cond_t hF rfl hc4 (q_skipc (n_sq (q_seq (q_block (q_seq (e_region ⟨[17,19],[]⟩ mixed fun w' hw'=>?_))))))
    have hS:=hS.below hw'
    refine e_p (v:=s1.v) 0 hF rfl (ex_move rfl) rfl rfl (by kernel_rfl) (by kernel_rfl) (by kernel_rfl) fun a hF=>e_p (v:=(iV p_a)) 1 hF rfl (ex_move rfl) rfl rfl (by kernel_rfl) (by kernel_rfl) (by kernel_rfl) fun a hF=>e_p (v:=s1.v) 2 hF rfl (ex_move rfl) rfl rfl (by kernel_rfl) (by kernel_rfl) (by kernel_rfl) fun a hF=>e_p (v:=(iV p_a)) 3 hF rfl (ex_move rfl) rfl rfl (by kernel_rfl) (by kernel_rfl) (by kernel_rfl) fun a hF=>e_p (v:=(iV i_13)) 4 hF rfl (ex_move rfl) rfl rfl (by kernel_rfl) (by kernel_rfl) (by kernel_rfl) fun a hF=>e_p (v:=(iV (w64 (p_a + i_13)))) 5 hF rfl (ex_ibin rfl rfl rfl) rfl rfl (by kernel_rfl) (by kernel_rfl) (by kernel_rfl) fun a hF=>e_p (v:=s1.v) 6 hF rfl (ex_move rfl) rfl rfl (by kernel_rfl) (by kernel_rfl) (by kernel_rfl) fun a hF=>e_p (v:=(iV p_a)) 7 hF rfl (ex_move rfl) rfl rfl (by kernel_rfl) (by kernel_rfl) (by kernel_rfl) fun a hF=>e_p (v:=(iV i_13)) 8 hF rfl (ex_move rfl) rfl rfl (by kernel_rfl) (by kernel_rfl) (by kernel_rfl) fun a hF=>e_p (v:=(iV (w64 (p_a + i_13)))) 9 hF rfl (ex_ibin rfl rfl rfl) rfl rfl (by kernel_rfl) (by kernel_rfl) (by kernel_rfl) fun a hF=>?_
    obtain ⟨e_14,he_14,hb3⟩:=bindS hb3
    obtain ⟨vs15,at15,d15⟩:=h12.at he_14 1 rfl
    obtain rfl : vs15 = [(iV e_14)]:=d15
    refine e_p (v:=(elP s1 ((w64 (p_a + i_13)).toNat * 1))) 10 hF rfl (ex_indexAddr Try.underlying28 sz3 rfl rfl (h12.idx he_14)) rfl rfl (by kernel_rfl) (by kernel_rfl) (by kernel_rfl) fun a hF=>e_x (v:=(iV e_14)) 11 hF hS rfl (ex_loadE1 0 Try.underlying3 rfl rfl (at15.at 0 rfl) rfl rfl) rfl rfl (by kernel_rfl) (by kernel_rfl) (by kernel_rfl) (by kernel_rfl) fun a hF=>e_p (v:=s1.v) 12 hF rfl (ex_move rfl) rfl rfl (by kernel_rfl) (by kernel_rfl) (by kernel_rfl) fun a hF=>e_p (v:=(iV p_a)) 13 hF rfl (ex_move rfl) rfl rfl (by kernel_rfl) (by kernel_rfl) (by kernel_rfl) fun a hF=>?_
    obtain ⟨e_16,he_16,hb3⟩:=bindS hb3
    obtain ⟨vs17,at17,d17⟩:=h12.at he_16 1 rfl
    obtain rfl : vs17 = [(iV e_16)]:=d17
    refine e_p (v:=(elP s1 (p_a.toNat * 1))) 14 hF rfl (ex_indexAddr Try.underlying28 sz3 rfl rfl (h12.idx he_16)) rfl rfl (by kernel_rfl) (by kernel_rfl) (by kernel_rfl) fun a hF=>e_x (v:=(iV e_16)) 15 hF hS rfl (ex_loadE1 0 Try.underlying3 rfl rfl (at17.at 0 rfl) rfl rfl) rfl rfl (by kernel_rfl) (by kernel_rfl) (by kernel_rfl) (by kernel_rfl) fun a hF=>?_
    obtain ⟨e_18,he_18,hb3⟩:=bindS hb3
    obtain ⟨vs19,at19,d19⟩:=h12.at he_18 1 rfl
    obtain rfl : vs19 = [(iV e_18)]:=d19
    refine e_p (v:=(elP s1 (p_a.toNat * 1))) 16 hF rfl (ex_indexAddr Try.underlying28 sz3 rfl rfl (h12.idx he_18)) rfl rfl (by kernel_rfl) (by kernel_rfl) (by kernel_rfl) fun a hF=>e_one 17 (by kernel_rfl) (e_opl rfl rfl rfl fun _ hK=>wp_storeE (e':=e_14) (us:=[(iV e_14)]) (vs:=[(iV e_18)]) 0 hF hS h12 sz3 rfl rfl rfl rfl rfl rfl rfl he_18 at19 rfl rfl rfl fun w q20 hS h20=>hK _ _ (⟨kpN,?_⟩))
    obtain ⟨e_21,he_21,hb3⟩:=bindS hb3
    obtain ⟨vs22,at22,d22⟩:=h20.at he_21 1 rfl
    obtain rfl : vs22 = [(iV e_21)]:=d22
    refine e_p (v:=(elP s1 ((w64 (p_a + i_13)).toNat * 1))) 18 hF rfl (ex_indexAddr Try.underlying28 sz3 rfl rfl (h20.idx he_21)) rfl rfl (by kernel_rfl) (by kernel_rfl) (by kernel_rfl) fun a hF=>e_one 19 (by kernel_rfl) (e_opl rfl rfl rfl fun _ hK=>wp_storeE (e':=e_16) (us:=[(iV e_16)]) (vs:=[(iV e_21)]) 0 hF hS h20 sz3 rfl rfl rfl rfl rfl rfl rfl he_21 at22 rfl rfl rfl fun w q23 hS h23=>hK _ _ (⟨kpN,?_⟩))
    refine e_end (by kernel_rfl) (n_sq ?_) _
    refine q_region (q_x (v:=s1.v) hF hS (ex_move rfl) rfl rfl fun a hF=>q_x (v:=(iV 0)) hF hS (ex_move rfl) rfl rfl fun a hF=>q_x (v:=(iV i_13)) hF hS (ex_move rfl) rfl rfl fun a hF=>q_x (v:=(iV p_a)) hF hS (ex_move rfl) rfl rfl fun a hF=>?_)
    have hS24 : St _ _ _ _ ([q23]++[]):=hS
    have hE24:=hS24.enter
    obtain ⟨t_25,ht_25,hb3⟩:=bindS hb3
    refine q_do rfl fun _ hK=>wp_callX (vs:=[s1.v,(iV 0),(iV i_13),(iV p_a)]) hF Try.func200 (by kernel_rfl) rfl rfl rfl (c_slices_siftDownOrdered_int (goSet (goSet data_11 p_a e_14) (w64 (p_a + i_13)) e_16) 0 i_13 p_a t_25 ht_25 _ m s1 q23 h23 _ hE24) fun a w _ hR hF=>hK _ _ ?_
    obtain ⟨q26,rfl,hR24,h26⟩:=hR
    have hS : St _ _ _ _ [q26]:=hS24.leaveF hR24
    refine q_end (n_ib (n_sq (q_region (q_x (v:=(iV i_13)) hF hS (ex_move rfl) rfl rfl fun a hF=>q_x (v:=(iV (w64 (i_13 - 1)))) hF hS (ex_ibin rfl rfl rfl) rfl rfl fun a hF=>q_x (v:=(iV (w64 (i_13 - 1)))) hF hS (ex_assign rfl) rfl rfl fun a hF=>q_end ?_))))
    obtain rfl:=someI hb3
    exact ⟨rfl,q26,_,_,rfl,hF.sub ⟨rfl,rfl,rfl,rfl,trivial⟩,hS,h26⟩
  ·rintro e a w ⟨q28,rfl,hF,hS,h28⟩
   refine x_ib (normal_ret ?_)
   obtain rfl:=someI hr
   exact ret_ofX hF hS rfl .nil ⟨q28,rfl,hS.sel [0] (by decide),h28⟩

theorem c_slices_nextPowerOfTwo (p_length : Int) (r : (K .u64)) (hr : slices_nextPowerOfTwo p_length = some r) (w0 : World) (m : Mem) (hv : Vis m w0) :
  Ret Try.prog 201 [(iV p_length)] w0 (fun v _=>v = (.int .u64 r.v)):=by
 unfold slices_nextPowerOfTwo at hr
 refine ret_start Try.func201 rfl 7 rfl rfl m hv fun a hF hS=>q_seq (q_region (q_x (v:=(.int .u64 0)) hF hS (ex_assign rfl) rfl rfl fun a hF=>q_end (n_sq (q_seq (q_region (q_x (v:=(iV p_length)) hF hS (ex_move rfl) rfl rfl fun a hF=>q_x (v:=(.int .u64 (IntKind.wrap .u64 p_length))) hF hS (ex_conv Try.underlying3 Try.underlying127 rfl) rfl rfl fun a hF=>?_))))))
 obtain ⟨t_1,ht_1,hr⟩:=bindS hr
 refine q_call (vs:=[(.int .u64 (IntKind.wrap .u64 p_length))]) hF hS Try.func181 (by kernel_rfl) rfl rfl rfl (c_math_bits_Len (⟨(IntKind.wrap .u64 p_length)⟩ : K .u64) t_1 ht_1 _ m hS.vis) ?_
 rintro a w _ rfl hF hS
 obtain ⟨t_2,ht_2,hr⟩:=bindS hr
 refine q_x (v:=(.int .u64 t_2)) hF hS (ex_shl rfl rfl ht_2) rfl rfl fun a hF=>q_x (v:=(.int .u64 t_2)) hF hS (ex_assign rfl) rfl rfl fun a hF=>q_end (n_sq (q_ret ?_))
 obtain rfl:=someI hr
 exact ret_of hF hS rfl (.tmp rfl .nil) rfl

theorem c_slices_reverseRangeOrdered_int (p_data : List Int) (p_a : Int) (p_b : Int) (r : (List Int)) (hr : slices_reverseRangeOrdered_int p_data p_a p_b = some r) (w0 : World) (m : Mem) (s1 : Sl) (q1 : Piece) (h1 : OwnL m 3 q1 s1 p_data) (X : List Nat) (hS : St X w0 w0 m [q1]) :
  RetX Try.prog 191 [s1.v,(iV p_a),(iV p_b)] w0 (fun v w=>∃ (qp0 : Piece),v = (.tuple #[])∧St X w0 w m [qp0]∧OwnL m 3 qp0 s1 r):=by
 unfold slices_reverseRangeOrdered_int at hr
 refine ret_startX Try.func191 rfl 32 rfl rfl fun a hF=>q_seq (q_region (q_x (v:=(iV p_a)) hF hS (ex_move rfl) rfl rfl fun a hF=>q_x (v:=(iV p_a)) hF hS (ex_assign rfl) rfl rfl fun a hF=>q_end (n_sq (q_seq (q_region (q_x (v:=(iV p_b)) hF hS (ex_move rfl) rfl rfl fun a hF=>q_x (v:=(iV (w64 (p_b - 1)))) hF hS (ex_ibin rfl rfl rfl) rfl rfl fun a hF=>q_x (v:=(iV (w64 (p_b - 1)))) hF hS (ex_assign rfl) rfl rfl fun a hF=>q_end (n_sq (q_block ?_))))))))
 obtain ⟨data_16,hl1,hr⟩:=bindS hr
 refine q_loop (fun (s : (List Int) × Int × Int) a w=>∃ (q3 : Piece),∃ data_2,∃ i_4,∃ j_5,s = (data_2,i_4,j_5)∧Fr a 32 [(0,s1.v),(6,(iV i_4)),(7,(iV j_5))]∧St X w0 w m [q3]∧OwnL m 3 q3 s1 data_2) (fun (data_16 : (List Int)) e a w=>∃ (q17 : Piece),e = .exit 0∧Fr a 32 []∧St X w0 w m [q17]∧OwnL m 3 q17 s1 data_16) hl1 ⟨q1,_,_,_,rfl,hF.sub ⟨rfl,rfl,rfl,trivial⟩,hS,h1⟩ ?_ ?_
 ·clear hF hS
  rintro s a w st ⟨q3,data_2,i_4,j_5,rfl,hF,hS,h3⟩ hb1
  unfold slices_reverseRangeOrdered_int_l1 at hb1
  refine q_seq (q_seq (q_region (q_x (v:=(iV i_4)) hF hS (ex_move rfl) rfl rfl fun a hF=>q_x (v:=(iV j_5)) hF hS (ex_move rfl) rfl rfl fun a hF=>q_x (v:=(.bool (decide (i_4 < j_5)))) hF hS (ex_ibin rfl rfl rfl) rfl rfl fun a hF=>q_end (n_sq ?_))))
  rcases bcase (decide (i_4 < j_5)) with hc2 | hc2
  ·have hb1:=cond_f hc2 hb1
   refine q_cond_f hF rfl hc2 (q_exit (x_sq ?_))
   obtain rfl:=someI hb1
   exact ⟨nofun,.inl ⟨q3,rfl,hF.sub trivial,hS,h3⟩⟩
  ·have hb1:=cond_t hc2 hb1
   refine q_cond_t hF rfl hc2 (q_skipc (n_sq (q_block (q_seq (e_region ⟨[13,15],[]⟩ mixed fun w' hw'=>?_)))))
   have hS:=hS.below hw'
   refine e_p (v:=s1.v) 0 hF rfl (ex_move rfl) rfl rfl (by kernel_rfl) (by kernel_rfl) (by kernel_rfl) fun a hF=>e_p (v:=(iV i_4)) 1 hF rfl (ex_move rfl) rfl rfl (by kernel_rfl) (by kernel_rfl) (by kernel_rfl) fun a hF=>e_p (v:=s1.v) 2 hF rfl (ex_move rfl) rfl rfl (by kernel_rfl) (by kernel_rfl) (by kernel_rfl) fun a hF=>e_p (v:=(iV j_5)) 3 hF rfl (ex_move rfl) rfl rfl (by kernel_rfl) (by kernel_rfl) (by kernel_rfl) fun a hF=>e_p (v:=s1.v) 4 hF rfl (ex_move rfl) rfl rfl (by kernel_rfl) (by kernel_rfl) (by kernel_rfl) fun a hF=>e_p (v:=(iV j_5)) 5 hF rfl (ex_move rfl) rfl rfl (by kernel_rfl) (by kernel_rfl) (by kernel_rfl) fun a hF=>?_
   obtain ⟨e_6,he_6,hb1⟩:=bindS hb1
   obtain ⟨vs7,at7,d7⟩:=h3.at he_6 1 rfl
   obtain rfl : vs7 = [(iV e_6)]:=d7
   refine e_p (v:=(elP s1 (j_5.toNat * 1))) 6 hF rfl (ex_indexAddr Try.underlying28 sz3 rfl rfl (h3.idx he_6)) rfl rfl (by kernel_rfl) (by kernel_rfl) (by kernel_rfl) fun a hF=>e_x (v:=(iV e_6)) 7 hF hS rfl (ex_loadE1 0 Try.underlying3 rfl rfl (at7.at 0 rfl) rfl rfl) rfl rfl (by kernel_rfl) (by kernel_rfl) (by kernel_rfl) (by kernel_rfl) fun a hF=>e_p (v:=s1.v) 8 hF rfl (ex_move rfl) rfl rfl (by kernel_rfl) (by kernel_rfl) (by kernel_rfl) fun a hF=>e_p (v:=(iV i_4)) 9 hF rfl (ex_move rfl) rfl rfl (by kernel_rfl) (by kernel_rfl) (by kernel_rfl) fun a hF=>?_
   obtain ⟨e_8,he_8,hb1⟩:=bindS hb1
   obtain ⟨vs9,at9,d9⟩:=h3.at he_8 1 rfl
   obtain rfl : vs9 = [(iV e_8)]:=d9
   refine e_p (v:=(elP s1 (i_4.toNat * 1))) 10 hF rfl (ex_indexAddr Try.underlying28 sz3 rfl rfl (h3.idx he_8)) rfl rfl (by kernel_rfl) (by kernel_rfl) (by kernel_rfl) fun a hF=>e_x (v:=(iV e_8)) 11 hF hS rfl (ex_loadE1 0 Try.underlying3 rfl rfl (at9.at 0 rfl) rfl rfl) rfl rfl (by kernel_rfl) (by kernel_rfl) (by kernel_rfl) (by kernel_rfl) fun a hF=>?_
   obtain ⟨e_10,he_10,hb1⟩:=bindS hb1
   obtain ⟨vs11,at11,d11⟩:=h3.at he_10 1 rfl
   obtain rfl : vs11 = [(iV e_10)]:=d11
   refine e_p (v:=(elP s1 (i_4.toNat * 1))) 12 hF rfl (ex_indexAddr Try.underlying28 sz3 rfl rfl (h3.idx he_10)) rfl rfl (by kernel_rfl) (by kernel_rfl) (by kernel_rfl) fun a hF=>e_one 13 (by kernel_rfl) (e_opl rfl rfl rfl fun _ hK=>wp_storeE (e':=e_6) (us:=[(iV e_6)]) (vs:=[(iV e_10)]) 0 hF hS h3 sz3 rfl rfl rfl rfl rfl rfl rfl he_10 at11 rfl rfl rfl fun w q12 hS h12=>hK _ _ (⟨kpN,?_⟩))
   obtain ⟨e_13,he_13,hb1⟩:=bindS hb1
   obtain ⟨vs14,at14,d14⟩:=h12.at he_13 1 rfl
   obtain rfl : vs14 = [(iV e_13)]:=d14
   refine e_p (v:=(elP s1 (j_5.toNat * 1))) 14 hF rfl (ex_indexAddr Try.underlying28 sz3 rfl rfl (h12.idx he_13)) rfl rfl (by kernel_rfl) (by kernel_rfl) (by kernel_rfl) fun a hF=>e_one 15 (by kernel_rfl) (e_opl rfl rfl rfl fun _ hK=>wp_storeE (e':=e_8) (us:=[(iV e_8)]) (vs:=[(iV e_13)]) 0 hF hS h12 sz3 rfl rfl rfl rfl rfl rfl rfl he_13 at14 rfl rfl rfl fun w q15 hS h15=>hK _ _ (⟨kpN,?_⟩))
   refine e_end (by kernel_rfl) (n_sq ?_) _
   refine q_seq (q_region (q_x (v:=(iV i_4)) hF hS (ex_move rfl) rfl rfl fun a hF=>q_x (v:=(iV (w64 (i_4 + 1)))) hF hS (ex_ibin rfl rfl rfl) rfl rfl fun a hF=>q_x (v:=(iV (w64 (i_4 + 1)))) hF hS (ex_assign rfl) rfl rfl fun a hF=>q_end (n_sq (q_region (q_x (v:=(iV j_5)) hF hS (ex_move rfl) rfl rfl fun a hF=>q_x (v:=(iV (w64 (j_5 - 1)))) hF hS (ex_ibin rfl rfl rfl) rfl rfl fun a hF=>q_x (v:=(iV (w64 (j_5 - 1)))) hF hS (ex_assign rfl) rfl rfl fun a hF=>q_end (n_ib ?_))))))
   obtain rfl:=someI hb1
   exact ⟨rfl,q15,_,_,_,rfl,hF.sub ⟨rfl,rfl,rfl,trivial⟩,hS,h15⟩
 ·rintro e a w ⟨q17,rfl,hF,hS,h17⟩
  refine x_ib (normal_ret ?_)
  obtain rfl:=someI hr
  exact ret_ofX hF hS rfl .nil ⟨q17,rfl,hS.sel [0] (by decide),h17⟩

theorem c_slices_partialInsertionSortOrdered_int (p_data : List Int) (p_a : Int) (p_b : Int) (r : Bool × (List Int)) (hr : slices_partialInsertionSortOrdered_int p_data p_a p_b = some r) (w0 : World) (m : Mem) (s1 : Sl) (q1 : Piece) (h1 : OwnL m 3 q1 s1 p_data) (X : List Nat) (hS : St X w0 w0 m [q1]) :
  RetX Try.prog 192 [s1.v,(iV p_a),(iV p_b)] w0 (fun v w=>∃ (qp0 : Piece),v = (.bool r.1)∧St X w0 w m [qp0]∧OwnL m 3 qp0 s1 r.2):=by
 unfold slices_partialInsertionSortOrdered_int at hr
 refine ret_startX Try.func192 rfl 133 rfl rfl fun a hF=>q_seq (q_region (q_x (v:=(.bool false)) hF hS (ex_assign rfl) rfl rfl fun a hF=>q_end (n_sq (q_seq (q_region (q_x (v:=(iV p_a)) hF hS (ex_move rfl) rfl rfl fun a hF=>q_x (v:=(iV (w64 (p_a + 1)))) hF hS (ex_ibin rfl rfl rfl) rfl rfl fun a hF=>q_x (v:=(iV (w64 (p_a + 1)))) hF hS (ex_assign rfl) rfl rfl fun a hF=>q_end (n_sq (q_seq (q_seq (q_region (q_x (v:=(iV 0)) hF hS (ex_assign rfl) rfl rfl fun a hF=>q_end (n_sq (q_block ?_)))))))))))))
 obtain ⟨o1,hl1,hr⟩:=bindS hr
 refine q_loop (fun (s : (List Int) × Int × Int) a w=>∃ (q3 : Piece),∃ data_2,∃ i_4,∃ j_5,s = (data_2,i_4,j_5)∧Fr a 133 [(0,s1.v),(1,(iV p_a)),(2,(iV p_b)),(7,(iV i_4)),(8,(iV j_5))]∧St X w0 w m [q3]∧OwnL m 3 q3 s1 data_2) (fun (o : ((List Int)) ⊕ (Bool × (List Int))) e a w=>∃ (q69 : Piece),∃ data_68,o = .inl data_68∧e = .exit 0∧Fr a 133 []∧St X w0 w m [q69]∧OwnL m 3 q69 s1 data_68) hl1 ⟨q1,_,_,_,rfl,hF.sub ⟨rfl,rfl,rfl,rfl,rfl,trivial⟩,hS,h1⟩ ?_ ?_
 ·clear hF hS
  rintro s a w st ⟨q3,data_2,i_4,j_5,rfl,hF,hS,h3⟩ hb1
  unfold slices_partialInsertionSortOrdered_int_l1 at hb1
  refine q_seq (q_seq (q_region (q_x (v:=(iV j_5)) hF hS (ex_move rfl) rfl rfl fun a hF=>q_x (v:=(.bool (decide (j_5 < 5)))) hF hS (ex_ibin rfl rfl rfl) rfl rfl fun a hF=>q_end (n_sq ?_))))
  rcases bcase (decide (j_5 < 5)) with hc2 | hc2
  ·have hb1:=cond_f hc2 hb1
   refine q_cond_f hF rfl hc2 (q_exit (x_sq ?_))
   obtain rfl:=someI hb1
   exact ⟨nofun,.inl ⟨q3,_,rfl,rfl,hF.sub trivial,hS,h3⟩⟩
  ·have hb1:=cond_t hc2 hb1
   refine q_cond_t hF rfl hc2 (q_skipc (n_sq (q_seq (q_block (q_seq (q_block ?_))))))
   obtain ⟨i_13,hl3,hb1⟩:=bindS hb1
   refine q_loop (fun (i_6 : Int) a w=>Fr a 133 [(0,s1.v),(1,(iV p_a)),(2,(iV p_b)),(7,(iV i_6)),(8,(iV j_5))]∧St X w0 w m [q3]) (fun (i_13 : Int) e a w=>e = .exit 2∧Fr a 133 [(0,s1.v),(1,(iV p_a)),(2,(iV p_b)),(7,(iV i_13)),(8,(iV j_5))]∧St X w0 w m [q3]) hl3 ⟨hF.sub ⟨rfl,rfl,rfl,rfl,rfl,trivial⟩,hS⟩ ?_ ?_
   ·clear hF hS
    rintro i_6 a w st ⟨hF,hS⟩ hb3
    unfold slices_partialInsertionSortOrdered_int_l2 at hb3
    refine q_seq (q_seq ?_)
    obtain ⟨t_12,hj4,hb3⟩:=bindS hb3
    refine q_join (fun a w=>Fr a 133 [(0,s1.v),(1,(iV p_a)),(2,(iV p_b)),(7,(iV i_6)),(8,(iV j_5)),(32,(.bool t_12))]∧St X w0 w m [q3]) ?_ ?_
    ·refine e_region ⟨[],[]⟩ mixed fun w' hw'=>?_
     have hS:=hS.below hw'
     refine e_p (v:=(iV i_6)) 0 hF rfl (ex_move rfl) rfl rfl (by kernel_rfl) (by kernel_rfl) (by kernel_rfl) fun a hF=>e_p (v:=(iV p_b)) 1 hF rfl (ex_move rfl) rfl rfl (by kernel_rfl) (by kernel_rfl) (by kernel_rfl) fun a hF=>e_p (v:=(.bool (decide (i_6 < p_b)))) 2 hF rfl (ex_ibin rfl rfl rfl) rfl rfl (by kernel_rfl) (by kernel_rfl) (by kernel_rfl) fun a hF=>e_p (v:=(.bool (decide (i_6 < p_b)))) 3 hF rfl (ex_move rfl) rfl rfl (by kernel_rfl) (by kernel_rfl) (by kernel_rfl) fun a hF=>?_
     rcases bcase (decide (i_6 < p_b)) with hc5 | hc5
     ·have hj4:=cond_f hc5 hj4
      refine e_skipP 4 hF rfl (wanted_f hF rfl rfl rfl hc5 rfl) rfl (by kernel_rfl) (by kernel_rfl) (by kernel_rfl) fun a hF=>e_skipP 5 hF rfl (wanted_f hF rfl rfl rfl hc5 rfl) rfl (by kernel_rfl) (by kernel_rfl) (by kernel_rfl) fun a hF=>e_skipP 6 hF rfl (wanted_f hF rfl rfl rfl hc5 rfl) rfl (by kernel_rfl) (by kernel_rfl) (by kernel_rfl) fun a hF=>e_skipP 7 hF rfl (wanted_f hF rfl rfl rfl hc5 rfl) rfl (by kernel_rfl) (by kernel_rfl) (by kernel_rfl) fun a hF=>e_skipP 8 hF rfl (wanted_f hF rfl rfl rfl hc5 rfl) rfl (by kernel_rfl) (by kernel_rfl) (by kernel_rfl) fun a hF=>e_skipP 9 hF rfl (wanted_f hF rfl rfl rfl hc5 rfl) rfl (by kernel_rfl) (by kernel_rfl) (by kernel_rfl) fun a hF=>e_skipP 10 hF rfl (wanted_f hF rfl rfl rfl hc5 rfl) rfl (by kernel_rfl) (by kernel_rfl) (by kernel_rfl) fun a hF=>e_skipP 11 hF rfl (wanted_f hF rfl rfl rfl hc5 rfl) rfl (by kernel_rfl) (by kernel_rfl) (by kernel_rfl) fun a hF=>e_skipP 12 hF rfl (wanted_f hF rfl rfl rfl hc5 rfl) rfl (by kernel_rfl) (by kernel_rfl) (by kernel_rfl) fun a hF=>e_skipP 13 hF rfl (wanted_f hF rfl rfl rfl hc5 rfl) rfl (by kernel_rfl) (by kernel_rfl) (by kernel_rfl) fun a hF=>e_skipP 14 hF rfl (wanted_f hF rfl rfl rfl hc5 rfl) rfl (by kernel_rfl) (by kernel_rfl) (by kernel_rfl) fun a hF=>e_p (v:=(.bool false)) 15 hF rfl (ex_pick_f rfl rfl hc5) rfl rfl (by kernel_rfl) (by kernel_rfl) (by kernel_rfl) fun a hF=>e_end (by kernel_rfl) (n_jn ?_) _
      obtain rfl:=someI hj4
      exact ⟨hF.sub ⟨rfl,rfl,rfl,rfl,rfl,rfl,trivial⟩,hS⟩
     ·have hj4:=cond_t hc5 hj4
      refine e_pg (v:=s1.v) 4 hF rfl (ex_move rfl) (wanted_t hF rfl rfl rfl hc5) rfl (by kernel_rfl) (by kernel_rfl) (by kernel_rfl) fun a hF=>e_pg (v:=(iV i_6)) 5 hF rfl (ex_move rfl) (wanted_t hF rfl rfl rfl hc5) rfl (by kernel_rfl) (by kernel_rfl) (by kernel_rfl) fun a hF=>?_
      obtain ⟨e_7,he_7,hj4⟩:=bindS hj4
      obtain ⟨vs8,at8,d8⟩:=h3.at he_7 1 rfl
      obtain rfl : vs8 = [(iV e_7)]:=d8
      refine e_pg (v:=(elP s1 (i_6.toNat * 1))) 6 hF rfl (ex_indexAddr Try.underlying28 sz3 rfl rfl (h3.idx he_7)) (wanted_t hF rfl rfl rfl hc5) rfl (by kernel_rfl) (by kernel_rfl) (by kernel_rfl) fun a hF=>e_xg (v:=(iV e_7)) 7 hF hS rfl (ex_loadE1 0 Try.underlying3 rfl rfl (at8.at 0 rfl) rfl rfl) (wanted_t hF rfl rfl rfl hc5) rfl (by kernel_rfl) (by kernel_rfl) (by kernel_rfl) (by kernel_rfl) fun a hF=>e_pg (v:=s1.v) 8 hF rfl (ex_move rfl) (wanted_t hF rfl rfl rfl hc5) rfl (by kernel_rfl) (by kernel_rfl) (by kernel_rfl) fun a hF=>e_pg (v:=(iV i_6)) 9 hF rfl (ex_move rfl) (wanted_t hF rfl rfl rfl hc5) rfl (by kernel_rfl) (by kernel_rfl) (by kernel_rfl) fun a hF=>e_pg (v:=(iV (w64 (i_6 - 1)))) 10 hF rfl (ex_ibin rfl rfl rfl) (wanted_t hF rfl rfl rfl hc5) rfl (by kernel_rfl) (by kernel_rfl) (by kernel_rfl) fun a hF=>?_
      obtain ⟨e_9,he_9,hj4⟩:=bindS hj4
      obtain ⟨vs10,at10,d10⟩:=h3.at he_9 1 rfl
      obtain rfl : vs10 = [(iV e_9)]:=d10
      refine e_pg (v:=(elP s1 ((w64 (i_6 - 1)).toNat * 1))) 11 hF rfl (ex_indexAddr Try.underlying28 sz3 rfl rfl (h3.idx he_9)) (wanted_t hF rfl rfl rfl hc5) rfl (by kernel_rfl) (by kernel_rfl) (by kernel_rfl) fun a hF=>e_xg (v:=(iV e_9)) 12 hF hS rfl (ex_loadE1 0 Try.underlying3 rfl rfl (at10.at 0 rfl) rfl rfl) (wanted_t hF rfl rfl rfl hc5) rfl (by kernel_rfl) (by kernel_rfl) (by kernel_rfl) (by kernel_rfl) fun a hF=>e_one 13 (by kernel_rfl) ?_
      obtain ⟨t_11,ht_11,hj4⟩:=bindS hj4
      refine e_callg (vs:=[(iV e_7),(iV e_9)]) hF hS rfl (wanted_t hF rfl rfl rfl hc5) Try.func193 (by kernel_rfl) rfl rfl rfl (c_cmp_Less_int e_7 e_9 t_11 ht_11 _ m hS.vis) ?_
      rintro a w _ rfl hF hS
      refine e_pg (v:=(.bool (!t_11))) 14 hF rfl (ex_not rfl) (wanted_t hF rfl rfl rfl hc5) rfl (by kernel_rfl) (by kernel_rfl) (by kernel_rfl) fun a hF=>e_p (v:=(.bool (!t_11))) 15 hF rfl (ex_pick_t rfl rfl hc5) rfl rfl (by kernel_rfl) (by kernel_rfl) (by kernel_rfl) fun a hF=>e_end (by kernel_rfl) (n_jn ?_) _
      obtain rfl:=someI hj4
      exact ⟨hF.sub ⟨rfl,rfl,rfl,rfl,rfl,rfl,trivial⟩,hS⟩
    ·rintro a w ⟨hF,hS⟩
     refine n_sq ?_
     rcases bcase (t_12) with hc6 | hc6
     ·have hb3:=cond_f hc6 hb3
      refine q_cond_f hF rfl hc6 (q_exit (x_sq ?_))
      obtain rfl:=someI hb3
      exact ⟨nofun,.inl ⟨rfl,hF.sub ⟨rfl,rfl,rfl,rfl,rfl,trivial⟩,hS⟩⟩
     ·have hb3:=cond_t hc6 hb3
      refine q_cond_t hF rfl hc6 (q_skipc (n_sq (q_block (q_region (q_x (v:=(iV i_6)) hF hS (ex_move rfl) rfl rfl fun a hF=>q_x (v:=(iV (w64 (i_6 + 1)))) hF hS (ex_ibin rfl rfl rfl) rfl rfl fun a hF=>q_x (v:=(iV (w64 (i_6 + 1)))) hF hS (ex_assign rfl) rfl rfl fun a hF=>q_end (n_ib ?_))))))
      obtain rfl:=someI hb3
      exact ⟨rfl,hF.sub ⟨rfl,rfl,rfl,rfl,rfl,trivial⟩,hS⟩
   ·rintro e a w ⟨rfl,hF,hS⟩
    refine x_ib (n_sq ?_)
    refine q_seq (q_seq (q_region (q_x (v:=(iV i_13)) hF hS (ex_move rfl) rfl rfl fun a hF=>q_x (v:=(iV p_b)) hF hS (ex_move rfl) rfl rfl fun a hF=>q_x (v:=(.bool (i_13 == p_b))) hF hS (ex_ibin rfl rfl rfl) rfl rfl fun a hF=>q_end (n_sq ?_))))
    rcases bcase (i_13 == p_b) with hc7 | hc7
    ·have hb1:=cond_f hc7 hb1
     refine q_cond_f hF rfl hc7 (q_skipc (n_sq (q_seq (q_seq (q_region (q_x (v:=(iV p_b)) hF hS (ex_move rfl) rfl rfl fun a hF=>q_x (v:=(iV p_a)) hF hS (ex_move rfl) rfl rfl fun a hF=>q_x (v:=(iV (w64 (p_b - p_a)))) hF hS (ex_ibin rfl rfl rfl) rfl rfl fun a hF=>q_x (v:=(.bool (decide ((w64 (p_b - p_a)) < 50)))) hF hS (ex_ibin rfl rfl rfl) rfl rfl fun a hF=>q_end (n_sq ?_)))))))
     rcases bcase (decide ((w64 (p_b - p_a)) < 50)) with hc8 | hc8
     ·have hb1:=cond_f hc8 hb1
      refine q_cond_f hF rfl hc8 (q_skipc (n_sq (q_seq (e_region ⟨[15,17],[]⟩ mixed fun w' hw'=>?_))))
      have hS:=hS.below hw'
      refine e_p (v:=s1.v) 0 hF rfl (ex_move rfl) rfl rfl (by kernel_rfl) (by kernel_rfl) (by kernel_rfl) fun a hF=>e_p (v:=(iV i_13)) 1 hF rfl (ex_move rfl) rfl rfl (by kernel_rfl) (by kernel_rfl) (by kernel_rfl) fun a hF=>e_p (v:=s1.v) 2 hF rfl (ex_move rfl) rfl rfl (by kernel_rfl) (by kernel_rfl) (by kernel_rfl) fun a hF=>e_p (v:=(iV i_13)) 3 hF rfl (ex_move rfl) rfl rfl (by kernel_rfl) (by kernel_rfl) (by kernel_rfl) fun a hF=>e_p (v:=(iV (w64 (i_13 - 1)))) 4 hF rfl (ex_ibin rfl rfl rfl) rfl rfl (by kernel_rfl) (by kernel_rfl) (by kernel_rfl) fun a hF=>e_p (v:=s1.v) 5 hF rfl (ex_move rfl) rfl rfl (by kernel_rfl) (by kernel_rfl) (by kernel_rfl) fun a hF=>e_p (v:=(iV i_13)) 6 hF rfl (ex_move rfl) rfl rfl (by kernel_rfl) (by kernel_rfl) (by kernel_rfl) fun a hF=>e_p (v:=(iV (w64 (i_13 - 1)))) 7 hF rfl (ex_ibin rfl rfl rfl) rfl rfl (by kernel_rfl) (by kernel_rfl) (by kernel_rfl) fun a hF=>?_
      obtain ⟨e_14,he_14,hb1⟩:=bindS hb1
      obtain ⟨vs15,at15,d15⟩:=h3.at he_14 1 rfl
      obtain rfl : vs15 = [(iV e_14)]:=d15
      refine e_p (v:=(elP s1 ((w64 (i_13 - 1)).toNat * 1))) 8 hF rfl (ex_indexAddr Try.underlying28 sz3 rfl rfl (h3.idx he_14)) rfl rfl (by kernel_rfl) (by kernel_rfl) (by kernel_rfl) fun a hF=>e_x (v:=(iV e_14)) 9 hF hS rfl (ex_loadE1 0 Try.underlying3 rfl rfl (at15.at 0 rfl) rfl rfl) rfl rfl (by kernel_rfl) (by kernel_rfl) (by kernel_rfl) (by kernel_rfl) fun a hF=>e_p (v:=s1.v) 10 hF rfl (ex_move rfl) rfl rfl (by kernel_rfl) (by kernel_rfl) (by kernel_rfl) fun a hF=>e_p (v:=(iV i_13)) 11 hF rfl (ex_move rfl) rfl rfl (by kernel_rfl) (by kernel_rfl) (by kernel_rfl) fun a hF=>?_
      obtain ⟨e_16,he_16,hb1⟩:=bindS hb1
      obtain ⟨vs17,at17,d17⟩:=h3.at he_16 1 rfl
      obtain rfl : vs17 = [(iV e_16)]:=d17
      refine e_p (v:=(elP s1 (i_13.toNat * 1))) 12 hF rfl (ex_indexAddr Try.underlying28 sz3 rfl rfl (h3.idx he_16)) rfl rfl (by kernel_rfl) (by kernel_rfl) (by kernel_rfl) fun a hF=>e_x (v:=(iV e_16)) 13 hF hS rfl (ex_loadE1 0 Try.underlying3 rfl rfl (at17.at 0 rfl) rfl rfl) rfl rfl (by kernel_rfl) (by kernel_rfl) (by kernel_rfl) (by kernel_rfl) fun a hF=>?_
      obtain ⟨e_18,he_18,hb1⟩:=bindS hb1
      obtain ⟨vs19,at19,d19⟩:=h3.at he_18 1 rfl
      obtain rfl : vs19 = [(iV e_18)]:=d19
      refine e_p (v:=(elP s1 (i_13.toNat * 1))) 14 hF rfl (ex_indexAddr Try.underlying28 sz3 rfl rfl (h3.idx he_18)) rfl rfl (by kernel_rfl) (by kernel_rfl) (by kernel_rfl) fun a hF=>e_one 15 (by kernel_rfl) (e_opl rfl rfl rfl fun _ hK=>wp_storeE (e':=e_14) (us:=[(iV e_14)]) (vs:=[(iV e_18)]) 0 hF hS h3 sz3 rfl rfl rfl rfl rfl rfl rfl he_18 at19 rfl rfl rfl fun w q20 hS h20=>hK _ _ (⟨kpN,?_⟩))
      obtain ⟨e_21,he_21,hb1⟩:=bindS hb1
      obtain ⟨vs22,at22,d22⟩:=h20.at he_21 1 rfl
      obtain rfl : vs22 = [(iV e_21)]:=d22
      refine e_p (v:=(elP s1 ((w64 (i_13 - 1)).toNat * 1))) 16 hF rfl (ex_indexAddr Try.underlying28 sz3 rfl rfl (h20.idx he_21)) rfl rfl (by kernel_rfl) (by kernel_rfl) (by kernel_rfl) fun a hF=>e_one 17 (by kernel_rfl) (e_opl rfl rfl rfl fun _ hK=>wp_storeE (e':=e_16) (us:=[(iV e_16)]) (vs:=[(iV e_21)]) 0 hF hS h20 sz3 rfl rfl rfl rfl rfl rfl rfl he_21 at22 rfl rfl rfl fun w q23 hS h23=>hK _ _ (⟨kpN,?_⟩))
      refine e_end (by kernel_rfl) (n_sq ?_) _
      refine q_seq (q_seq (q_region (q_x (v:=(iV i_13)) hF hS (ex_move rfl) rfl rfl fun a hF=>q_x (v:=(iV p_a)) hF hS (ex_move rfl) rfl rfl fun a hF=>q_x (v:=(iV (w64 (i_13 - p_a)))) hF hS (ex_ibin rfl rfl rfl) rfl rfl fun a hF=>q_x (v:=(.bool (decide (2 ≤ (w64 (i_13 - p_a)))))) hF hS (ex_ibin rfl rfl rfl) rfl rfl fun a hF=>q_end (n_sq ?_))))
      obtain ⟨data_44,hj9,hb1⟩:=bindS hb1
      refine q_join (fun a w=>∃ (q45 : Piece),Fr a 133 [(0,s1.v),(1,(iV p_a)),(2,(iV p_b)),(7,(iV i_13)),(8,(iV j_5))]∧St X w0 w m [q45]∧OwnL m 3 q45 s1 data_44) ?_ ?_
      ·rcases bcase (decide (2 ≤ (w64 (i_13 - p_a)))) with hc10 | hc10
       ·have hj9:=cond_f hc10 hj9
        refine q_cond_f hF rfl hc10 (q_skipc (n_jn ?_))
        obtain rfl:=someI hj9
        exact ⟨q23,hF.sub ⟨rfl,rfl,rfl,rfl,rfl,trivial⟩,hS,h23⟩
       ·have hj9:=cond_t hc10 hj9
        refine q_cond_t hF rfl hc10 (q_seq (q_region (q_x (v:=(iV i_13)) hF hS (ex_move rfl) rfl rfl fun a hF=>q_x (v:=(iV (w64 (i_13 - 1)))) hF hS (ex_ibin rfl rfl rfl) rfl rfl fun a hF=>q_x (v:=(iV (w64 (i_13 - 1)))) hF hS (ex_assign rfl) rfl rfl fun a hF=>q_end (n_sq (q_block ?_)))))
        obtain ⟨data_42,hl11,hj9⟩:=bindS hj9
        refine q_loop (fun (s : (List Int) × Int) a w=>∃ (q25 : Piece),∃ data_24,∃ j_26,s = (data_24,j_26)∧Fr a 133 [(0,s1.v),(1,(iV p_a)),(2,(iV p_b)),(7,(iV i_13)),(8,(iV j_5)),(9,(iV j_26))]∧St X w0 w m [q25]∧OwnL m 3 q25 s1 data_24) (fun (data_42 : (List Int)) e a w=>∃ (q43 : Piece),e = .exit 4∧Fr a 133 [(0,s1.v),(1,(iV p_a)),(2,(iV p_b)),(7,(iV i_13)),(8,(iV j_5))]∧St X w0 w m [q43]∧OwnL m 3 q43 s1 data_42) hl11 ⟨q23,_,_,rfl,hF.sub ⟨rfl,rfl,rfl,rfl,rfl,rfl,trivial⟩,hS,h23⟩ ?_ ?_
        ·clear hF hS
         rintro s a w st ⟨q25,data_24,j_26,rfl,hF,hS,h25⟩ hb11
         unfold slices_partialInsertionSortOrdered_int_l3 at hb11
         refine q_seq (q_seq (q_region (q_x (v:=(iV j_26)) hF hS (ex_move rfl) rfl rfl fun a hF=>q_x (v:=(.bool (decide (1 ≤ j_26)))) hF hS (ex_ibin rfl rfl rfl) rfl rfl fun a hF=>q_end (n_sq ?_))))
         rcases bcase (decide (1 ≤ j_26)) with hc12 | hc12
         ·have hb11:=cond_f hc12 hb11
          refine q_cond_f hF rfl hc12 (q_exit (x_sq ?_))
          obtain rfl:=someI hb11
          exact ⟨nofun,.inl ⟨q25,rfl,hF.sub ⟨rfl,rfl,rfl,rfl,rfl,trivial⟩,hS,h25⟩⟩
         ·have hb11:=cond_t hc12 hb11
          refine q_cond_t hF rfl hc12 (q_skipc (n_sq (q_seq (q_block (q_seq (q_seq (e_region ⟨[],[]⟩ mixed fun w' hw'=>?_)))))))
          have hS:=hS.below hw'
          refine e_p (v:=s1.v) 0 hF rfl (ex_move rfl) rfl rfl (by kernel_rfl) (by kernel_rfl) (by kernel_rfl) fun a hF=>e_p (v:=(iV j_26)) 1 hF rfl (ex_move rfl) rfl rfl (by kernel_rfl) (by kernel_rfl) (by kernel_rfl) fun a hF=>?_
          obtain ⟨e_27,he_27,hb11⟩:=bindS hb11
          obtain ⟨vs28,at28,d28⟩:=h25.at he_27 1 rfl
          obtain rfl : vs28 = [(iV e_27)]:=d28
          refine e_p (v:=(elP s1 (j_26.toNat * 1))) 2 hF rfl (ex_indexAddr Try.underlying28 sz3 rfl rfl (h25.idx he_27)) rfl rfl (by kernel_rfl) (by kernel_rfl) (by kernel_rfl) fun a hF=>e_x (v:=(iV e_27)) 3 hF hS rfl (ex_loadE1 0 Try.underlying3 rfl rfl (at28.at 0 rfl) rfl rfl) rfl rfl (by kernel_rfl) (by kernel_rfl) (by kernel_rfl) (by kernel_rfl) fun a hF=>e_p (v:=s1.v) 4 hF rfl (ex_move rfl) rfl rfl (by kernel_rfl) (by kernel_rfl) (by kernel_rfl) fun a hF=>e_p (v:=(iV j_26)) 5 hF rfl (ex_move rfl) rfl rfl (by kernel_rfl) (by kernel_rfl) (by kernel_rfl) fun a hF=>e_p (v:=(iV (w64 (j_26 - 1)))) 6 hF rfl (ex_ibin rfl rfl rfl) rfl rfl (by kernel_rfl) (by kernel_rfl) (by kernel_rfl) fun a hF=>?_
          obtain ⟨e_29,he_29,hb11⟩:=bindS hb11
          obtain ⟨vs30,at30,d30⟩:=h25.at he_29 1 rfl
          obtain rfl : vs30 = [(iV e_29)]:=d30
          refine e_p (v:=(elP s1 ((w64 (j_26 - 1)).toNat * 1))) 7 hF rfl (ex_indexAddr Try.underlying28 sz3 rfl rfl (h25.idx he_29)) rfl rfl (by kernel_rfl) (by kernel_rfl) (by kernel_rfl) fun a hF=>e_x (v:=(iV e_29)) 8 hF hS rfl (ex_loadE1 0 Try.underlying3 rfl rfl (at30.at 0 rfl) rfl rfl) rfl rfl (by kernel_rfl) (by kernel_rfl) (by kernel_rfl) (by kernel_rfl) fun a hF=>e_one 9 (by kernel_rfl) ?_
          obtain ⟨t_31,ht_31,hb11⟩:=bindS hb11
          refine e_call (vs:=[(iV e_27),(iV e_29)]) hF hS rfl Try.func193 (by kernel_rfl) rfl rfl rfl (c_cmp_Less_int e_27 e_29 t_31 ht_31 _ m hS.vis) ?_
          rintro a w _ rfl hF hS
          refine e_p (v:=(.bool (!t_31))) 10 hF rfl (ex_not rfl) rfl rfl (by kernel_rfl) (by kernel_rfl) (by kernel_rfl) fun a hF=>e_end (by kernel_rfl) (n_sq ?_) _
          rcases bcase (!t_31) with hc13 | hc13
          ·have hb11:=cond_f hc13 hb11
           refine q_cond_f hF rfl hc13 (q_skipc (n_sq (e_region ⟨[15,17],[]⟩ mixed fun w' hw'=>?_)))
           have hS:=hS.below hw'
           refine e_p (v:=s1.v) 0 hF rfl (ex_move rfl) rfl rfl (by kernel_rfl) (by kernel_rfl) (by kernel_rfl) fun a hF=>e_p (v:=(iV j_26)) 1 hF rfl (ex_move rfl) rfl rfl (by kernel_rfl) (by kernel_rfl) (by kernel_rfl) fun a hF=>e_p (v:=s1.v) 2 hF rfl (ex_move rfl) rfl rfl (by kernel_rfl) (by kernel_rfl) (by kernel_rfl) fun a hF=>e_p (v:=(iV j_26)) 3 hF rfl (ex_move rfl) rfl rfl (by kernel_rfl) (by kernel_rfl) (by kernel_rfl) fun a hF=>e_p (v:=(iV (w64 (j_26 - 1)))) 4 hF rfl (ex_ibin rfl rfl rfl) rfl rfl (by kernel_rfl) (by kernel_rfl) (by kernel_rfl) fun a hF=>e_p (v:=s1.v) 5 hF rfl (ex_move rfl) rfl rfl (by kernel_rfl) (by kernel_rfl) (by kernel_rfl) fun a hF=>e_p (v:=(iV j_26)) 6 hF rfl (ex_move rfl) rfl rfl (by kernel_rfl) (by kernel_rfl) (by kernel_rfl) fun a hF=>e_p (v:=(iV (w64 (j_26 - 1)))) 7 hF rfl (ex_ibin rfl rfl rfl) rfl rfl (by kernel_rfl) (by kernel_rfl) (by kernel_rfl) fun a hF=>?_
           obtain ⟨e_32,he_32,hb11⟩:=bindS hb11
           obtain ⟨vs33,at33,d33⟩:=h25.at he_32 1 rfl
           obtain rfl : vs33 = [(iV e_32)]:=d33
           refine e_p (v:=(elP s1 ((w64 (j_26 - 1)).toNat * 1))) 8 hF rfl (ex_indexAddr Try.underlying28 sz3 rfl rfl (h25.idx he_32)) rfl rfl (by kernel_rfl) (by kernel_rfl) (by kernel_rfl) fun a hF=>e_x (v:=(iV e_32)) 9 hF hS rfl (ex_loadE1 0 Try.underlying3 rfl rfl (at33.at 0 rfl) rfl rfl) rfl rfl (by kernel_rfl) (by kernel_rfl) (by kernel_rfl) (by kernel_rfl) fun a hF=>e_p (v:=s1.v) 10 hF rfl (ex_move rfl) rfl rfl (by kernel_rfl) (by kernel_rfl) (by kernel_rfl) fun a hF=>e_p (v:=(iV j_26)) 11 hF rfl (ex_move rfl) rfl rfl (by kernel_rfl) (by kernel_rfl) (by kernel_rfl) fun a hF=>?_
           obtain ⟨e_34,he_34,hb11⟩:=bindS hb11
           obtain ⟨vs35,at35,d35⟩:=h25.at he_34 1 rfl
           obtain rfl : vs35 = [(iV e_34)]:=d35
           refine e_p (v:=(elP s1 (j_26.toNat * 1))) 12 hF rfl (ex_indexAddr Try.underlying28 sz3 rfl rfl (h25.idx he_34)) rfl rfl (by kernel_rfl) (by kernel_rfl) (by kernel_rfl) fun a hF=>e_x (v:=(iV e_34)) 13 hF hS rfl (ex_loadE1 0 Try.underlying3 rfl rfl (at35.at 0 rfl) rfl rfl) rfl rfl (by kernel_rfl) (by kernel_rfl) (by kernel_rfl) (by kernel_rfl) fun a hF=>?_
           obtain ⟨e_36,he_36,hb11⟩:=bindS hb11
           obtain ⟨vs37,at37,d37⟩:=h25.at he_36 1 rfl
           obtain rfl : vs37 = [(iV e_36)]:=d37
           refine e_p (v:=(elP s1 (j_26.toNat * 1))) 14 hF rfl (ex_indexAddr Try.underlying28 sz3 rfl rfl (h25.idx he_36)) rfl rfl (by kernel_rfl) (by kernel_rfl) (by kernel_rfl) fun a hF=>e_one 15 (by kernel_rfl) (e_opl rfl rfl rfl fun _ hK=>wp_storeE (e':=e_32) (us:=[(iV e_32)]) (vs:=[(iV e_36)]) 0 hF hS h25 sz3 rfl rfl rfl rfl rfl rfl rfl he_36 at37 rfl rfl rfl fun w q38 hS h38=>hK _ _ (⟨kpN,?_⟩))
           obtain ⟨e_39,he_39,hb11⟩:=bindS hb11
           obtain ⟨vs40,at40,d40⟩:=h38.at he_39 1 rfl
           obtain rfl : vs40 = [(iV e_39)]:=d40
           refine e_p (v:=(elP s1 ((w64 (j_26 - 1)).toNat * 1))) 16 hF rfl (ex_indexAddr Try.underlying28 sz3 rfl rfl (h38.idx he_39)) rfl rfl (by kernel_rfl) (by kernel_rfl) (by kernel_rfl) fun a hF=>e_one 17 (by kernel_rfl) (e_opl rfl rfl rfl fun _ hK=>wp_storeE (e':=e_34) (us:=[(iV e_34)]) (vs:=[(iV e_39)]) 0 hF hS h38 sz3 rfl rfl rfl rfl rfl rfl rfl he_39 at40 rfl rfl rfl fun w q41 hS h41=>hK _ _ (⟨kpN,?_⟩))
           refine e_end (by kernel_rfl) (n_ib (n_sq ?_)) _
           refine q_region (q_x (v:=(iV j_26)) hF hS (ex_move rfl) rfl rfl fun a hF=>q_x (v:=(iV (w64 (j_26 - 1)))) hF hS (ex_ibin rfl rfl rfl) rfl rfl fun a hF=>q_x (v:=(iV (w64 (j_26 - 1)))) hF hS (ex_assign rfl) rfl rfl fun a hF=>q_end ?_)
           obtain rfl:=someI hb11
           exact ⟨rfl,q41,_,_,rfl,hF.sub ⟨rfl,rfl,rfl,rfl,rfl,rfl,trivial⟩,hS,h41⟩
          ·have hb11:=cond_t hc13 hb11
           refine q_cond_t hF rfl hc13 (q_exit (x_sq (x_ibn rfl (x_sq ?_))))
           obtain rfl:=someI hb11
           exact ⟨nofun,.inl ⟨q25,rfl,hF.sub ⟨rfl,rfl,rfl,rfl,rfl,trivial⟩,hS,h25⟩⟩
        ·rintro e a w ⟨q43,rfl,hF,hS,h43⟩
         refine x_ib (n_jn ?_)
         obtain rfl:=someI hj9
         exact ⟨q43,hF.sub ⟨rfl,rfl,rfl,rfl,rfl,trivial⟩,hS,h43⟩
      ·rintro a w ⟨q45,hF,hS,h45⟩
       refine n_sq ?_
       refine q_seq (q_region (q_x (v:=(iV p_b)) hF hS (ex_move rfl) rfl rfl fun a hF=>q_x (v:=(iV i_13)) hF hS (ex_move rfl) rfl rfl fun a hF=>q_x (v:=(iV (w64 (p_b - i_13)))) hF hS (ex_ibin rfl rfl rfl) rfl rfl fun a hF=>q_x (v:=(.bool (decide (2 ≤ (w64 (p_b - i_13)))))) hF hS (ex_ibin rfl rfl rfl) rfl rfl fun a hF=>q_end (n_sq ?_)))
       obtain ⟨data_66,hj14,hb1⟩:=bindS hb1
       refine q_join (fun a w=>∃ (q67 : Piece),Fr a 133 [(0,s1.v),(1,(iV p_a)),(2,(iV p_b)),(7,(iV i_13)),(8,(iV j_5))]∧St X w0 w m [q67]∧OwnL m 3 q67 s1 data_66) ?_ ?_
       ·rcases bcase (decide (2 ≤ (w64 (p_b - i_13)))) with hc15 | hc15
        ·have hj14:=cond_f hc15 hj14
         refine q_cond_f hF rfl hc15 (q_skipc (n_jn ?_))
         obtain rfl:=someI hj14
         exact ⟨q45,hF.sub ⟨rfl,rfl,rfl,rfl,rfl,trivial⟩,hS,h45⟩
        ·have hj14:=cond_t hc15 hj14
         refine q_cond_t hF rfl hc15 (q_seq (q_region (q_x (v:=(iV i_13)) hF hS (ex_move rfl) rfl rfl fun a hF=>q_x (v:=(iV (w64 (i_13 + 1)))) hF hS (ex_ibin rfl rfl rfl) rfl rfl fun a hF=>q_x (v:=(iV (w64 (i_13 + 1)))) hF hS (ex_assign rfl) rfl rfl fun a hF=>q_end (n_sq (q_block ?_)))))
         obtain ⟨data_64,hl16,hj14⟩:=bindS hj14
         refine q_loop (fun (s : (List Int) × Int) a w=>∃ (q47 : Piece),∃ data_46,∃ j_48,s = (data_46,j_48)∧Fr a 133 [(0,s1.v),(1,(iV p_a)),(2,(iV p_b)),(7,(iV i_13)),(8,(iV j_5)),(10,(iV j_48))]∧St X w0 w m [q47]∧OwnL m 3 q47 s1 data_46) (fun (data_64 : (List Int)) e a w=>∃ (q65 : Piece),e = .exit 6∧Fr a 133 [(0,s1.v),(1,(iV p_a)),(2,(iV p_b)),(7,(iV i_13)),(8,(iV j_5))]∧St X w0 w m [q65]∧OwnL m 3 q65 s1 data_64) hl16 ⟨q45,_,_,rfl,hF.sub ⟨rfl,rfl,rfl,rfl,rfl,rfl,trivial⟩,hS,h45⟩ ?_ ?_
         ·clear hF hS
          rintro s a w st ⟨q47,data_46,j_48,rfl,hF,hS,h47⟩ hb16
          unfold slices_partialInsertionSortOrdered_int_l4 at hb16
          refine q_seq (q_seq (q_region (q_x (v:=(iV j_48)) hF hS (ex_move rfl) rfl rfl fun a hF=>q_x (v:=(iV p_b)) hF hS (ex_move rfl) rfl rfl fun a hF=>q_x (v:=(.bool (decide (j_48 < p_b)))) hF hS (ex_ibin rfl rfl rfl) rfl rfl fun a hF=>q_end (n_sq ?_))))
          rcases bcase (decide (j_48 < p_b)) with hc17 | hc17
          ·have hb16:=cond_f hc17 hb16
           refine q_cond_f hF rfl hc17 (q_exit (x_sq ?_))
           obtain rfl:=someI hb16
           exact ⟨nofun,.inl ⟨q47,rfl,hF.sub ⟨rfl,rfl,rfl,rfl,rfl,trivial⟩,hS,h47⟩⟩
          ·have hb16:=cond_t hc17 hb16
           refine q_cond_t hF rfl hc17 (q_skipc (n_sq (q_seq (q_block (q_seq (q_seq (e_region ⟨[],[]⟩ mixed fun w' hw'=>?_)))))))
           have hS:=hS.below hw'
           refine e_p (v:=s1.v) 0 hF rfl (ex_move rfl) rfl rfl (by kernel_rfl) (by kernel_rfl) (by kernel_rfl) fun a hF=>e_p (v:=(iV j_48)) 1 hF rfl (ex_move rfl) rfl rfl (by kernel_rfl) (by kernel_rfl) (by kernel_rfl) fun a hF=>?_
           obtain ⟨e_49,he_49,hb16⟩:=bindS hb16
           obtain ⟨vs50,at50,d50⟩:=h47.at he_49 1 rfl
           obtain rfl : vs50 = [(iV e_49)]:=d50
           refine e_p (v:=(elP s1 (j_48.toNat * 1))) 2 hF rfl (ex_indexAddr Try.underlying28 sz3 rfl rfl (h47.idx he_49)) rfl rfl (by kernel_rfl) (by kernel_rfl) (by kernel_rfl) fun a hF=>e_x (v:=(iV e_49)) 3 hF hS rfl (ex_loadE1 0 Try.underlying3 rfl rfl (at50.at 0 rfl) rfl rfl) rfl rfl (by kernel_rfl) (by kernel_rfl) (by kernel_rfl) (by kernel_rfl) fun a hF=>e_p (v:=s1.v) 4 hF rfl (ex_move rfl) rfl rfl (by kernel_rfl) (by kernel_rfl) (by kernel_rfl) fun a hF=>e_p (v:=(iV j_48)) 5 hF rfl (ex_move rfl) rfl rfl (by kernel_rfl) (by kernel_rfl) (by kernel_rfl) fun a hF=>e_p (v:=(iV (w64 (j_48 - 1)))) 6 hF rfl (ex_ibin rfl rfl rfl) rfl rfl (by kernel_rfl) (by kernel_rfl) (by kernel_rfl) fun a hF=>?_
           obtain ⟨e_51,he_51,hb16⟩:=bindS hb16
           obtain ⟨vs52,at52,d52⟩:=h47.at he_51 1 rfl
           obtain rfl : vs52 = [(iV e_51)]:=d52
           refine e_p (v:=(elP s1 ((w64 (j_48 - 1)).toNat * 1))) 7 hF rfl (ex_indexAddr Try.underlying28 sz3 rfl rfl (h47.idx he_51)) rfl rfl (by kernel_rfl) (by kernel_rfl) (by kernel_rfl) fun a hF=>e_x (v:=(iV e_51)) 8 hF hS rfl (ex_loadE1 0 Try.underlying3 rfl rfl (at52.at 0 rfl) rfl rfl) rfl rfl (by kernel_rfl) (by kernel_rfl) (by kernel_rfl) (by kernel_rfl) fun a hF=>e_one 9 (by kernel_rfl) ?_
           obtain ⟨t_53,ht_53,hb16⟩:=bindS hb16
           refine e_call (vs:=[(iV e_49),(iV e_51)]) hF hS rfl Try.func193 (by kernel_rfl) rfl rfl rfl (c_cmp_Less_int e_49 e_51 t_53 ht_53 _ m hS.vis) ?_
           rintro a w _ rfl hF hS
           refine e_p (v:=(.bool (!t_53))) 10 hF rfl (ex_not rfl) rfl rfl (by kernel_rfl) (by kernel_rfl) (by kernel_rfl) fun a hF=>e_end (by kernel_rfl) (n_sq ?_) _
           rcases bcase (!t_53) with hc18 | hc18
           ·have hb16:=cond_f hc18 hb16
            refine q_cond_f hF rfl hc18 (q_skipc (n_sq (e_region ⟨[15,17],[]⟩ mixed fun w' hw'=>?_)))
            have hS:=hS.below hw'
            refine e_p (v:=s1.v) 0 hF rfl (ex_move rfl) rfl rfl (by kernel_rfl) (by kernel_rfl) (by kernel_rfl) fun a hF=>e_p (v:=(iV j_48)) 1 hF rfl (ex_move rfl) rfl rfl (by kernel_rfl) (by kernel_rfl) (by kernel_rfl) fun a hF=>e_p (v:=s1.v) 2 hF rfl (ex_move rfl) rfl rfl (by kernel_rfl) (by kernel_rfl) (by kernel_rfl) fun a hF=>e_p (v:=(iV j_48)) 3 hF rfl (ex_move rfl) rfl rfl (by kernel_rfl) (by kernel_rfl) (by kernel_rfl) fun a hF=>e_p (v:=(iV (w64 (j_48 - 1)))) 4 hF rfl (ex_ibin rfl rfl rfl) rfl rfl (by kernel_rfl) (by kernel_rfl) (by kernel_rfl) fun a hF=>e_p (v:=s1.v) 5 hF rfl (ex_move rfl) rfl rfl (by kernel_rfl) (by kernel_rfl) (by kernel_rfl) fun a hF=>e_p (v:=(iV j_48)) 6 hF rfl (ex_move rfl) rfl rfl (by kernel_rfl) (by kernel_rfl) (by kernel_rfl) fun a hF=>e_p (v:=(iV (w64 (j_48 - 1)))) 7 hF rfl (ex_ibin rfl rfl rfl) rfl rfl (by kernel_rfl) (by kernel_rfl) (by kernel_rfl) fun a hF=>?_
            obtain ⟨e_54,he_54,hb16⟩:=bindS hb16
            obtain ⟨vs55,at55,d55⟩:=h47.at he_54 1 rfl
            obtain rfl : vs55 = [(iV e_54)]:=d55
            refine e_p (v:=(elP s1 ((w64 (j_48 - 1)).toNat * 1))) 8 hF rfl (ex_indexAddr Try.underlying28 sz3 rfl rfl (h47.idx he_54)) rfl rfl (by kernel_rfl) (by kernel_rfl) (by kernel_rfl) fun a hF=>e_x (v:=(iV e_54)) 9 hF hS rfl (ex_loadE1 0 Try.underlying3 rfl rfl (at55.at 0 rfl) rfl rfl) rfl rfl (by kernel_rfl) (by kernel_rfl) (by kernel_rfl) (by kernel_rfl) fun a hF=>e_p (v:=s1.v) 10 hF rfl (ex_move rfl) rfl rfl (by kernel_rfl) (by kernel_rfl) (by kernel_rfl) fun a hF=>e_p (v:=(iV j_48)) 11 hF rfl (ex_move rfl) rfl rfl (by kernel_rfl) (by kernel_rfl) (by kernel_rfl) fun a hF=>?_
            obtain ⟨e_56,he_56,hb16⟩:=bindS hb16
            obtain ⟨vs57,at57,d57⟩:=h47.at he_56 1 rfl
            obtain rfl : vs57 = [(iV e_56)]:=d57
            refine e_p (v:=(elP s1 (j_48.toNat * 1))) 12 hF rfl (ex_indexAddr Try.underlying28 sz3 rfl rfl (h47.idx he_56)) rfl rfl (by kernel_rfl) (by kernel_rfl) (by kernel_rfl) fun a hF=>e_x (v:=(iV e_56)) 13 hF hS rfl (ex_loadE1 0 Try.underlying3 rfl rfl (at57.at 0 rfl) rfl rfl) rfl rfl (by kernel_rfl) (by kernel_rfl) (by kernel_rfl) (by kernel_rfl) fun a hF=>?_
            obtain ⟨e_58,he_58,hb16⟩:=bindS hb16
            obtain ⟨vs59,at59,d59⟩:=h47.at he_58 1 rfl
            obtain rfl : vs59 = [(iV e_58)]:=d59
            refine e_p (v:=(elP s1 (j_48.toNat * 1))) 14 hF rfl (ex_indexAddr Try.underlying28 sz3 rfl rfl (h47.idx he_58)) rfl rfl (by kernel_rfl) (by kernel_rfl) (by kernel_rfl) fun a hF=>e_one 15 (by kernel_rfl) (e_opl rfl rfl rfl fun _ hK=>wp_storeE (e':=e_54) (us:=[(iV e_54)]) (vs:=[(iV e_58)]) 0 hF hS h47 sz3 rfl rfl rfl rfl rfl rfl rfl he_58 at59 rfl rfl rfl fun w q60 hS h60=>hK _ _ (⟨kpN,?_⟩))
            obtain ⟨e_61,he_61,hb16⟩:=bindS hb16
            obtain ⟨vs62,at62,d62⟩:=h60.at he_61 1 rfl
            obtain rfl : vs62 = [(iV e_61)]:=d62
            refine e_p (v:=(elP s1 ((w64 (j_48 - 1)).toNat * 1))) 16 hF rfl (ex_indexAddr Try.underlying28 sz3 rfl rfl (h60.idx he_61)) rfl rfl (by kernel_rfl) (by kernel_rfl) (by kernel_rfl) fun a hF=>e_one 17 (by kernel_rfl) (e_opl rfl rfl rfl fun _ hK=>wp_storeE (e':=e_56) (us:=[(iV e_56)]) (vs:=[(iV e_61)]) 0 hF hS h60 sz3 rfl rfl rfl rfl rfl rfl rfl he_61 at62 rfl rfl rfl fun w q63 hS h63=>hK _ _ (⟨kpN,?_⟩))
            refine e_end (by kernel_rfl) (n_ib (n_sq ?_)) _
            refine q_region (q_x (v:=(iV j_48)) hF hS (ex_move rfl) rfl rfl fun a hF=>q_x (v:=(iV (w64 (j_48 + 1)))) hF hS (ex_ibin rfl rfl rfl) rfl rfl fun a hF=>q_x (v:=(iV (w64 (j_48 + 1)))) hF hS (ex_assign rfl) rfl rfl fun a hF=>q_end ?_)
            obtain rfl:=someI hb16
            exact ⟨rfl,q63,_,_,rfl,hF.sub ⟨rfl,rfl,rfl,rfl,rfl,rfl,trivial⟩,hS,h63⟩
           ·have hb16:=cond_t hc18 hb16
            refine q_cond_t hF rfl hc18 (q_exit (x_sq (x_ibn rfl (x_sq ?_))))
            obtain rfl:=someI hb16
            exact ⟨nofun,.inl ⟨q47,rfl,hF.sub ⟨rfl,rfl,rfl,rfl,rfl,trivial⟩,hS,h47⟩⟩
         ·rintro e a w ⟨q65,rfl,hF,hS,h65⟩
          refine x_ib (n_jn ?_)
          obtain rfl:=someI hj14
          exact ⟨q65,hF.sub ⟨rfl,rfl,rfl,rfl,rfl,trivial⟩,hS,h65⟩
       ·rintro a w ⟨q67,hF,hS,h67⟩
        refine n_ib (n_sq ?_)
        refine q_region (q_x (v:=(iV j_5)) hF hS (ex_move rfl) rfl rfl fun a hF=>q_x (v:=(iV (w64 (j_5 + 1)))) hF hS (ex_ibin rfl rfl rfl) rfl rfl fun a hF=>q_x (v:=(iV (w64 (j_5 + 1)))) hF hS (ex_assign rfl) rfl rfl fun a hF=>q_end ?_)
        obtain rfl:=someI hb1
        exact ⟨rfl,q67,_,_,_,rfl,hF.sub ⟨rfl,rfl,rfl,rfl,rfl,trivial⟩,hS,h67⟩
     ·have hb1:=cond_t hc8 hb1
      refine q_cond_t hF rfl hc8 (q_seq (q_region (q_x (v:=(.bool false)) hF hS (ex_assign rfl) rfl rfl fun a hF=>q_end (n_sq (q_ret (r_sq (r_ib (r_sq ?_))))))))
      obtain rfl:=someI hb1
      refine ⟨nofun,.inr fun ho=>?_⟩
      subst ho
      refine r_ib (r_sq ?_)
      obtain rfl:=someI hr
      exact ret_ofX hF hS rfl (.tmp rfl .nil) ⟨q3,rfl,hS.sel [0] (by decide),h3⟩
    ·have hb1:=cond_t hc7 hb1
     refine q_cond_t hF rfl hc7 (q_seq (q_region (q_x (v:=(.bool true)) hF hS (ex_assign rfl) rfl rfl fun a hF=>q_end (n_sq (q_ret (r_sq (r_ib (r_sq ?_))))))))
     obtain rfl:=someI hb1
     refine ⟨nofun,.inr fun ho=>?_⟩
     subst ho
     refine r_ib (r_sq ?_)
     obtain rfl:=someI hr
     exact ret_ofX hF hS rfl (.tmp rfl .nil) ⟨q3,rfl,hS.sel [0] (by decide),h3⟩
 ·rintro e a w ⟨q69,data_68,rfl,rfl,hF,hS,h69⟩
  refine x_ib (n_sq ?_)
  refine q_seq (q_region (q_x (v:=(.bool false)) hF hS (ex_assign rfl) rfl rfl fun a hF=>q_end (n_sq (q_ret ?_))))
  obtain rfl:=someI hr
  exact ret_ofX hF hS rfl (.tmp rfl .nil) ⟨q69,rfl,hS.sel [0] (by decide),h69⟩

end Go.Proofs.Ytpjcfmpfiadkgaa
